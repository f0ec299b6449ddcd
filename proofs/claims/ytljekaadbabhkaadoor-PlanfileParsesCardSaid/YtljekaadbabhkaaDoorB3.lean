/- Texts of the proof, part 3 of 4. -/
import Derived.Shelf.SlSortCmp.WholeK
import Derived.Shelf.SlSortCmp.Whole1
import Derived.Ground.SlsfProg
import Derived.Shelf.Strings.Builder1
import Derived.Shelf.Strings.Builder2
import Derived.Shelf.Strings.OnBuilder
import Derived.Shelf.Strings.Trim
import Derived.Shelf.Small.Utf8
import Derived.Shelf.Small.Strs
import Derived.Shelf.Strings.BuilderF
import Derived.Shelf.Strings.BuilderK
import Derived.Shelf.Utf8.RuneCount
import Derived.Shelf.Strings.Builder2Cap
import Derived.Shelf.Strconv.Itoa0
import Derived.Shelf.Strconv.Itoa1
import Derived.Shelf.LaysM
import Derived.Shelf.Strconv.Itoa2
import Derived.Shelf.Strconv.Itoa3
import Derived.Shelf.Strconv.Clone
import Derived.Shelf.Strings.Search1
import Derived.Shelf.Strings.Search2
import Derived.Shelf.Strings.Search3
import Derived.Shelf.Strings.Cut
import Derived.Shelf.Strings.Count
import Derived.Shelf.Strings.Shaped
import Derived.Shelf.Strings.Split
import Derived.Shelf.Strings.SplitShaped
import Derived.Shelf.Unicode.Decode
import Derived.Shelf.Strings.Runes
import Derived.Shelf.Strings.RuneCount
import Derived.Shelf.Strings.AsciiSet
import Derived.Shelf.Strings.Explode
import Derived.Shelf.Unicode.DecodeSlow
import Derived.Shelf.Unicode.DecodeAny
import Derived.Shelf.Unicode.DecodeLast
import Derived.Shelf.Strings.FieldsFuncAny
import Derived.Shelf.Strings.BuilderCap
import Derived.Shelf.Slices.Turned
import Derived.Ground.Names2Prog
import Derived.Shelf.Slices.Clone
import Derived.Ground.SlgnProg
import Derived.Shelf.SlicesE.Clone
import Derived.Test.YtljekaadbabhkaaDoorProg
import Derived.Test.YtljekaadbabhkaaDoorB2
import Derived.Shelf.Strings.SlTrimAscii
/-
  DERIVED: THE SHELF's CONTRACTS AT THIS DUMP, IN PLAIN WORDS (tools/lay-plain.mjs out of 'TrydShelf.lean', which tools/lay-shelf.mjs wrote): THE SAME DECLARATIONS UNDER THE SAME NAMES: 'import', 'namespace', 'open', 'def', 'theorem' AND NOTHING ELSE: no command of the shelf's: FOR A HAND-IN. Each laying: the table of numbers ('.._ren') and one theorem, a field a fact of the dump's own or the kernel's comparison; each contract: ONE APPLICATION.
-/
namespace Go.Proofs
open Go.Shelf
def Tryd.lays170_ren : Go.Shelf.Ren := ⟨fun | 170 => 39 | n => n, fun | 70 => 66 | 3 => 3 | 0 => 0 | 72 => 68 | 37 => 43 | 5 => 5 | n => n, fun | n => n⟩
theorem Tryd.lays170 : Go.Proofs.Lays.n170 Tryd.prog Tryd.lays170_ren := {
  mixed := by kernel_rfl
  f170 := Tryd.func39.trans (congrArg some (by kernel_rfl))
  t0 := Tryd.underlying0
  a0 := Tryd.isAgg0
  z0 := Tryd.sizeOf0
  v0 := Tryd.zeroValue0
  t3 := Tryd.underlying3
  a3 := Tryd.isAgg3
  z3 := Tryd.sizeOf3
  v3 := Tryd.zeroValue3
  t37 := Tryd.underlying43
  a37 := Tryd.isAgg43
  z37 := Tryd.sizeOf43
  v37 := Tryd.zeroValue43
  t70 := Tryd.underlying66
  a70 := Tryd.isAgg66
  z70 := Tryd.sizeOf66
  v70 := Tryd.zeroValue66
  t72 := Tryd.underlying68
  a72 := Tryd.isAgg68
  z72 := Tryd.sizeOf68
  v72 := Tryd.zeroValue68 }
open Go.RowKit in
/-- (*strings.Builder).Len: "Len returns the number of accumulated bytes; b.Len() == len(b.String()).": the world is as it was. (LAID: no walk: one application.) -/
theorem Tryd.Builder_Len (B b : Nat) (bs : List Value) (w : World) (h : Lib.IsBuilder 68 5 B b bs w) :
    Calls Tryd.prog 39 #[.pointer (some ⟨b, 0, none⟩)] w fun e w' => e = .returned (.int .i64 bs.length) ∧ w' = w := Any.Builder_Len Tryd.lays170 B b bs w h
def Tryd.lays169_ren : Go.Shelf.Ren := ⟨fun | 169 => 40 | n => n, fun | 70 => 66 | 9 => 9 | 0 => 0 | 72 => 68 | 37 => 43 | 127 => 92 | 3 => 3 | 5 => 5 | n => n, fun | n => n⟩
theorem Tryd.lays169 : Go.Proofs.Lays.n169 Tryd.prog Tryd.lays169_ren := {
  mixed := by kernel_rfl
  f169 := Tryd.func40.trans (congrArg some (by kernel_rfl))
  t0 := Tryd.underlying0
  a0 := Tryd.isAgg0
  z0 := Tryd.sizeOf0
  v0 := Tryd.zeroValue0
  t3 := Tryd.underlying3
  a3 := Tryd.isAgg3
  z3 := Tryd.sizeOf3
  v3 := Tryd.zeroValue3
  t9 := Tryd.underlying9
  a9 := Tryd.isAgg9
  z9 := Tryd.sizeOf9
  v9 := Tryd.zeroValue9
  t37 := Tryd.underlying43
  a37 := Tryd.isAgg43
  z37 := Tryd.sizeOf43
  v37 := Tryd.zeroValue43
  t70 := Tryd.underlying66
  a70 := Tryd.isAgg66
  z70 := Tryd.sizeOf66
  v70 := Tryd.zeroValue66
  t72 := Tryd.underlying68
  a72 := Tryd.isAgg68
  z72 := Tryd.sizeOf68
  v72 := Tryd.zeroValue68
  t127 := Tryd.underlying92
  a127 := Tryd.isAgg92
  z127 := Tryd.sizeOf92
  v127 := Tryd.zeroValue92 }
theorem Tryd.Builder_Extra_169 : Builder.Extra Tryd.prog Tryd.lays169_ren := {
  sizeBuilder := by kernel_rfl
  liesBuilder := by kernel_rfl
  t5 := Tryd.underlying5
  a5 := Tryd.isAgg5
  z5 := Tryd.sizeOf5
  v5 := Tryd.zeroValue5
  infoByte := by kernel_rfl
  cellsByte := by kernel_rfl
  sizeByte := by kernel_rfl
  neB5 := by decide }
open Go.RowKit in
/-- (*strings.Builder).String: "String returns the accumulated string.": OF A BUILDER THAT HOLDS AT LEAST ONE BYTE. ✋ THE MODEL FREEZES THOSE BYTES IN THE BUFFER (unsafe.String): a later write INTO them ends the model's run without an answer; a later append BEHIND them goes on. The statement's order of evaluation is drawn: one draw. (LAID: no walk: one application.) -/
theorem Tryd.Builder_String (B b : Nat) (l : List UInt8) (w : World) (h : Lib.IsBuilder 68 5 B b (Lib.byteCells l) w) (h0 : l ≠ []) :
    Calls Tryd.prog 40 #[.pointer (some ⟨b, 0, none⟩)] w fun e w' => e = .returned (.string ⟨l.toArray⟩) ∧ Below B w w' := Any.Builder_String Tryd.lays169 Tryd.Builder_Extra_169 B b l w h h0
open Go.RowKit in
/-- (*strings.Builder).String OF A BUILDER THAT HOLDS NO BYTE: the empty string. (Its buffer is nil, or a row of which it has taken nothing yet; where that row has NO capacity the model lays one new block for unsafe.SliceData's 'some address'.) One draw. (LAID: no walk: one application.) -/
theorem Tryd.Builder_String_empty (B b : Nat) (w : World) (h : Lib.IsBuilder 68 5 B b [] w) (hBw : B ≤ w.heap.size) :
    Calls Tryd.prog 40 #[.pointer (some ⟨b, 0, none⟩)] w fun e w' => e = .returned (.string ⟨#[]⟩) ∧ Below B w w' := Any.Builder_String_empty Tryd.lays169 Tryd.Builder_Extra_169 B b w h hBw
open Go.RowKit in
/-- (*strings.Builder).String: "String returns the accumulated string.": WHATEVER THE BUILDER HOLDS. (LAID: no walk: one application.) -/
theorem Tryd.Builder_String_any (B b : Nat) (l : List UInt8) (w : World) (h : Lib.IsBuilder 68 5 B b (Lib.byteCells l) w) (hBw : B ≤ w.heap.size) :
    Calls Tryd.prog 40 #[.pointer (some ⟨b, 0, none⟩)] w fun e w' => e = .returned (.string ⟨l.toArray⟩) ∧ Below B w w' := Any.Builder_String_any Tryd.lays169 Tryd.Builder_Extra_169 B b l w h hBw
def Tryd.lays241_ren : Go.Shelf.Ren := ⟨fun | 241 => 86 | 277 => 100 | n => n, fun | 70 => 66 | 3 => 3 | 0 => 0 | 72 => 68 | 37 => 43 | 5 => 5 | n => n, fun | n => n⟩
theorem Tryd.lays241 : Go.Proofs.Lays.n241 Tryd.prog Tryd.lays241_ren := {
  mixed := by kernel_rfl
  f241 := Tryd.func86.trans (congrArg some (by kernel_rfl))
  f277 := Tryd.func100.trans (congrArg some (by kernel_rfl))
  t0 := Tryd.underlying0
  a0 := Tryd.isAgg0
  z0 := Tryd.sizeOf0
  v0 := Tryd.zeroValue0
  t3 := Tryd.underlying3
  a3 := Tryd.isAgg3
  z3 := Tryd.sizeOf3
  v3 := Tryd.zeroValue3
  t37 := Tryd.underlying43
  a37 := Tryd.isAgg43
  z37 := Tryd.sizeOf43
  v37 := Tryd.zeroValue43
  t70 := Tryd.underlying66
  a70 := Tryd.isAgg66
  z70 := Tryd.sizeOf66
  v70 := Tryd.zeroValue66
  t72 := Tryd.underlying68
  a72 := Tryd.isAgg68
  z72 := Tryd.sizeOf68
  v72 := Tryd.zeroValue68 }
theorem Tryd.Builder_Extra_241 : Builder.Extra Tryd.prog Tryd.lays241_ren := {
  sizeBuilder := by kernel_rfl
  liesBuilder := by kernel_rfl
  t5 := Tryd.underlying5
  a5 := Tryd.isAgg5
  z5 := Tryd.sizeOf5
  v5 := Tryd.zeroValue5
  infoByte := by kernel_rfl
  cellsByte := by kernel_rfl
  sizeByte := by kernel_rfl
  neB5 := by decide }
open Go.RowKit in
/-- (*strings.Builder).grow (no doc but "grow copies the buffer to a new, larger buffer so that there are at least n bytes of capacity beyond len(b.buf)."): AT A BUILDER WITHOUT A BUFFER: a new row of whatever bytes for its buffer, none of them its own yet. Three draws. (LAID: no walk: one application.) -/
theorem Tryd.Builder_grow_fresh (B b n : Nat) (w : World) (hB : B ≤ b) (hbk : w.heap[b]? = some (.cells #[.pointer (some ⟨b, 0, none⟩), .slice none 0 0] 68 (0, 0))) (hBw : B ≤ w.heap.size) (hn : n ≤ 281474976710656) :
    Calls Tryd.prog 86 #[.pointer (some ⟨b, 0, none⟩), .int .i64 n] w fun e w' => e = .returned (.tuple #[]) ∧ (Lib.BuilderAt 68 5 B b (.pointer (some ⟨b, 0, none⟩)) [] w' ∧ Below B w w') := Any.Builder_grow_fresh Tryd.lays241 Tryd.Builder_Extra_241 B b n w hB hbk hBw hn
def Tryd.lays165_ren : Go.Shelf.Ren := ⟨fun | 165 => 65 | 240 => 63 | 241 => 86 | 276 => 84 | 277 => 100 | n => n, fun | 70 => 66 | 3 => 3 | 0 => 0 | 4 => 4 | 9 => 9 | 20 => 20 | 72 => 68 | 37 => 43 | 164 => 105 | 5 => 5 | n => n, fun | n => n⟩
theorem Tryd.lays165 : Go.Proofs.Lays.n165 Tryd.prog Tryd.lays165_ren := {
  mixed := by kernel_rfl
  f165 := Tryd.func65.trans (congrArg some (by kernel_rfl))
  f240 := Tryd.func63.trans (congrArg some (by kernel_rfl))
  f241 := Tryd.func86.trans (congrArg some (by kernel_rfl))
  f276 := Tryd.func84.trans (congrArg some (by kernel_rfl))
  f277 := Tryd.func100.trans (congrArg some (by kernel_rfl))
  t0 := Tryd.underlying0
  a0 := Tryd.isAgg0
  z0 := Tryd.sizeOf0
  v0 := Tryd.zeroValue0
  t3 := Tryd.underlying3
  a3 := Tryd.isAgg3
  z3 := Tryd.sizeOf3
  v3 := Tryd.zeroValue3
  t4 := Tryd.underlying4
  a4 := Tryd.isAgg4
  z4 := Tryd.sizeOf4
  v4 := Tryd.zeroValue4
  t9 := Tryd.underlying9
  a9 := Tryd.isAgg9
  z9 := Tryd.sizeOf9
  v9 := Tryd.zeroValue9
  t20 := Tryd.underlying20
  a20 := Tryd.isAgg20
  z20 := Tryd.sizeOf20
  v20 := Tryd.zeroValue20
  t37 := Tryd.underlying43
  a37 := Tryd.isAgg43
  z37 := Tryd.sizeOf43
  v37 := Tryd.zeroValue43
  t70 := Tryd.underlying66
  a70 := Tryd.isAgg66
  z70 := Tryd.sizeOf66
  v70 := Tryd.zeroValue66
  t72 := Tryd.underlying68
  a72 := Tryd.isAgg68
  z72 := Tryd.sizeOf68
  v72 := Tryd.zeroValue68
  t164 := Tryd.underlying105
  a164 := Tryd.isAgg105
  z164 := Tryd.sizeOf105
  v164 := Tryd.zeroValue105 }
theorem Tryd.Builder_Extra_165 : Builder.Extra Tryd.prog Tryd.lays165_ren := {
  sizeBuilder := by kernel_rfl
  liesBuilder := by kernel_rfl
  t5 := Tryd.underlying5
  a5 := Tryd.isAgg5
  z5 := Tryd.sizeOf5
  v5 := Tryd.zeroValue5
  infoByte := by kernel_rfl
  cellsByte := by kernel_rfl
  sizeByte := by kernel_rfl
  neB5 := by decide }
open Go.RowKit in
/-- (*strings.Builder).Grow AT A BUILDER THAT HAS NOT BEEN WRITTEN ('var b strings.Builder; b.Grow(n)'): "Grow grows b's capacity, if necessary, to guarantee space for another n bytes.": it holds no byte behind it as before it. (LAID: no walk: one application.) -/
theorem Tryd.Builder_Grow_fresh (B b n : Nat) (w : World) (hB : B ≤ b) (hbk : w.heap[b]? = some (.cells #[.pointer none, .slice none 0 0] 68 (0, 0))) (hBw : B ≤ w.heap.size) (hn : n ≤ 281474976710656) :
    Calls Tryd.prog 65 #[.pointer (some ⟨b, 0, none⟩), .int .i64 n] w fun e w' => e = .returned (.tuple #[]) ∧ (Lib.BuilderAt 68 5 B b (.pointer (some ⟨b, 0, none⟩)) [] w' ∧ Below B w w') := Any.Builder_Grow_fresh Tryd.lays165 Tryd.Builder_Extra_165 B b n w hB hbk hBw hn
def Tryd.lays156_ren : Go.Shelf.Ren := ⟨fun | 156 => 38 | 165 => 65 | 166 => 36 | 169 => 40 | 240 => 63 | 241 => 86 | 276 => 84 | 277 => 100 | n => n, fun | 31 => 35 | 9 => 9 | 3 => 3 | 4 => 4 | 0 => 0 | 20 => 20 | 72 => 68 | 76 => 69 | 70 => 66 | 37 => 43 | 75 => 25 | 127 => 92 | 164 => 105 | 5 => 5 | 80 => 74 | n => n, fun | n => n⟩
theorem Tryd.lays156 : Go.Proofs.Lays.n156 Tryd.prog Tryd.lays156_ren := {
  mixed := by kernel_rfl
  f156 := Tryd.func38.trans (congrArg some (by kernel_rfl))
  f165 := Tryd.func65.trans (congrArg some (by kernel_rfl))
  f166 := Tryd.func36.trans (congrArg some (by kernel_rfl))
  f169 := Tryd.func40.trans (congrArg some (by kernel_rfl))
  f240 := Tryd.func63.trans (congrArg some (by kernel_rfl))
  f241 := Tryd.func86.trans (congrArg some (by kernel_rfl))
  f276 := Tryd.func84.trans (congrArg some (by kernel_rfl))
  f277 := Tryd.func100.trans (congrArg some (by kernel_rfl))
  t0 := Tryd.underlying0
  a0 := Tryd.isAgg0
  z0 := Tryd.sizeOf0
  v0 := Tryd.zeroValue0
  t3 := Tryd.underlying3
  a3 := Tryd.isAgg3
  z3 := Tryd.sizeOf3
  v3 := Tryd.zeroValue3
  t4 := Tryd.underlying4
  a4 := Tryd.isAgg4
  z4 := Tryd.sizeOf4
  v4 := Tryd.zeroValue4
  t9 := Tryd.underlying9
  a9 := Tryd.isAgg9
  z9 := Tryd.sizeOf9
  v9 := Tryd.zeroValue9
  t20 := Tryd.underlying20
  a20 := Tryd.isAgg20
  z20 := Tryd.sizeOf20
  v20 := Tryd.zeroValue20
  t31 := Tryd.underlying35
  a31 := Tryd.isAgg35
  z31 := Tryd.sizeOf35
  v31 := Tryd.zeroValue35
  t37 := Tryd.underlying43
  a37 := Tryd.isAgg43
  z37 := Tryd.sizeOf43
  v37 := Tryd.zeroValue43
  t70 := Tryd.underlying66
  a70 := Tryd.isAgg66
  z70 := Tryd.sizeOf66
  v70 := Tryd.zeroValue66
  t72 := Tryd.underlying68
  a72 := Tryd.isAgg68
  z72 := Tryd.sizeOf68
  v72 := Tryd.zeroValue68
  t75 := Tryd.underlying25
  a75 := Tryd.isAgg25
  z75 := Tryd.sizeOf25
  v75 := Tryd.zeroValue25
  t76 := Tryd.underlying69
  a76 := Tryd.isAgg69
  z76 := Tryd.sizeOf69
  v76 := Tryd.zeroValue69
  t127 := Tryd.underlying92
  a127 := Tryd.isAgg92
  z127 := Tryd.sizeOf92
  v127 := Tryd.zeroValue92
  t164 := Tryd.underlying105
  a164 := Tryd.isAgg105
  z164 := Tryd.sizeOf105
  v164 := Tryd.zeroValue105 }
theorem Tryd.Builder_Extra_156 : Builder.Extra Tryd.prog Tryd.lays156_ren := {
  sizeBuilder := by kernel_rfl
  liesBuilder := by kernel_rfl
  t5 := Tryd.underlying5
  a5 := Tryd.isAgg5
  z5 := Tryd.sizeOf5
  v5 := Tryd.zeroValue5
  infoByte := by kernel_rfl
  cellsByte := by kernel_rfl
  sizeByte := by kernel_rfl
  neB5 := by decide }
open Go.RowKit in
/-- No element: the empty string; the world is as it was. (Whatever the slice's address and capacity: a nil slice too.) (LAID: no walk: one application.) -/
theorem Tryd.strings_Join_none (a : Option Addr) (c : Nat) (sep : ByteArray) (w : World) :
    Calls Tryd.prog 38 #[.slice a 0 c, .string sep] w fun e w' => e = .returned (.string ⟨#[]⟩) ∧ w' = w := Any.strings_Join_none Tryd.lays156 Tryd.Builder_Extra_156 a c sep w
open Go.RowKit in
/-- strings.Join: "Join concatenates the elements of its first argument to create a single string. The separator string sep is placed between elements in the resulting string.": HOWEVER MANY ELEMENTS. Below the heap's end the world is as it was. (LAID: no walk: one application.) -/
theorem Tryd.strings_Join (bk o c : Nat) (xs : List ByteArray) (sep : ByteArray) (w : World) (hcells : ∀ (j : Nat) x, xs[j]? = some x → w.cell? ⟨bk, o + j, none⟩ = some (.string x)) (hbk : bk < w.heap.size) (hN : xs.length ≤ 140737488355328) (hcap : xs.length ≤ c) (hlen : (Lib.join (xs.map (·.data.toList)) sep.data.toList).length ≤ 140737488355328) :
    Calls Tryd.prog 38 #[.slice (some ⟨bk, o, none⟩) xs.length c, .string sep] w fun e w' => e = .returned (.string ⟨(Lib.join (xs.map (·.data.toList)) sep.data.toList).toArray⟩) ∧ Below w.heap.size w w' := Any.strings_Join Tryd.lays156 Tryd.Builder_Extra_156 bk o c xs sep w hcells hbk hN hcap hlen
def Tryd.lays231_ren : Go.Shelf.Ren := ⟨fun | 231 => 44 | n => n, fun | 9 => 9 | 5 => 5 | 3 => 3 | 4 => 4 | n => n, fun | n => n⟩
theorem Tryd.lays231 : Go.Proofs.Lays.n231 Tryd.prog Tryd.lays231_ren := {
  mixed := by kernel_rfl
  f231 := Tryd.func44.trans (congrArg some (by kernel_rfl))
  t3 := Tryd.underlying3
  a3 := Tryd.isAgg3
  z3 := Tryd.sizeOf3
  v3 := Tryd.zeroValue3
  t4 := Tryd.underlying4
  a4 := Tryd.isAgg4
  z4 := Tryd.sizeOf4
  v4 := Tryd.zeroValue4
  t5 := Tryd.underlying5
  a5 := Tryd.isAgg5
  z5 := Tryd.sizeOf5
  v5 := Tryd.zeroValue5
  t9 := Tryd.underlying9
  a9 := Tryd.isAgg9
  z9 := Tryd.sizeOf9
  v9 := Tryd.zeroValue9 }
open Go.RowKit in
/-- strings.trimLeftByte (no doc; what TrimLeft and Trim call at a cutset of one ASCII byte): the leading bytes that are c are cut off. The world is as it was. (LAID: no walk: one application.) -/
theorem Tryd.strings_trimLeftByte (s : ByteArray) (c : UInt8) (w : World) :
    Calls Tryd.prog 44 #[.string s, .int .u8 c.toNat] w fun e w' => e = .returned (.string ⟨(Lib.trimLeftB s.data.toList c).toArray⟩) ∧ w' = w := Any.strings_trimLeftByte Tryd.lays231 s c w
def Tryd.lays232_ren : Go.Shelf.Ren := ⟨fun | 232 => 45 | n => n, fun | 9 => 9 | 5 => 5 | 3 => 3 | 4 => 4 | n => n, fun | n => n⟩
theorem Tryd.lays232 : Go.Proofs.Lays.n232 Tryd.prog Tryd.lays232_ren := {
  mixed := by kernel_rfl
  f232 := Tryd.func45.trans (congrArg some (by kernel_rfl))
  t3 := Tryd.underlying3
  a3 := Tryd.isAgg3
  z3 := Tryd.sizeOf3
  v3 := Tryd.zeroValue3
  t4 := Tryd.underlying4
  a4 := Tryd.isAgg4
  z4 := Tryd.sizeOf4
  v4 := Tryd.zeroValue4
  t5 := Tryd.underlying5
  a5 := Tryd.isAgg5
  z5 := Tryd.sizeOf5
  v5 := Tryd.zeroValue5
  t9 := Tryd.underlying9
  a9 := Tryd.isAgg9
  z9 := Tryd.sizeOf9
  v9 := Tryd.zeroValue9 }
open Go.RowKit in
/-- strings.trimRightByte (no doc; what TrimRight and Trim call at a cutset of one ASCII byte): the trailing bytes that are c are cut off. The world is as it was. ('hs': a string's length is a number that an int holds.) (LAID: no walk: one application.) -/
theorem Tryd.strings_trimRightByte (s : ByteArray) (c : UInt8) (w : World) (hs : s.size ≤ 9223372036854775807) :
    Calls Tryd.prog 45 #[.string s, .int .u8 c.toNat] w fun e w' => e = .returned (.string ⟨(Lib.trimRightB s.data.toList c).toArray⟩) ∧ w' = w := Any.strings_trimRightByte Tryd.lays232 s c w hs
def Tryd.lays160_ren : Go.Shelf.Ren := ⟨fun | 160 => 24 | 232 => 45 | 231 => 44 | 227 => 46 | 234 => 48 | 233 => 47 | 236 => 50 | 235 => 49 | 228 => 70 | 271 => 73 | 151 => 72 | 197 => 71 | 120 => 92 | 152 => 91 | 260 => 90 | 137 => 105 | 119 => 106 | 224 => 103 | 225 => 102 | 217 => 101 | 266 => 113 | n => n, fun | 9 => 9 | 4 => 4 | 3 => 3 | 5 => 5 | 117 => 79 | 116 => 78 | 0 => 0 | 124 => 82 | 21 => 21 | 105 => 94 | 46 => 115 | 119 => 124 | 139 => 127 | 138 => 126 | n => n, fun | 3 => 1 | 4 => 2 | n => n⟩
theorem Tryd.lays160 : Go.Proofs.Lays.n160 Tryd.prog Tryd.lays160_ren := {
  mixed := by kernel_rfl
  f119 := Tryd.func106.trans (congrArg some (by kernel_rfl))
  f120 := Tryd.func92.trans (congrArg some (by kernel_rfl))
  f137 := Tryd.func105.trans (congrArg some (by kernel_rfl))
  f151 := Tryd.func72.trans (congrArg some (by kernel_rfl))
  f152 := Tryd.func91.trans (congrArg some (by kernel_rfl))
  f160 := Tryd.func24.trans (congrArg some (by kernel_rfl))
  f197 := Tryd.func71.trans (congrArg some (by kernel_rfl))
  f217 := Tryd.func101.trans (congrArg some (by kernel_rfl))
  f224 := Tryd.func103.trans (congrArg some (by kernel_rfl))
  f225 := Tryd.func102.trans (congrArg some (by kernel_rfl))
  f227 := Tryd.func46.trans (congrArg some (by kernel_rfl))
  f228 := Tryd.func70.trans (congrArg some (by kernel_rfl))
  f231 := Tryd.func44.trans (congrArg some (by kernel_rfl))
  f232 := Tryd.func45.trans (congrArg some (by kernel_rfl))
  f233 := Tryd.func47.trans (congrArg some (by kernel_rfl))
  f234 := Tryd.func48.trans (congrArg some (by kernel_rfl))
  f235 := Tryd.func49.trans (congrArg some (by kernel_rfl))
  f236 := Tryd.func50.trans (congrArg some (by kernel_rfl))
  f260 := Tryd.func90.trans (congrArg some (by kernel_rfl))
  f266 := Tryd.func113.trans (congrArg some (by kernel_rfl))
  f271 := Tryd.func73.trans (congrArg some (by kernel_rfl))
  t0 := Tryd.underlying0
  a0 := Tryd.isAgg0
  z0 := Tryd.sizeOf0
  v0 := Tryd.zeroValue0
  t3 := Tryd.underlying3
  a3 := Tryd.isAgg3
  z3 := Tryd.sizeOf3
  v3 := Tryd.zeroValue3
  t4 := Tryd.underlying4
  a4 := Tryd.isAgg4
  z4 := Tryd.sizeOf4
  v4 := Tryd.zeroValue4
  t5 := Tryd.underlying5
  a5 := Tryd.isAgg5
  z5 := Tryd.sizeOf5
  v5 := Tryd.zeroValue5
  t9 := Tryd.underlying9
  a9 := Tryd.isAgg9
  z9 := Tryd.sizeOf9
  v9 := Tryd.zeroValue9
  t21 := Tryd.underlying21
  a21 := Tryd.isAgg21
  z21 := Tryd.sizeOf21
  v21 := Tryd.zeroValue21
  t46 := Tryd.underlying115
  a46 := Tryd.isAgg115
  z46 := Tryd.sizeOf115
  v46 := Tryd.zeroValue115
  t105 := Tryd.underlying94
  a105 := Tryd.isAgg94
  z105 := Tryd.sizeOf94
  v105 := Tryd.zeroValue94
  t116 := Tryd.underlying78
  a116 := Tryd.isAgg78
  z116 := Tryd.sizeOf78
  t117 := Tryd.underlying79
  a117 := Tryd.isAgg79
  z117 := Tryd.sizeOf79
  v117 := Tryd.zeroValue79
  t119 := Tryd.underlying124
  a119 := Tryd.isAgg124
  z119 := Tryd.sizeOf124
  t124 := Tryd.underlying82
  a124 := Tryd.isAgg82
  z124 := Tryd.sizeOf82
  v124 := Tryd.zeroValue82
  t138 := Tryd.underlying126
  a138 := Tryd.isAgg126
  z138 := Tryd.sizeOf126
  v138 := Tryd.zeroValue126
  t139 := Tryd.underlying127
  a139 := Tryd.isAgg127
  z139 := Tryd.sizeOf127
  v139 := Tryd.zeroValue127
  g3 := by kernel_rfl
  g4 := by kernel_rfl }
open Go.RowKit in
/-- strings.Trim: "Trim returns a slice of the string s with all leading and trailing Unicode code points contained in cutset removed.": AT A cutset OF ONE ASCII BYTE. THE WORLD BEHIND IT: as it was, or (where s is not empty) with ONE DRAW MORE off the tape: the statement 'return trimLeftByte(trimRightByte(s, c), c)' draws its order of evaluation. (LAID: no walk: one application.) -/
theorem Tryd.strings_Trim_one (s : ByteArray) (c : UInt8) (hc : c.toNat < 128) (w : World) (hs : s.size ≤ 9223372036854775807) :
    Calls Tryd.prog 24 #[.string s, .string ⟨#[c]⟩] w fun e w' => e = .returned (.string ⟨(Lib.trimB s.data.toList c).toArray⟩) ∧ (w' = w ∨ w' = w.drew) := Any.strings_Trim_one Tryd.lays160 s c hc w hs
def Tryd.lays119_ren : Go.Shelf.Ren := ⟨fun | 119 => 106 | n => n, fun | 21 => 21 | 4 => 4 | n => n, fun | n => n⟩
theorem Tryd.lays119 : Go.Proofs.Lays.n119 Tryd.prog Tryd.lays119_ren := {
  mixed := by kernel_rfl
  f119 := Tryd.func106.trans (congrArg some (by kernel_rfl))
  t4 := Tryd.underlying4
  a4 := Tryd.isAgg4
  z4 := Tryd.sizeOf4
  v4 := Tryd.zeroValue4
  t21 := Tryd.underlying21
  a21 := Tryd.isAgg21
  z21 := Tryd.sizeOf21
  v21 := Tryd.zeroValue21 }
/-- utf8.ValidRune: "ValidRune reports whether r can be legally encoded as UTF-8. Code points that are out of range or a surrogate half are illegal.": IT RETURNS 'Lib.validRune r'; the world is as it was. (LAID: no walk: one application.) -/
theorem Tryd.utf8_ValidRune (r : Int) (w : World) :
    Calls Tryd.prog 106 #[.int .i32 r] w fun e w' => e = .returned (.bool (Lib.validRune r)) ∧ w' = w := Any.utf8_ValidRune Tryd.lays119 r w
def Tryd.lays120_ren : Go.Shelf.Ren := ⟨fun | 120 => 92 | n => n, fun | 5 => 5 | 4 => 4 | n => n, fun | n => n⟩
theorem Tryd.lays120 : Go.Proofs.Lays.n120 Tryd.prog Tryd.lays120_ren := {
  mixed := by kernel_rfl
  f120 := Tryd.func92.trans (congrArg some (by kernel_rfl))
  t4 := Tryd.underlying4
  a4 := Tryd.isAgg4
  z4 := Tryd.sizeOf4
  v4 := Tryd.zeroValue4
  t5 := Tryd.underlying5
  a5 := Tryd.isAgg5
  z5 := Tryd.sizeOf5
  v5 := Tryd.zeroValue5 }
/-- utf8.RuneStart: "RuneStart reports whether the byte could be the first byte of an encoded, possibly invalid rune. Second and subsequent bytes always have the top two bits set to 10.": IT RETURNS 'Lib.runeStart b'; the world is as it was. ('h0', 'h1': b is a byte: a caller has it of every byte that it was handed.) (LAID: no walk: one application.) -/
theorem Tryd.utf8_RuneStart (b : Int) (w : World) (h0 : 0 ≤ b) (h1 : b < 256) :
    Calls Tryd.prog 92 #[.int .u8 b] w fun e w' => e = .returned (.bool (Lib.runeStart b)) ∧ w' = w := Any.utf8_RuneStart Tryd.lays120 b w h0 h1
def Tryd.lays213_ren : Go.Shelf.Ren := ⟨fun | 213 => 61 | 265 => 82 | n => n, fun | 9 => 9 | 3 => 3 | n => n, fun | n => n⟩
theorem Tryd.lays213 : Go.Proofs.Lays.n213 Tryd.prog Tryd.lays213_ren := {
  mixed := by kernel_rfl
  f213 := Tryd.func61.trans (congrArg some (by kernel_rfl))
  f265 := Tryd.func82.trans (congrArg some (by kernel_rfl))
  t3 := Tryd.underlying3
  a3 := Tryd.isAgg3
  z3 := Tryd.sizeOf3
  v3 := Tryd.zeroValue3
  t9 := Tryd.underlying9
  a9 := Tryd.isAgg9
  z9 := Tryd.sizeOf9
  v9 := Tryd.zeroValue9 }
open Go.RowKit in
/-- internal/bytealg.CompareString (what strings.Compare calls): IT RETURNS 'Lib.compareBytes a b'; the world is as it was. (LAID: no walk: one application.) -/
theorem Tryd.bytealg_CompareString (a b : ByteArray) (w : World) :
    Calls Tryd.prog 61 #[.string a, .string b] w fun e w' => e = .returned (.int .i64 (Lib.compareBytes a.data.toList b.data.toList)) ∧ w' = w := Any.bytealg_CompareString Tryd.lays213 a b w
def Tryd.lays106_ren : Go.Shelf.Ren := ⟨fun | 106 => 32 | 213 => 61 | 265 => 82 | n => n, fun | 9 => 9 | 3 => 3 | n => n, fun | n => n⟩
theorem Tryd.lays106 : Go.Proofs.Lays.n106 Tryd.prog Tryd.lays106_ren := {
  mixed := by kernel_rfl
  f106 := Tryd.func32.trans (congrArg some (by kernel_rfl))
  f213 := Tryd.func61.trans (congrArg some (by kernel_rfl))
  f265 := Tryd.func82.trans (congrArg some (by kernel_rfl))
  t3 := Tryd.underlying3
  a3 := Tryd.isAgg3
  z3 := Tryd.sizeOf3
  v3 := Tryd.zeroValue3
  t9 := Tryd.underlying9
  a9 := Tryd.isAgg9
  z9 := Tryd.sizeOf9
  v9 := Tryd.zeroValue9 }
open Go.RowKit in
/-- strings.Compare: "Compare returns an integer comparing two strings lexicographically. The result will be 0 if a == b, -1 if a < b, and +1 if a > b.": IT RETURNS 'Lib.compareBytes a b'; the world is as it was. (LAID: no walk: one application.) -/
theorem Tryd.strings_Compare (a b : ByteArray) (w : World) :
    Calls Tryd.prog 32 #[.string a, .string b] w fun e w' => e = .returned (.int .i64 (Lib.compareBytes a.data.toList b.data.toList)) ∧ w' = w := Any.strings_Compare Tryd.lays106 a b w
def Tryd.lays137_ren : Go.Shelf.Ren := ⟨fun | 137 => 105 | 217 => 101 | 266 => 113 | n => n, fun | 9 => 9 | 5 => 5 | 3 => 3 | n => n, fun | n => n⟩
theorem Tryd.lays137 : Go.Proofs.Lays.n137 Tryd.prog Tryd.lays137_ren := {
  mixed := by kernel_rfl
  f137 := Tryd.func105.trans (congrArg some (by kernel_rfl))
  f217 := Tryd.func101.trans (congrArg some (by kernel_rfl))
  f266 := Tryd.func113.trans (congrArg some (by kernel_rfl))
  t3 := Tryd.underlying3
  a3 := Tryd.isAgg3
  z3 := Tryd.sizeOf3
  v3 := Tryd.zeroValue3
  t5 := Tryd.underlying5
  a5 := Tryd.isAgg5
  z5 := Tryd.sizeOf5
  v5 := Tryd.zeroValue5
  t9 := Tryd.underlying9
  a9 := Tryd.isAgg9
  z9 := Tryd.sizeOf9
  v9 := Tryd.zeroValue9 }
open Go.RowKit in
/-- strings.IndexByte: "IndexByte returns the index of the first instance of c in s, or -1 if c is not present in s.": IT RETURNS 'Lib.indexByte s c'; the world is as it was. (LAID: no walk: one application.) -/
theorem Tryd.strings_IndexByte (s : ByteArray) (c : Int) (w : World) :
    Calls Tryd.prog 105 #[.string s, .int .u8 c] w fun e w' => e = .returned (.int .i64 (Lib.indexByte s.data.toList c.toNat.toUInt8)) ∧ w' = w := Any.strings_IndexByte Tryd.lays137 s c w
open Go.RowKit in
/-- (*strings.Builder).Len: "Len returns the number of accumulated bytes; b.Len() == len(b.String()).": the world is as it was. (THE FORM '_f': 'Lib.IsBuilderF'.) (LAID: no walk: one application.) -/
theorem Tryd.Builder_Len_f (B b : Nat) (bs : List Value) (w : World) (h : Lib.IsBuilderF 68 5 B b bs w) :
    Calls Tryd.prog 39 #[.pointer (some ⟨b, 0, none⟩)] w fun e w' => e = .returned (.int .i64 bs.length) ∧ w' = w := Any.Builder_Len_f Tryd.lays170 B b bs w h
open Go.RowKit in
/-- (*strings.Builder).String: "String returns the accumulated string.": OF A BUILDER THAT HOLDS AT LEAST ONE BYTE. ✋ THE MODEL FREEZES THOSE BYTES IN THE BUFFER (unsafe.String): a later write INTO them ends the model's run without an answer; a later append BEHIND them goes on. The statement's order of evaluation is drawn: one draw. THE FORM '_f': IT SAYS BESIDES THAT THE BUILDER IS A BUILDER STILL ('Lib.IsBuilderF', the same bytes): SO IT CAN BE WRITTEN ON: 'b.WriteString(b.String()[:k])'. (LAID: no walk: one application.) -/
theorem Tryd.Builder_String_f (B b : Nat) (l : List UInt8) (w : World) (h : Lib.IsBuilderF 68 5 B b (Lib.byteCells l) w) (h0 : l ≠ []) :
    Calls Tryd.prog 40 #[.pointer (some ⟨b, 0, none⟩)] w fun e w' => e = .returned (.string ⟨l.toArray⟩) ∧ (Lib.IsBuilderF 68 5 B b (Lib.byteCells l) w' ∧ Below B w w') := Any.Builder_String_f Tryd.lays169 Tryd.Builder_Extra_169 B b l w h h0
open Go.RowKit in
/-- (*strings.Builder).String OF A BUILDER THAT HOLDS NO BYTE: the empty string; THE FORM '_f': a builder still. (LAID: no walk: one application.) -/
theorem Tryd.Builder_String_empty_f (B b : Nat) (w : World) (h : Lib.IsBuilderF 68 5 B b [] w) (hBw : B ≤ w.heap.size) :
    Calls Tryd.prog 40 #[.pointer (some ⟨b, 0, none⟩)] w fun e w' => e = .returned (.string ⟨#[]⟩) ∧ (Lib.IsBuilderF 68 5 B b [] w' ∧ Below B w w') := Any.Builder_String_empty_f Tryd.lays169 Tryd.Builder_Extra_169 B b w h hBw
open Go.RowKit in
/-- (*strings.Builder).String: "String returns the accumulated string.": WHATEVER THE BUILDER HOLDS; THE FORM '_f': OF A BUILDER THAT MAY HAVE BEEN READ BEFORE; AND IT IS A BUILDER STILL, holding the same bytes: it can be written on. (LAID: no walk: one application.) -/
theorem Tryd.Builder_String_any_f (B b : Nat) (l : List UInt8) (w : World) (h : Lib.IsBuilderF 68 5 B b (Lib.byteCells l) w) (hBw : B ≤ w.heap.size) :
    Calls Tryd.prog 40 #[.pointer (some ⟨b, 0, none⟩)] w fun e w' => e = .returned (.string ⟨l.toArray⟩) ∧ (Lib.IsBuilderF 68 5 B b (Lib.byteCells l) w' ∧ Below B w w') := Any.Builder_String_any_f Tryd.lays169 Tryd.Builder_Extra_169 B b l w h hBw
open Go.RowKit in
/-- (*strings.Builder).String: "String returns the accumulated string.": OF A BUILDER THAT HOLDS AT LEAST ONE BYTE. ✋ THE MODEL FREEZES THOSE BYTES IN THE BUFFER (unsafe.String): a later write INTO them ends the model's run without an answer; a later append BEHIND them goes on. The statement's order of evaluation is drawn: one draw. THE FORM '_k': OVER 'Lib.IsBuilderF' (a builder that 'String()' may have read), AND WITH THE FRAME THAT REACHES ABOVE THE BUILDER: 'Lib.OthersKept': every block that is not b and is no row of uint8's stands as it stood: the iterator of a range among them. (LAID: no walk: one application.) -/
theorem Tryd.Builder_String_k (B b : Nat) (l : List UInt8) (w : World) (h : Lib.IsBuilderF 68 5 B b (Lib.byteCells l) w) (h0 : l ≠ []) :
    Calls Tryd.prog 40 #[.pointer (some ⟨b, 0, none⟩)] w fun e w' => e = .returned (.string ⟨l.toArray⟩) ∧ (Lib.IsBuilderF 68 5 B b (Lib.byteCells l) w' ∧ Below B w w' ∧ Lib.OthersKept 5 (some b) w w') := Any.Builder_String_k Tryd.lays169 Tryd.Builder_Extra_169 B b l w h h0
open Go.RowKit in
/-- (*strings.Builder).String OF A BUILDER THAT HOLDS NO BYTE: the empty string; THE FORM '_k': OVER 'Lib.IsBuilderF' (a builder that 'String()' may have read), AND WITH THE FRAME THAT REACHES ABOVE THE BUILDER: 'Lib.OthersKept': every block that is not b and is no row of uint8's stands as it stood: the iterator of a range among them. (LAID: no walk: one application.) -/
theorem Tryd.Builder_String_empty_k (B b : Nat) (w : World) (h : Lib.IsBuilderF 68 5 B b [] w) (hBw : B ≤ w.heap.size) :
    Calls Tryd.prog 40 #[.pointer (some ⟨b, 0, none⟩)] w fun e w' => e = .returned (.string ⟨#[]⟩) ∧ (Lib.IsBuilderF 68 5 B b [] w' ∧ Below B w w' ∧ Lib.OthersKept 5 (some b) w w') := Any.Builder_String_empty_k Tryd.lays169 Tryd.Builder_Extra_169 B b w h hBw
open Go.RowKit in
/-- (*strings.Builder).String: "String returns the accumulated string.": WHATEVER THE BUILDER HOLDS; THE FORM '_k': OVER 'Lib.IsBuilderF' (a builder that 'String()' may have read), AND WITH THE FRAME THAT REACHES ABOVE THE BUILDER: 'Lib.OthersKept': every block that is not b and is no row of uint8's stands as it stood: the iterator of a range among them. (LAID: no walk: one application.) -/
theorem Tryd.Builder_String_any_k (B b : Nat) (l : List UInt8) (w : World) (h : Lib.IsBuilderF 68 5 B b (Lib.byteCells l) w) (hBw : B ≤ w.heap.size) :
    Calls Tryd.prog 40 #[.pointer (some ⟨b, 0, none⟩)] w fun e w' => e = .returned (.string ⟨l.toArray⟩) ∧ (Lib.IsBuilderF 68 5 B b (Lib.byteCells l) w' ∧ Below B w w' ∧ Lib.OthersKept 5 (some b) w w') := Any.Builder_String_any_k Tryd.lays169 Tryd.Builder_Extra_169 B b l w h hBw
def Tryd.lays195_ren : Go.Shelf.Ren := ⟨fun | 195 => 87 | n => n, fun | 9 => 9 | 3 => 3 | 0 => 0 | 4 => 4 | n => n, fun | n => n⟩
theorem Tryd.lays195 : Go.Proofs.Lays.n195 Tryd.prog Tryd.lays195_ren := {
  mixed := by kernel_rfl
  f195 := Tryd.func87.trans (congrArg some (by kernel_rfl))
  t0 := Tryd.underlying0
  a0 := Tryd.isAgg0
  z0 := Tryd.sizeOf0
  v0 := Tryd.zeroValue0
  t3 := Tryd.underlying3
  a3 := Tryd.isAgg3
  z3 := Tryd.sizeOf3
  v3 := Tryd.zeroValue3
  t4 := Tryd.underlying4
  a4 := Tryd.isAgg4
  z4 := Tryd.sizeOf4
  v4 := Tryd.zeroValue4
  t9 := Tryd.underlying9
  a9 := Tryd.isAgg9
  z9 := Tryd.sizeOf9
  v9 := Tryd.zeroValue9 }
open Go.RowKit in
/-- unicode/utf8.RuneCountInString: "RuneCountInString is like RuneCount but its input is a string." ("RuneCount returns the number of runes in p. Erroneous and short encodings are treated as single runes of width 1 byte."): EVERY STRING, valid UTF-8 or not: 'Lib.runeCount s' (plain Lean over the model's own 'Utf8.decode'; 'Lib.runeCount_le': at most len(s); 'Lib.runeCount_ascii': on ASCII: len(s)). THE ONE CONDITION: len(s) below 2^63 - 1 (the counter does not wrap): the form's reach pays it. THE WORLD BEHIND THE CALL: ONE BLOCK MORE: the model's iterator over s, at its end: all else as it was. (LAID: no walk: one application.) -/
theorem Tryd.utf8_RuneCountInString (s : ByteArray) (w : World) (hs : s.size < 9223372036854775807) :
    Calls Tryd.prog 87 #[.string s] w fun e w' => e = .returned (.int .i64 (Lib.runeCount s)) ∧ ∃ pos, w' = w.iter s pos := Any.utf8_RuneCountInString Tryd.lays195 s w hs
open Go.RowKit in
/-- (*strings.Builder).grow (no doc but "grow copies the buffer to a new, larger buffer so that there are at least n bytes of capacity beyond len(b.buf)."): AT A BUILDER WITHOUT A BUFFER: a new row of whatever bytes for its buffer, none of them its own yet. Three draws. (LAID: no walk: one application.) -/
theorem Tryd.Builder_grow_fresh_cap (B b n : Nat) (w : World) (hB : B ≤ b) (hbk : w.heap[b]? = some (.cells #[.pointer (some ⟨b, 0, none⟩), .slice none 0 0] 68 (0, 0))) (hBw : B ≤ w.heap.size) (hn : n ≤ 281474976710656) :
    Calls Tryd.prog 86 #[.pointer (some ⟨b, 0, none⟩), .int .i64 n] w fun e w' => e = .returned (.tuple #[]) ∧ (Lib.BuilderAt 68 5 B b (.pointer (some ⟨b, 0, none⟩)) [] w' ∧ Below B w w') ∧ ∃ p cap, w'.cell? ⟨b, 1, none⟩ = some (.slice p 0 cap) ∧ n ≤ cap := Any.Builder_grow_fresh_cap Tryd.lays241 Tryd.Builder_Extra_241 B b n w hB hbk hBw hn
open Go.RowKit in
/-- (*strings.Builder).Grow AT A BUILDER THAT HAS NOT BEEN WRITTEN ('var b strings.Builder; b.Grow(n)'): "Grow grows b's capacity, if necessary, to guarantee space for another n bytes.": it holds no byte behind it as before it. (LAID: no walk: one application.) -/
theorem Tryd.Builder_Grow_fresh_cap (B b n : Nat) (w : World) (hB : B ≤ b) (hbk : w.heap[b]? = some (.cells #[.pointer none, .slice none 0 0] 68 (0, 0))) (hBw : B ≤ w.heap.size) (hn : n ≤ 281474976710656) :
    Calls Tryd.prog 65 #[.pointer (some ⟨b, 0, none⟩), .int .i64 n] w fun e w' => e = .returned (.tuple #[]) ∧ (Lib.BuilderAt 68 5 B b (.pointer (some ⟨b, 0, none⟩)) [] w' ∧ Below B w w') ∧ ∃ p cap, w'.cell? ⟨b, 1, none⟩ = some (.slice p 0 cap) ∧ n ≤ cap := Any.Builder_Grow_fresh_cap Tryd.lays165 Tryd.Builder_Extra_165 B b n w hB hbk hBw hn
def Tryd.lays129_ren : Go.Shelf.Ren := ⟨fun | 129 => 109 | n => n, fun | 53 => 117 | 3 => 3 | 4 => 4 | 46 => 115 | 5 => 5 | 9 => 9 | n => n, fun | n => n⟩
theorem Tryd.lays129 : Go.Proofs.Lays.n129 Tryd.prog Tryd.lays129_ren := {
  mixed := by kernel_rfl
  f129 := Tryd.func109.trans (congrArg some (by kernel_rfl))
  t3 := Tryd.underlying3
  a3 := Tryd.isAgg3
  z3 := Tryd.sizeOf3
  v3 := Tryd.zeroValue3
  t4 := Tryd.underlying4
  a4 := Tryd.isAgg4
  z4 := Tryd.sizeOf4
  v4 := Tryd.zeroValue4
  t5 := Tryd.underlying5
  a5 := Tryd.isAgg5
  z5 := Tryd.sizeOf5
  v5 := Tryd.zeroValue5
  t9 := Tryd.underlying9
  a9 := Tryd.isAgg9
  z9 := Tryd.sizeOf9
  v9 := Tryd.zeroValue9
  t46 := Tryd.underlying115
  a46 := Tryd.isAgg115
  z46 := Tryd.sizeOf115
  v46 := Tryd.zeroValue115
  t53 := Tryd.underlying117
  a53 := Tryd.isAgg117
  z53 := Tryd.sizeOf117
  v53 := Tryd.zeroValue117 }
/-- bits.Len64: "Len64 returns the minimum number of bits required to represent x; the result is 0 for x == 0.": IT RETURNS 'Lib.bitLen x'; the world is as it was. ('h0', 'h1': x is a uint64.) (LAID: no walk: one application.) -/
theorem Tryd.bits_Len64 (x : Int) (w : World) (h0 : 0 ≤ x) (h1 : x ≤ 18446744073709551615) :
    Calls Tryd.prog 109 #[.int .u64 x] w fun e w' => e = .returned (.int .i64 (Lib.bitLen x.toNat)) ∧ w' = w := Any.bits_Len64 Tryd.lays129 x w h0 h1
def Tryd.lays317_ren : Go.Shelf.Ren := ⟨fun | 317 => 108 | n => n, fun | 3 => 3 | 46 => 115 | n => n, fun | n => n⟩
theorem Tryd.lays317 : Go.Proofs.Lays.n317 Tryd.prog Tryd.lays317_ren := {
  mixed := by kernel_rfl
  f317 := Tryd.func108.trans (congrArg some (by kernel_rfl))
  t3 := Tryd.underlying3
  a3 := Tryd.isAgg3
  z3 := Tryd.sizeOf3
  v3 := Tryd.zeroValue3
  t46 := Tryd.underlying115
  a46 := Tryd.isAgg115
  z46 := Tryd.sizeOf115
  v46 := Tryd.zeroValue115 }
open Go.Lib in
/-- internal/strconv.log10Pow2: "log10Pow2(x) returns ⌊log₁₀ 2**x⌋ = ⌊x * log₁₀ 2⌋.": '(x * 78913) >> 18', at an x up to 64 (a length in bits). The world is as it was. (LAID: no walk: one application.) -/
theorem Tryd.internal_strconv_log10Pow2 (x : Nat) (h : x ≤ 64) (w : World) :
    Calls Tryd.prog 108 #[.int .i64 x] w fun e w' => e = .returned (.int .i64 (Lib.l10 x)) ∧ w' = w := Any.internal_strconv_log10Pow2 Tryd.lays317 x h w
def Tryd.lays318_ren : Go.Shelf.Ren := ⟨fun | 318 => 110 | n => n, fun | 3 => 3 | 4 => 4 | n => n, fun | n => n⟩
theorem Tryd.lays318 : Go.Proofs.Lays.n318 Tryd.prog Tryd.lays318_ren := {
  mixed := by kernel_rfl
  f318 := Tryd.func110.trans (congrArg some (by kernel_rfl))
  t3 := Tryd.underlying3
  a3 := Tryd.isAgg3
  z3 := Tryd.sizeOf3
  v3 := Tryd.zeroValue3
  t4 := Tryd.underlying4
  a4 := Tryd.isAgg4
  z4 := Tryd.sizeOf4
  v4 := Tryd.zeroValue4 }
open Go.Lib in
/-- internal/strconv.bool2: "bool2 converts b to an integer: 1 for true, 0 for false." The world is as it was. (LAID: no walk: one application.) -/
theorem Tryd.internal_strconv_bool2_int (b : Bool) (w : World) :
    Calls Tryd.prog 110 #[.bool b] w fun e w' => e = .returned (.int .i64 (if b then 1 else 0)) ∧ w' = w := Any.internal_strconv_bool2_int Tryd.lays318 b w
def Tryd.lays283_ren : Go.Shelf.Ren := ⟨fun | 283 => 96 | n => n, fun | 3 => 3 | 9 => 9 | 4 => 4 | n => n, fun | n => n⟩
theorem Tryd.lays283 : Go.Proofs.Lays.n283 Tryd.prog Tryd.lays283_ren := {
  mixed := by kernel_rfl
  f283 := Tryd.func96.trans (congrArg some (by kernel_rfl))
  t3 := Tryd.underlying3
  a3 := Tryd.isAgg3
  z3 := Tryd.sizeOf3
  v3 := Tryd.zeroValue3
  t4 := Tryd.underlying4
  a4 := Tryd.isAgg4
  z4 := Tryd.sizeOf4
  v4 := Tryd.zeroValue4
  t9 := Tryd.underlying9
  a9 := Tryd.isAgg9
  z9 := Tryd.sizeOf9
  v9 := Tryd.zeroValue9 }
open Go.Lib in
/-- internal/strconv.small: "small returns the string for an i with 0 <= i < nSmalls.": i's decimal numeral. The world is as it was. (LAID: no walk: one application.) -/
theorem Tryd.internal_strconv_small (i : Nat) (h : i < 100) (w : World) :
    Calls Tryd.prog 96 #[.int .i64 i] w fun e w' => e = .returned (.string ⟨(Lib.decDigits i).toArray⟩) ∧ w' = w := Any.internal_strconv_small Tryd.lays283 i h w
def Tryd.laysM284_ren : Go.Shelf.Ren := ⟨fun | 284 => 97 | 129 => 109 | 317 => 108 | 318 => 110 | n => n, fun | 53 => 117 | 3 => 3 | 212 => 129 | 0 => 0 | 4 => 4 | 46 => 115 | 5 => 5 | 9 => 9 | n => n, fun | 17 => 3 | n => n⟩
theorem Tryd.laysM284 : Go.Proofs.LaysM.n284 Tryd.prog Tryd.laysM284_ren := {
  mixed := by kernel_rfl
  f129 := Tryd.func109.trans (congrArg some (by kernel_rfl))
  f284 := Tryd.func97.trans (congrArg some (by kernel_rfl))
  f317 := Tryd.func108.trans (congrArg some (by kernel_rfl))
  f318 := Tryd.func110.trans (congrArg some (by kernel_rfl))
  t0 := Tryd.underlying0
  a0 := Tryd.isAgg0
  z0 := Tryd.sizeOf0
  v0 := Tryd.zeroValue0
  t3 := Tryd.underlying3
  a3 := Tryd.isAgg3
  z3 := Tryd.sizeOf3
  v3 := Tryd.zeroValue3
  t4 := Tryd.underlying4
  a4 := Tryd.isAgg4
  z4 := Tryd.sizeOf4
  v4 := Tryd.zeroValue4
  t5 := Tryd.underlying5
  a5 := Tryd.isAgg5
  z5 := Tryd.sizeOf5
  v5 := Tryd.zeroValue5
  t9 := Tryd.underlying9
  a9 := Tryd.isAgg9
  z9 := Tryd.sizeOf9
  v9 := Tryd.zeroValue9
  t46 := Tryd.underlying115
  a46 := Tryd.isAgg115
  z46 := Tryd.sizeOf115
  v46 := Tryd.zeroValue115
  t53 := Tryd.underlying117
  a53 := Tryd.isAgg117
  z53 := Tryd.sizeOf117
  v53 := Tryd.zeroValue117
  t212 := Tryd.underlying129
  a212 := Tryd.isAgg129
  z212 := Tryd.sizeOf129
  v212 := Tryd.zeroValue129
  g17 := by kernel_rfl
  i0 := by kernel_rfl
  i3 := by kernel_rfl
  i4 := by kernel_rfl
  i5 := by kernel_rfl
  i9 := by kernel_rfl
  i46 := by kernel_rfl
  i53 := by kernel_rfl
  i212 := by kernel_rfl
  m17 := by kernel_rfl }
open Go.Lib in
/-- internal/strconv.numDigits, at a d that is not 0: THE NUMBER OF d's DECIMAL DIGITS. The world is as it was. (LAID: no walk: one application.) -/
theorem Tryd.internal_strconv_numDigits (u : Nat) (h1 : 1 ≤ u) (h2 : u < 18446744073709551616) (w : World) (htab : Lib.TabIs Tryd.prog w "internal/strconv.uint64pow10" .u64 Lib.pow10Tab) :
    Calls Tryd.prog 97 #[.int .u64 u] w fun e w' => e = .returned (.int .i64 (Lib.nDigits u)) ∧ w' = w := Any.internal_strconv_numDigits Tryd.laysM284 u h1 h2 w htab
def Tryd.lays285_ren : Go.Shelf.Ren := ⟨fun | 285 => 98 | n => n, fun | 37 => 43 | 53 => 117 | 3 => 3 | 4 => 4 | 51 => 130 | 9 => 9 | 5 => 5 | 0 => 0 | n => n, fun | n => n⟩
theorem Tryd.lays285 : Go.Proofs.Lays.n285 Tryd.prog Tryd.lays285_ren := {
  mixed := by kernel_rfl
  f285 := Tryd.func98.trans (congrArg some (by kernel_rfl))
  t0 := Tryd.underlying0
  a0 := Tryd.isAgg0
  z0 := Tryd.sizeOf0
  v0 := Tryd.zeroValue0
  t3 := Tryd.underlying3
  a3 := Tryd.isAgg3
  z3 := Tryd.sizeOf3
  v3 := Tryd.zeroValue3
  t4 := Tryd.underlying4
  a4 := Tryd.isAgg4
  z4 := Tryd.sizeOf4
  v4 := Tryd.zeroValue4
  t5 := Tryd.underlying5
  a5 := Tryd.isAgg5
  z5 := Tryd.sizeOf5
  v5 := Tryd.zeroValue5
  t9 := Tryd.underlying9
  a9 := Tryd.isAgg9
  z9 := Tryd.sizeOf9
  v9 := Tryd.zeroValue9
  t37 := Tryd.underlying43
  a37 := Tryd.isAgg43
  z37 := Tryd.sizeOf43
  v37 := Tryd.zeroValue43
  t51 := Tryd.underlying130
  a51 := Tryd.isAgg130
  z51 := Tryd.sizeOf130
  v51 := Tryd.zeroValue130
  t53 := Tryd.underlying117
  a53 := Tryd.isAgg117
  z53 := Tryd.sizeOf117
  v53 := Tryd.zeroValue117 }
open Go.RowKit Go.Sort Go.Lib in
/-- internal/strconv.formatBase10: "formatBase10 formats the decimal representation of u into a. The caller is responsible for ensuring that a is big enough to hold u. If a is too big, leading zeros will be filled in as needed.": THE ROW HOLDS u's DIGITS ('FmtInv .. 0 ..': every place t holds 'dg u (len - 1 - t)'); all else is as it was but for the count of draws. (LAID: no walk: one application.) -/
theorem Tryd.internal_strconv_formatBase10 (blk off cap : Nat) (u : Nat) (d : Array UInt8) (w : World) (hH : Holds (fun (b : UInt8) => Value.int .u8 (b.toNat : Int)) w blk off d) (hu : u < 10 ^ d.size) (hu64 : u < 18446744073709551616) (hsz : d.size < 4611686018427387904) :
    Calls Tryd.prog 98 #[.slice (some ⟨blk, off, none⟩) d.size cap, .int .u64 u] w fun e w' =>
      e = .returned (.tuple #[]) ∧ ∃ (n v' : Nat) (dk : Array UInt8), w' = (putRow (fun (b : UInt8) => Value.int .u8 (b.toNat : Int)) w blk off dk).drewN n ∧ FmtInv d.size u 0 v' dk := Any.internal_strconv_formatBase10 Tryd.lays285 blk off cap u d w hH hu hu64 hsz
def Tryd.laysM246_ren : Go.Shelf.Ren := ⟨fun | 246 => 85 | 283 => 96 | 284 => 97 | 285 => 98 | 286 => 99 | 129 => 109 | 317 => 108 | 318 => 110 | 319 => 111 | 320 => 112 | 337 => 115 | 338 => 116 | n => n, fun | 2 => 2 | 3 => 3 | 9 => 9 | 4 => 4 | 171 => 116 | 0 => 0 | 53 => 117 | 37 => 43 | 5 => 5 | 173 => 120 | 212 => 129 | 51 => 130 | 20 => 20 | 213 => 131 | 46 => 115 | 232 => 137 | 233 => 138 | n => n, fun | 17 => 3 | 18 => 4 | 19 => 5 | n => n⟩
theorem Tryd.laysM246 : Go.Proofs.LaysM.n246 Tryd.prog Tryd.laysM246_ren := {
  mixed := by kernel_rfl
  f129 := Tryd.func109.trans (congrArg some (by kernel_rfl))
  f246 := Tryd.func85.trans (congrArg some (by kernel_rfl))
  f283 := Tryd.func96.trans (congrArg some (by kernel_rfl))
  f284 := Tryd.func97.trans (congrArg some (by kernel_rfl))
  f285 := Tryd.func98.trans (congrArg some (by kernel_rfl))
  f286 := Tryd.func99.trans (congrArg some (by kernel_rfl))
  f317 := Tryd.func108.trans (congrArg some (by kernel_rfl))
  f318 := Tryd.func110.trans (congrArg some (by kernel_rfl))
  f319 := Tryd.func111.trans (congrArg some (by kernel_rfl))
  f320 := Tryd.func112.trans (congrArg some (by kernel_rfl))
  f337 := Tryd.func115.trans (congrArg some (by kernel_rfl))
  f338 := Tryd.func116.trans (congrArg some (by kernel_rfl))
  t0 := Tryd.underlying0
  a0 := Tryd.isAgg0
  z0 := Tryd.sizeOf0
  v0 := Tryd.zeroValue0
  t2 := Tryd.underlying2
  a2 := Tryd.isAgg2
  z2 := Tryd.sizeOf2
  v2 := Tryd.zeroValue2
  t3 := Tryd.underlying3
  a3 := Tryd.isAgg3
  z3 := Tryd.sizeOf3
  v3 := Tryd.zeroValue3
  t4 := Tryd.underlying4
  a4 := Tryd.isAgg4
  z4 := Tryd.sizeOf4
  v4 := Tryd.zeroValue4
  t5 := Tryd.underlying5
  a5 := Tryd.isAgg5
  z5 := Tryd.sizeOf5
  v5 := Tryd.zeroValue5
  t9 := Tryd.underlying9
  a9 := Tryd.isAgg9
  z9 := Tryd.sizeOf9
  v9 := Tryd.zeroValue9
  t20 := Tryd.underlying20
  a20 := Tryd.isAgg20
  z20 := Tryd.sizeOf20
  v20 := Tryd.zeroValue20
  t37 := Tryd.underlying43
  a37 := Tryd.isAgg43
  z37 := Tryd.sizeOf43
  v37 := Tryd.zeroValue43
  t46 := Tryd.underlying115
  a46 := Tryd.isAgg115
  z46 := Tryd.sizeOf115
  v46 := Tryd.zeroValue115
  t51 := Tryd.underlying130
  a51 := Tryd.isAgg130
  z51 := Tryd.sizeOf130
  v51 := Tryd.zeroValue130
  t53 := Tryd.underlying117
  a53 := Tryd.isAgg117
  z53 := Tryd.sizeOf117
  v53 := Tryd.zeroValue117
  t171 := Tryd.underlying116
  a171 := Tryd.isAgg116
  z171 := Tryd.sizeOf116
  v171 := Tryd.zeroValue116
  t173 := Tryd.underlying120
  a173 := Tryd.isAgg120
  z173 := Tryd.sizeOf120
  v173 := Tryd.zeroValue120
  t212 := Tryd.underlying129
  a212 := Tryd.isAgg129
  z212 := Tryd.sizeOf129
  v212 := Tryd.zeroValue129
  t213 := Tryd.underlying131
  a213 := Tryd.isAgg131
  z213 := Tryd.sizeOf131
  t232 := Tryd.underlying137
  a232 := Tryd.isAgg137
  z232 := Tryd.sizeOf137
  v232 := Tryd.zeroValue137
  t233 := Tryd.underlying138
  a233 := Tryd.isAgg138
  z233 := Tryd.sizeOf138
  v233 := Tryd.zeroValue138
  g17 := by kernel_rfl
  g18 := by kernel_rfl
  g19 := by kernel_rfl
  i0 := by kernel_rfl
  i2 := by kernel_rfl
  i3 := by kernel_rfl
  i4 := by kernel_rfl
  i5 := by kernel_rfl
  i9 := by kernel_rfl
  i20 := by kernel_rfl
  i37 := by kernel_rfl
  i46 := by kernel_rfl
  i51 := by kernel_rfl
  i53 := by kernel_rfl
  i171 := by kernel_rfl
  i173 := by kernel_rfl
  i212 := by kernel_rfl
  i232 := by kernel_rfl
  i233 := by kernel_rfl
  m17 := by kernel_rfl
  m18 := by kernel_rfl
  m19 := by kernel_rfl }
open Go.RowKit Go.Sort Go.Lib in
/-- internal/strconv.FormatInt: "FormatInt returns the string representation of i in the given base": AT BASE 10: i's decimal numeral, for every int64. The world behind the call: the world before it, new blocks behind the heap, draws. (LAID: no walk: one application.) -/
theorem Tryd.internal_strconv_FormatInt_10 (n : Int) (h0 : -9223372036854775808 ≤ n) (h1 : n ≤ 9223372036854775807) (w : World) (htab : Lib.TabIs Tryd.prog w "internal/strconv.uint64pow10" .u64 Lib.pow10Tab) :
    Calls Tryd.prog 85 #[.int .i64 n, .int .i64 10] w fun e w' => e = .returned (.string ⟨(Lib.itoa n).toArray⟩) ∧ ∃ k os, w' = grow (w.drewN k) os := Any.internal_strconv_FormatInt_10 Tryd.laysM246 n h0 h1 w htab
def Tryd.lays246_ren : Go.Shelf.Ren := ⟨fun | 246 => 85 | 283 => 96 | 284 => 97 | 285 => 98 | 286 => 99 | 129 => 109 | 317 => 108 | 318 => 110 | 319 => 111 | 320 => 112 | 337 => 115 | 338 => 116 | n => n, fun | 2 => 2 | 3 => 3 | 9 => 9 | 4 => 4 | 171 => 116 | 0 => 0 | 53 => 117 | 37 => 43 | 5 => 5 | 173 => 120 | 212 => 129 | 51 => 130 | 20 => 20 | 213 => 131 | 46 => 115 | 232 => 137 | 233 => 138 | n => n, fun | 17 => 3 | 18 => 4 | 19 => 5 | n => n⟩
theorem Tryd.lays246 : Go.Proofs.Lays.n246 Tryd.prog Tryd.lays246_ren := {
  mixed := by kernel_rfl
  f129 := Tryd.func109.trans (congrArg some (by kernel_rfl))
  f246 := Tryd.func85.trans (congrArg some (by kernel_rfl))
  f283 := Tryd.func96.trans (congrArg some (by kernel_rfl))
  f284 := Tryd.func97.trans (congrArg some (by kernel_rfl))
  f285 := Tryd.func98.trans (congrArg some (by kernel_rfl))
  f286 := Tryd.func99.trans (congrArg some (by kernel_rfl))
  f317 := Tryd.func108.trans (congrArg some (by kernel_rfl))
  f318 := Tryd.func110.trans (congrArg some (by kernel_rfl))
  f319 := Tryd.func111.trans (congrArg some (by kernel_rfl))
  f320 := Tryd.func112.trans (congrArg some (by kernel_rfl))
  f337 := Tryd.func115.trans (congrArg some (by kernel_rfl))
  f338 := Tryd.func116.trans (congrArg some (by kernel_rfl))
  t0 := Tryd.underlying0
  a0 := Tryd.isAgg0
  z0 := Tryd.sizeOf0
  v0 := Tryd.zeroValue0
  t2 := Tryd.underlying2
  a2 := Tryd.isAgg2
  z2 := Tryd.sizeOf2
  v2 := Tryd.zeroValue2
  t3 := Tryd.underlying3
  a3 := Tryd.isAgg3
  z3 := Tryd.sizeOf3
  v3 := Tryd.zeroValue3
  t4 := Tryd.underlying4
  a4 := Tryd.isAgg4
  z4 := Tryd.sizeOf4
  v4 := Tryd.zeroValue4
  t5 := Tryd.underlying5
  a5 := Tryd.isAgg5
  z5 := Tryd.sizeOf5
  v5 := Tryd.zeroValue5
  t9 := Tryd.underlying9
  a9 := Tryd.isAgg9
  z9 := Tryd.sizeOf9
  v9 := Tryd.zeroValue9
  t20 := Tryd.underlying20
  a20 := Tryd.isAgg20
  z20 := Tryd.sizeOf20
  v20 := Tryd.zeroValue20
  t37 := Tryd.underlying43
  a37 := Tryd.isAgg43
  z37 := Tryd.sizeOf43
  v37 := Tryd.zeroValue43
  t46 := Tryd.underlying115
  a46 := Tryd.isAgg115
  z46 := Tryd.sizeOf115
  v46 := Tryd.zeroValue115
  t51 := Tryd.underlying130
  a51 := Tryd.isAgg130
  z51 := Tryd.sizeOf130
  v51 := Tryd.zeroValue130
  t53 := Tryd.underlying117
  a53 := Tryd.isAgg117
  z53 := Tryd.sizeOf117
  v53 := Tryd.zeroValue117
  t171 := Tryd.underlying116
  a171 := Tryd.isAgg116
  z171 := Tryd.sizeOf116
  v171 := Tryd.zeroValue116
  t173 := Tryd.underlying120
  a173 := Tryd.isAgg120
  z173 := Tryd.sizeOf120
  v173 := Tryd.zeroValue120
  t212 := Tryd.underlying129
  a212 := Tryd.isAgg129
  z212 := Tryd.sizeOf129
  v212 := Tryd.zeroValue129
  t213 := Tryd.underlying131
  a213 := Tryd.isAgg131
  z213 := Tryd.sizeOf131
  t232 := Tryd.underlying137
  a232 := Tryd.isAgg137
  z232 := Tryd.sizeOf137
  v232 := Tryd.zeroValue137
  t233 := Tryd.underlying138
  a233 := Tryd.isAgg138
  z233 := Tryd.sizeOf138
  v233 := Tryd.zeroValue138
  g17 := by kernel_rfl
  g18 := by kernel_rfl
  g19 := by kernel_rfl }
open Go.RowKit Go.Sort Go.Lib in
/-- THE ROAD WITHOUT THE TABLE: 0 <= i < 100: two constants are read, nothing is laid: no premise on the world, and the world is as it was. (LAID: no walk: one application.) -/
theorem Tryd.internal_strconv_FormatInt_10_small (i : Nat) (hi : i < 100) (w : World) :
    Calls Tryd.prog 85 #[.int .i64 i, .int .i64 10] w fun e w' => e = .returned (.string ⟨(Lib.decDigits i).toArray⟩) ∧ w' = w := Any.internal_strconv_FormatInt_10_small Tryd.lays246 i hi w
def Tryd.laysM243_ren : Go.Shelf.Ren := ⟨fun | 243 => 64 | 246 => 85 | 283 => 96 | 284 => 97 | 285 => 98 | 286 => 99 | 129 => 109 | 317 => 108 | 318 => 110 | 319 => 111 | 320 => 112 | 337 => 115 | 338 => 116 | n => n, fun | 3 => 3 | 9 => 9 | 2 => 2 | 4 => 4 | 171 => 116 | 0 => 0 | 53 => 117 | 37 => 43 | 5 => 5 | 173 => 120 | 212 => 129 | 51 => 130 | 20 => 20 | 213 => 131 | 46 => 115 | 232 => 137 | 233 => 138 | n => n, fun | 17 => 3 | 18 => 4 | 19 => 5 | n => n⟩
theorem Tryd.laysM243 : Go.Proofs.LaysM.n243 Tryd.prog Tryd.laysM243_ren := {
  mixed := by kernel_rfl
  f129 := Tryd.func109.trans (congrArg some (by kernel_rfl))
  f243 := Tryd.func64.trans (congrArg some (by kernel_rfl))
  f246 := Tryd.func85.trans (congrArg some (by kernel_rfl))
  f283 := Tryd.func96.trans (congrArg some (by kernel_rfl))
  f284 := Tryd.func97.trans (congrArg some (by kernel_rfl))
  f285 := Tryd.func98.trans (congrArg some (by kernel_rfl))
  f286 := Tryd.func99.trans (congrArg some (by kernel_rfl))
  f317 := Tryd.func108.trans (congrArg some (by kernel_rfl))
  f318 := Tryd.func110.trans (congrArg some (by kernel_rfl))
  f319 := Tryd.func111.trans (congrArg some (by kernel_rfl))
  f320 := Tryd.func112.trans (congrArg some (by kernel_rfl))
  f337 := Tryd.func115.trans (congrArg some (by kernel_rfl))
  f338 := Tryd.func116.trans (congrArg some (by kernel_rfl))
  t0 := Tryd.underlying0
  a0 := Tryd.isAgg0
  z0 := Tryd.sizeOf0
  v0 := Tryd.zeroValue0
  t2 := Tryd.underlying2
  a2 := Tryd.isAgg2
  z2 := Tryd.sizeOf2
  v2 := Tryd.zeroValue2
  t3 := Tryd.underlying3
  a3 := Tryd.isAgg3
  z3 := Tryd.sizeOf3
  v3 := Tryd.zeroValue3
  t4 := Tryd.underlying4
  a4 := Tryd.isAgg4
  z4 := Tryd.sizeOf4
  v4 := Tryd.zeroValue4
  t5 := Tryd.underlying5
  a5 := Tryd.isAgg5
  z5 := Tryd.sizeOf5
  v5 := Tryd.zeroValue5
  t9 := Tryd.underlying9
  a9 := Tryd.isAgg9
  z9 := Tryd.sizeOf9
  v9 := Tryd.zeroValue9
  t20 := Tryd.underlying20
  a20 := Tryd.isAgg20
  z20 := Tryd.sizeOf20
  v20 := Tryd.zeroValue20
  t37 := Tryd.underlying43
  a37 := Tryd.isAgg43
  z37 := Tryd.sizeOf43
  v37 := Tryd.zeroValue43
  t46 := Tryd.underlying115
  a46 := Tryd.isAgg115
  z46 := Tryd.sizeOf115
  v46 := Tryd.zeroValue115
  t51 := Tryd.underlying130
  a51 := Tryd.isAgg130
  z51 := Tryd.sizeOf130
  v51 := Tryd.zeroValue130
  t53 := Tryd.underlying117
  a53 := Tryd.isAgg117
  z53 := Tryd.sizeOf117
  v53 := Tryd.zeroValue117
  t171 := Tryd.underlying116
  a171 := Tryd.isAgg116
  z171 := Tryd.sizeOf116
  v171 := Tryd.zeroValue116
  t173 := Tryd.underlying120
  a173 := Tryd.isAgg120
  z173 := Tryd.sizeOf120
  v173 := Tryd.zeroValue120
  t212 := Tryd.underlying129
  a212 := Tryd.isAgg129
  z212 := Tryd.sizeOf129
  v212 := Tryd.zeroValue129
  t213 := Tryd.underlying131
  a213 := Tryd.isAgg131
  z213 := Tryd.sizeOf131
  t232 := Tryd.underlying137
  a232 := Tryd.isAgg137
  z232 := Tryd.sizeOf137
  v232 := Tryd.zeroValue137
  t233 := Tryd.underlying138
  a233 := Tryd.isAgg138
  z233 := Tryd.sizeOf138
  v233 := Tryd.zeroValue138
  g17 := by kernel_rfl
  g18 := by kernel_rfl
  g19 := by kernel_rfl
  i0 := by kernel_rfl
  i2 := by kernel_rfl
  i3 := by kernel_rfl
  i4 := by kernel_rfl
  i5 := by kernel_rfl
  i9 := by kernel_rfl
  i20 := by kernel_rfl
  i37 := by kernel_rfl
  i46 := by kernel_rfl
  i51 := by kernel_rfl
  i53 := by kernel_rfl
  i171 := by kernel_rfl
  i173 := by kernel_rfl
  i212 := by kernel_rfl
  i232 := by kernel_rfl
  i233 := by kernel_rfl
  m17 := by kernel_rfl
  m18 := by kernel_rfl
  m19 := by kernel_rfl }
open Go.RowKit Go.Sort Go.Lib in
/-- internal/strconv.Itoa: "Itoa is equivalent to FormatInt(int64(i), 10).": i's decimal numeral, for every int. (LAID: no walk: one application.) -/
theorem Tryd.internal_strconv_Itoa (n : Int) (h0 : -9223372036854775808 ≤ n) (h1 : n ≤ 9223372036854775807) (w : World) (htab : Lib.TabIs Tryd.prog w "internal/strconv.uint64pow10" .u64 Lib.pow10Tab) :
    Calls Tryd.prog 64 #[.int .i64 n] w fun e w' => e = .returned (.string ⟨(Lib.itoa n).toArray⟩) ∧ ∃ k os, w' = grow (w.drewN k) os := Any.internal_strconv_Itoa Tryd.laysM243 n h0 h1 w htab
def Tryd.lays243_ren : Go.Shelf.Ren := ⟨fun | 243 => 64 | 246 => 85 | 283 => 96 | 284 => 97 | 285 => 98 | 286 => 99 | 129 => 109 | 317 => 108 | 318 => 110 | 319 => 111 | 320 => 112 | 337 => 115 | 338 => 116 | n => n, fun | 3 => 3 | 9 => 9 | 2 => 2 | 4 => 4 | 171 => 116 | 0 => 0 | 53 => 117 | 37 => 43 | 5 => 5 | 173 => 120 | 212 => 129 | 51 => 130 | 20 => 20 | 213 => 131 | 46 => 115 | 232 => 137 | 233 => 138 | n => n, fun | 17 => 3 | 18 => 4 | 19 => 5 | n => n⟩
theorem Tryd.lays243 : Go.Proofs.Lays.n243 Tryd.prog Tryd.lays243_ren := {
  mixed := by kernel_rfl
  f129 := Tryd.func109.trans (congrArg some (by kernel_rfl))
  f243 := Tryd.func64.trans (congrArg some (by kernel_rfl))
  f246 := Tryd.func85.trans (congrArg some (by kernel_rfl))
  f283 := Tryd.func96.trans (congrArg some (by kernel_rfl))
  f284 := Tryd.func97.trans (congrArg some (by kernel_rfl))
  f285 := Tryd.func98.trans (congrArg some (by kernel_rfl))
  f286 := Tryd.func99.trans (congrArg some (by kernel_rfl))
  f317 := Tryd.func108.trans (congrArg some (by kernel_rfl))
  f318 := Tryd.func110.trans (congrArg some (by kernel_rfl))
  f319 := Tryd.func111.trans (congrArg some (by kernel_rfl))
  f320 := Tryd.func112.trans (congrArg some (by kernel_rfl))
  f337 := Tryd.func115.trans (congrArg some (by kernel_rfl))
  f338 := Tryd.func116.trans (congrArg some (by kernel_rfl))
  t0 := Tryd.underlying0
  a0 := Tryd.isAgg0
  z0 := Tryd.sizeOf0
  v0 := Tryd.zeroValue0
  t2 := Tryd.underlying2
  a2 := Tryd.isAgg2
  z2 := Tryd.sizeOf2
  v2 := Tryd.zeroValue2
  t3 := Tryd.underlying3
  a3 := Tryd.isAgg3
  z3 := Tryd.sizeOf3
  v3 := Tryd.zeroValue3
  t4 := Tryd.underlying4
  a4 := Tryd.isAgg4
  z4 := Tryd.sizeOf4
  v4 := Tryd.zeroValue4
  t5 := Tryd.underlying5
  a5 := Tryd.isAgg5
  z5 := Tryd.sizeOf5
  v5 := Tryd.zeroValue5
  t9 := Tryd.underlying9
  a9 := Tryd.isAgg9
  z9 := Tryd.sizeOf9
  v9 := Tryd.zeroValue9
  t20 := Tryd.underlying20
  a20 := Tryd.isAgg20
  z20 := Tryd.sizeOf20
  v20 := Tryd.zeroValue20
  t37 := Tryd.underlying43
  a37 := Tryd.isAgg43
  z37 := Tryd.sizeOf43
  v37 := Tryd.zeroValue43
  t46 := Tryd.underlying115
  a46 := Tryd.isAgg115
  z46 := Tryd.sizeOf115
  v46 := Tryd.zeroValue115
  t51 := Tryd.underlying130
  a51 := Tryd.isAgg130
  z51 := Tryd.sizeOf130
  v51 := Tryd.zeroValue130
  t53 := Tryd.underlying117
  a53 := Tryd.isAgg117
  z53 := Tryd.sizeOf117
  v53 := Tryd.zeroValue117
  t171 := Tryd.underlying116
  a171 := Tryd.isAgg116
  z171 := Tryd.sizeOf116
  v171 := Tryd.zeroValue116
  t173 := Tryd.underlying120
  a173 := Tryd.isAgg120
  z173 := Tryd.sizeOf120
  v173 := Tryd.zeroValue120
  t212 := Tryd.underlying129
  a212 := Tryd.isAgg129
  z212 := Tryd.sizeOf129
  v212 := Tryd.zeroValue129
  t213 := Tryd.underlying131
  a213 := Tryd.isAgg131
  z213 := Tryd.sizeOf131
  t232 := Tryd.underlying137
  a232 := Tryd.isAgg137
  z232 := Tryd.sizeOf137
  v232 := Tryd.zeroValue137
  t233 := Tryd.underlying138
  a233 := Tryd.isAgg138
  z233 := Tryd.sizeOf138
  v233 := Tryd.zeroValue138
  g17 := by kernel_rfl
  g18 := by kernel_rfl
  g19 := by kernel_rfl }
open Go.RowKit Go.Sort Go.Lib in
/-- THE ROAD WITHOUT THE TABLE: 0 <= i < 100. (LAID: no walk: one application.) -/
theorem Tryd.internal_strconv_Itoa_small (i : Nat) (hi : i < 100) (w : World) :
    Calls Tryd.prog 64 #[.int .i64 i] w fun e w' => e = .returned (.string ⟨(Lib.decDigits i).toArray⟩) ∧ w' = w := Any.internal_strconv_Itoa_small Tryd.lays243 i hi w
def Tryd.laysM171_ren : Go.Shelf.Ren := ⟨fun | 171 => 37 | 243 => 64 | 246 => 85 | 283 => 96 | 284 => 97 | 285 => 98 | 286 => 99 | 129 => 109 | 317 => 108 | 318 => 110 | 319 => 111 | 320 => 112 | 337 => 115 | 338 => 116 | n => n, fun | 3 => 3 | 9 => 9 | 2 => 2 | 4 => 4 | 171 => 116 | 0 => 0 | 53 => 117 | 37 => 43 | 5 => 5 | 173 => 120 | 212 => 129 | 51 => 130 | 20 => 20 | 213 => 131 | 46 => 115 | 232 => 137 | 233 => 138 | n => n, fun | 17 => 3 | 18 => 4 | 19 => 5 | n => n⟩
theorem Tryd.laysM171 : Go.Proofs.LaysM.n171 Tryd.prog Tryd.laysM171_ren := {
  mixed := by kernel_rfl
  f129 := Tryd.func109.trans (congrArg some (by kernel_rfl))
  f171 := Tryd.func37.trans (congrArg some (by kernel_rfl))
  f243 := Tryd.func64.trans (congrArg some (by kernel_rfl))
  f246 := Tryd.func85.trans (congrArg some (by kernel_rfl))
  f283 := Tryd.func96.trans (congrArg some (by kernel_rfl))
  f284 := Tryd.func97.trans (congrArg some (by kernel_rfl))
  f285 := Tryd.func98.trans (congrArg some (by kernel_rfl))
  f286 := Tryd.func99.trans (congrArg some (by kernel_rfl))
  f317 := Tryd.func108.trans (congrArg some (by kernel_rfl))
  f318 := Tryd.func110.trans (congrArg some (by kernel_rfl))
  f319 := Tryd.func111.trans (congrArg some (by kernel_rfl))
  f320 := Tryd.func112.trans (congrArg some (by kernel_rfl))
  f337 := Tryd.func115.trans (congrArg some (by kernel_rfl))
  f338 := Tryd.func116.trans (congrArg some (by kernel_rfl))
  t0 := Tryd.underlying0
  a0 := Tryd.isAgg0
  z0 := Tryd.sizeOf0
  v0 := Tryd.zeroValue0
  t2 := Tryd.underlying2
  a2 := Tryd.isAgg2
  z2 := Tryd.sizeOf2
  v2 := Tryd.zeroValue2
  t3 := Tryd.underlying3
  a3 := Tryd.isAgg3
  z3 := Tryd.sizeOf3
  v3 := Tryd.zeroValue3
  t4 := Tryd.underlying4
  a4 := Tryd.isAgg4
  z4 := Tryd.sizeOf4
  v4 := Tryd.zeroValue4
  t5 := Tryd.underlying5
  a5 := Tryd.isAgg5
  z5 := Tryd.sizeOf5
  v5 := Tryd.zeroValue5
  t9 := Tryd.underlying9
  a9 := Tryd.isAgg9
  z9 := Tryd.sizeOf9
  v9 := Tryd.zeroValue9
  t20 := Tryd.underlying20
  a20 := Tryd.isAgg20
  z20 := Tryd.sizeOf20
  v20 := Tryd.zeroValue20
  t37 := Tryd.underlying43
  a37 := Tryd.isAgg43
  z37 := Tryd.sizeOf43
  v37 := Tryd.zeroValue43
  t46 := Tryd.underlying115
  a46 := Tryd.isAgg115
  z46 := Tryd.sizeOf115
  v46 := Tryd.zeroValue115
  t51 := Tryd.underlying130
  a51 := Tryd.isAgg130
  z51 := Tryd.sizeOf130
  v51 := Tryd.zeroValue130
  t53 := Tryd.underlying117
  a53 := Tryd.isAgg117
  z53 := Tryd.sizeOf117
  v53 := Tryd.zeroValue117
  t171 := Tryd.underlying116
  a171 := Tryd.isAgg116
  z171 := Tryd.sizeOf116
  v171 := Tryd.zeroValue116
  t173 := Tryd.underlying120
  a173 := Tryd.isAgg120
  z173 := Tryd.sizeOf120
  v173 := Tryd.zeroValue120
  t212 := Tryd.underlying129
  a212 := Tryd.isAgg129
  z212 := Tryd.sizeOf129
  v212 := Tryd.zeroValue129
  t213 := Tryd.underlying131
  a213 := Tryd.isAgg131
  z213 := Tryd.sizeOf131
  t232 := Tryd.underlying137
  a232 := Tryd.isAgg137
  z232 := Tryd.sizeOf137
  v232 := Tryd.zeroValue137
  t233 := Tryd.underlying138
  a233 := Tryd.isAgg138
  z233 := Tryd.sizeOf138
  v233 := Tryd.zeroValue138
  g17 := by kernel_rfl
  g18 := by kernel_rfl
  g19 := by kernel_rfl
  i0 := by kernel_rfl
  i2 := by kernel_rfl
  i3 := by kernel_rfl
  i4 := by kernel_rfl
  i5 := by kernel_rfl
  i9 := by kernel_rfl
  i20 := by kernel_rfl
  i37 := by kernel_rfl
  i46 := by kernel_rfl
  i51 := by kernel_rfl
  i53 := by kernel_rfl
  i171 := by kernel_rfl
  i173 := by kernel_rfl
  i212 := by kernel_rfl
  i232 := by kernel_rfl
  i233 := by kernel_rfl
  m17 := by kernel_rfl
  m18 := by kernel_rfl
  m19 := by kernel_rfl }
open Go.RowKit Go.Sort Go.Lib in
/-- strconv.Itoa: "Itoa is equivalent to FormatInt(int64(i), 10).": i's DECIMAL NUMERAL ('Lib.itoa': a '-' where i is negative, then the digits), FOR EVERY int. The world behind the call: the world before it, new blocks behind the heap (the library's 'var a [24]byte'), draws. (LAID: no walk: one application.) -/
theorem Tryd.strconv_Itoa (n : Int) (h0 : -9223372036854775808 ≤ n) (h1 : n ≤ 9223372036854775807) (w : World) (htab : Lib.TabIs Tryd.prog w "internal/strconv.uint64pow10" .u64 Lib.pow10Tab) :
    Calls Tryd.prog 37 #[.int .i64 n] w fun e w' => e = .returned (.string ⟨(Lib.itoa n).toArray⟩) ∧ ∃ k os, w' = grow (w.drewN k) os := Any.strconv_Itoa Tryd.laysM171 n h0 h1 w htab
def Tryd.lays171_ren : Go.Shelf.Ren := ⟨fun | 171 => 37 | 243 => 64 | 246 => 85 | 283 => 96 | 284 => 97 | 285 => 98 | 286 => 99 | 129 => 109 | 317 => 108 | 318 => 110 | 319 => 111 | 320 => 112 | 337 => 115 | 338 => 116 | n => n, fun | 3 => 3 | 9 => 9 | 2 => 2 | 4 => 4 | 171 => 116 | 0 => 0 | 53 => 117 | 37 => 43 | 5 => 5 | 173 => 120 | 212 => 129 | 51 => 130 | 20 => 20 | 213 => 131 | 46 => 115 | 232 => 137 | 233 => 138 | n => n, fun | 17 => 3 | 18 => 4 | 19 => 5 | n => n⟩
theorem Tryd.lays171 : Go.Proofs.Lays.n171 Tryd.prog Tryd.lays171_ren := {
  mixed := by kernel_rfl
  f129 := Tryd.func109.trans (congrArg some (by kernel_rfl))
  f171 := Tryd.func37.trans (congrArg some (by kernel_rfl))
  f243 := Tryd.func64.trans (congrArg some (by kernel_rfl))
  f246 := Tryd.func85.trans (congrArg some (by kernel_rfl))
  f283 := Tryd.func96.trans (congrArg some (by kernel_rfl))
  f284 := Tryd.func97.trans (congrArg some (by kernel_rfl))
  f285 := Tryd.func98.trans (congrArg some (by kernel_rfl))
  f286 := Tryd.func99.trans (congrArg some (by kernel_rfl))
  f317 := Tryd.func108.trans (congrArg some (by kernel_rfl))
  f318 := Tryd.func110.trans (congrArg some (by kernel_rfl))
  f319 := Tryd.func111.trans (congrArg some (by kernel_rfl))
  f320 := Tryd.func112.trans (congrArg some (by kernel_rfl))
  f337 := Tryd.func115.trans (congrArg some (by kernel_rfl))
  f338 := Tryd.func116.trans (congrArg some (by kernel_rfl))
  t0 := Tryd.underlying0
  a0 := Tryd.isAgg0
  z0 := Tryd.sizeOf0
  v0 := Tryd.zeroValue0
  t2 := Tryd.underlying2
  a2 := Tryd.isAgg2
  z2 := Tryd.sizeOf2
  v2 := Tryd.zeroValue2
  t3 := Tryd.underlying3
  a3 := Tryd.isAgg3
  z3 := Tryd.sizeOf3
  v3 := Tryd.zeroValue3
  t4 := Tryd.underlying4
  a4 := Tryd.isAgg4
  z4 := Tryd.sizeOf4
  v4 := Tryd.zeroValue4
  t5 := Tryd.underlying5
  a5 := Tryd.isAgg5
  z5 := Tryd.sizeOf5
  v5 := Tryd.zeroValue5
  t9 := Tryd.underlying9
  a9 := Tryd.isAgg9
  z9 := Tryd.sizeOf9
  v9 := Tryd.zeroValue9
  t20 := Tryd.underlying20
  a20 := Tryd.isAgg20
  z20 := Tryd.sizeOf20
  v20 := Tryd.zeroValue20
  t37 := Tryd.underlying43
  a37 := Tryd.isAgg43
  z37 := Tryd.sizeOf43
  v37 := Tryd.zeroValue43
  t46 := Tryd.underlying115
  a46 := Tryd.isAgg115
  z46 := Tryd.sizeOf115
  v46 := Tryd.zeroValue115
  t51 := Tryd.underlying130
  a51 := Tryd.isAgg130
  z51 := Tryd.sizeOf130
  v51 := Tryd.zeroValue130
  t53 := Tryd.underlying117
  a53 := Tryd.isAgg117
  z53 := Tryd.sizeOf117
  v53 := Tryd.zeroValue117
  t171 := Tryd.underlying116
  a171 := Tryd.isAgg116
  z171 := Tryd.sizeOf116
  v171 := Tryd.zeroValue116
  t173 := Tryd.underlying120
  a173 := Tryd.isAgg120
  z173 := Tryd.sizeOf120
  v173 := Tryd.zeroValue120
  t212 := Tryd.underlying129
  a212 := Tryd.isAgg129
  z212 := Tryd.sizeOf129
  v212 := Tryd.zeroValue129
  t213 := Tryd.underlying131
  a213 := Tryd.isAgg131
  z213 := Tryd.sizeOf131
  t232 := Tryd.underlying137
  a232 := Tryd.isAgg137
  z232 := Tryd.sizeOf137
  v232 := Tryd.zeroValue137
  t233 := Tryd.underlying138
  a233 := Tryd.isAgg138
  z233 := Tryd.sizeOf138
  v233 := Tryd.zeroValue138
  g17 := by kernel_rfl
  g18 := by kernel_rfl
  g19 := by kernel_rfl }
open Go.RowKit Go.Sort Go.Lib in
/-- THE ROAD WITHOUT THE TABLE: 0 <= i < 100: NO PREMISE ON THE WORLD, AND THE WORLD IS AS IT WAS: a row that keeps its argument in that range need list no table ('laid = []'). (LAID: no walk: one application.) -/
theorem Tryd.strconv_Itoa_small (i : Nat) (hi : i < 100) (w : World) :
    Calls Tryd.prog 37 #[.int .i64 i] w fun e w' => e = .returned (.string ⟨(Lib.decDigits i).toArray⟩) ∧ w' = w := Any.strconv_Itoa_small Tryd.lays171 i hi w
def Tryd.laysM316_ren : Go.Shelf.Ren := ⟨fun | 316 => 79 | n => n, fun | 9 => 9 | 3 => 3 | 4 => 4 | 37 => 43 | 0 => 0 | 127 => 92 | 5 => 5 | n => n, fun | n => n⟩
theorem Tryd.laysM316 : Go.Proofs.LaysM.n316 Tryd.prog Tryd.laysM316_ren := {
  mixed := by kernel_rfl
  f316 := Tryd.func79.trans (congrArg some (by kernel_rfl))
  t0 := Tryd.underlying0
  a0 := Tryd.isAgg0
  z0 := Tryd.sizeOf0
  v0 := Tryd.zeroValue0
  t3 := Tryd.underlying3
  a3 := Tryd.isAgg3
  z3 := Tryd.sizeOf3
  v3 := Tryd.zeroValue3
  t4 := Tryd.underlying4
  a4 := Tryd.isAgg4
  z4 := Tryd.sizeOf4
  v4 := Tryd.zeroValue4
  t9 := Tryd.underlying9
  a9 := Tryd.isAgg9
  z9 := Tryd.sizeOf9
  v9 := Tryd.zeroValue9
  t37 := Tryd.underlying43
  a37 := Tryd.isAgg43
  z37 := Tryd.sizeOf43
  v37 := Tryd.zeroValue43
  t127 := Tryd.underlying92
  a127 := Tryd.isAgg92
  z127 := Tryd.sizeOf92
  v127 := Tryd.zeroValue92
  t5 := Tryd.underlying5
  a5 := Tryd.isAgg5
  z5 := Tryd.sizeOf5
  v5 := Tryd.zeroValue5
  i0 := by kernel_rfl
  i3 := by kernel_rfl
  i4 := by kernel_rfl
  i5 := by kernel_rfl
  i9 := by kernel_rfl
  i37 := by kernel_rfl
  i127 := by kernel_rfl }
open Go.RowKit in
/-- internal/stringslite.Clone (what strings.Clone calls): "Clone returns a fresh copy of s.": THE SAME BYTES. Of what was there nothing has turned (a new row is laid, and frozen, where s is not empty). (LAID: no walk: one application.) -/
theorem Tryd.stringslite_Clone (s : ByteArray) (w : World) (hlim : s.size ≤ 281474976710656) :
    Calls Tryd.prog 79 #[.string s] w fun e w' => e = .returned (.string s) ∧ Below w.heap.size w w' := Any.stringslite_Clone Tryd.laysM316 s w hlim
def Tryd.lays217_ren : Go.Shelf.Ren := ⟨fun | 217 => 101 | 266 => 113 | n => n, fun | 9 => 9 | 5 => 5 | 3 => 3 | n => n, fun | n => n⟩
theorem Tryd.lays217 : Go.Proofs.Lays.n217 Tryd.prog Tryd.lays217_ren := {
  mixed := by kernel_rfl
  f217 := Tryd.func101.trans (congrArg some (by kernel_rfl))
  f266 := Tryd.func113.trans (congrArg some (by kernel_rfl))
  t3 := Tryd.underlying3
  a3 := Tryd.isAgg3
  z3 := Tryd.sizeOf3
  v3 := Tryd.zeroValue3
  t5 := Tryd.underlying5
  a5 := Tryd.isAgg5
  z5 := Tryd.sizeOf5
  v5 := Tryd.zeroValue5
  t9 := Tryd.underlying9
  a9 := Tryd.isAgg9
  z9 := Tryd.sizeOf9
  v9 := Tryd.zeroValue9 }
open Go.RowKit Go.Lib in
/-- internal/stringslite.IndexByte (what strings.IndexByte calls): IT RETURNS 'Lib.indexByte s c'; the world is as it was. (LAID: no walk: one application.) -/
theorem Tryd.stringslite_IndexByte (s : ByteArray) (c : Int) (w : World) :
    Calls Tryd.prog 101 #[.string s, .int .u8 c] w fun e w' => e = .returned (.int .i64 (Lib.indexByte s.data.toList c.toNat.toUInt8)) ∧ w' = w := Any.stringslite_IndexByte Tryd.lays217 s c w
def Tryd.lays224_ren : Go.Shelf.Ren := ⟨fun | 224 => 103 | n => n, fun | 3 => 3 | n => n, fun | n => n⟩
theorem Tryd.lays224 : Go.Proofs.Lays.n224 Tryd.prog Tryd.lays224_ren := {
  mixed := by kernel_rfl
  f224 := Tryd.func103.trans (congrArg some (by kernel_rfl))
  t3 := Tryd.underlying3
  a3 := Tryd.isAgg3
  z3 := Tryd.sizeOf3
  v3 := Tryd.zeroValue3 }
open Go.RowKit Go.Lib in
/-- internal/bytealg.Cutover: "Cutover reports the number of failures of IndexByte we should tolerate before switching over to Index. n is the number of bytes processed so far.": on amd64: (n + 16) / 8. (LAID: no walk: one application.) -/
theorem Tryd.bytealg_Cutover (n : Int) (h0 : 0 ≤ n) (h1 : n < 4611686018427387904) (w : World) :
    Calls Tryd.prog 103 #[.int .i64 n] w fun e w' => e = .returned (.int .i64 ((n + 16) / 8)) ∧ w' = w := Any.bytealg_Cutover Tryd.lays224 n h0 h1 w
def Tryd.lays314_ren : Go.Shelf.Ren := ⟨fun | 314 => 114 | n => n, fun | 9 => 9 | 51 => 130 | 3 => 3 | 4 => 4 | 5 => 5 | 46 => 115 | n => n, fun | n => n⟩
theorem Tryd.lays314 : Go.Proofs.Lays.n314 Tryd.prog Tryd.lays314_ren := {
  mixed := by kernel_rfl
  f314 := Tryd.func114.trans (congrArg some (by kernel_rfl))
  t3 := Tryd.underlying3
  a3 := Tryd.isAgg3
  z3 := Tryd.sizeOf3
  v3 := Tryd.zeroValue3
  t4 := Tryd.underlying4
  a4 := Tryd.isAgg4
  z4 := Tryd.sizeOf4
  v4 := Tryd.zeroValue4
  t5 := Tryd.underlying5
  a5 := Tryd.isAgg5
  z5 := Tryd.sizeOf5
  v5 := Tryd.zeroValue5
  t9 := Tryd.underlying9
  a9 := Tryd.isAgg9
  z9 := Tryd.sizeOf9
  v9 := Tryd.zeroValue9
  t46 := Tryd.underlying115
  a46 := Tryd.isAgg115
  z46 := Tryd.sizeOf115
  v46 := Tryd.zeroValue115
  t51 := Tryd.underlying130
  a51 := Tryd.isAgg130
  z51 := Tryd.sizeOf130
  v51 := Tryd.zeroValue130 }
open Go.RowKit Go.Lib in
/-- hashStr: "returns the hash and the appropriate multiplicative factor for use in Rabin-Karp algorithm": THE HASH OF ALL OF sep, AND 16777619 ^ len(sep), both in uint32. (LAID: no walk: one application.) -/
theorem Tryd.bytealg_hashStr (sep : ByteArray) (hs : sep.size < 4294967281) (w : World) :
    Calls Tryd.prog 114 #[.string sep] w fun e w' => e = .returned (.tuple #[.int .u32 (RK.H sep.data.toList % 4294967296), .int .u32 (16777619 ^ sep.size % 4294967296)]) ∧ w' = w := Any.bytealg_hashStr Tryd.lays314 sep hs w
def Tryd.lays267_ren : Go.Shelf.Ren := ⟨fun | 267 => 104 | 314 => 114 | n => n, fun | 9 => 9 | 3 => 3 | 146 => 134 | 51 => 130 | 4 => 4 | 5 => 5 | 46 => 115 | n => n, fun | n => n⟩
theorem Tryd.lays267 : Go.Proofs.Lays.n267 Tryd.prog Tryd.lays267_ren := {
  mixed := by kernel_rfl
  f267 := Tryd.func104.trans (congrArg some (by kernel_rfl))
  f314 := Tryd.func114.trans (congrArg some (by kernel_rfl))
  t3 := Tryd.underlying3
  a3 := Tryd.isAgg3
  z3 := Tryd.sizeOf3
  v3 := Tryd.zeroValue3
  t4 := Tryd.underlying4
  a4 := Tryd.isAgg4
  z4 := Tryd.sizeOf4
  v4 := Tryd.zeroValue4
  t5 := Tryd.underlying5
  a5 := Tryd.isAgg5
  z5 := Tryd.sizeOf5
  v5 := Tryd.zeroValue5
  t9 := Tryd.underlying9
  a9 := Tryd.isAgg9
  z9 := Tryd.sizeOf9
  v9 := Tryd.zeroValue9
  t46 := Tryd.underlying115
  a46 := Tryd.isAgg115
  z46 := Tryd.sizeOf115
  v46 := Tryd.zeroValue115
  t51 := Tryd.underlying130
  a51 := Tryd.isAgg130
  z51 := Tryd.sizeOf130
  v51 := Tryd.zeroValue130
  t146 := Tryd.underlying134
  a146 := Tryd.isAgg134
  z146 := Tryd.sizeOf134
  v146 := Tryd.zeroValue134 }
open Go.RowKit Go.Lib in
theorem Tryd.bytealg_IndexRabinKarp (s sep : ByteArray) (h1 : 1 ≤ sep.size) (h2 : sep.size ≤ s.size) (hs : s.size < 4294967281) (w : World) :
    Calls Tryd.prog 104 #[.string s, .string sep] w fun e w' => e = .returned (.int .i64 (Lib.index s.data.toList sep.data.toList)) ∧ w' = w := Any.bytealg_IndexRabinKarp Tryd.lays267 s sep h1 h2 hs w
def Tryd.lays219_ren : Go.Shelf.Ren := ⟨fun | 219 => 89 | 217 => 101 | 225 => 102 | 224 => 103 | 267 => 104 | 266 => 113 | 314 => 114 | n => n, fun | 9 => 9 | 3 => 3 | 4 => 4 | 5 => 5 | 46 => 115 | 146 => 134 | 51 => 130 | n => n, fun | 1 => 0 | n => n⟩
theorem Tryd.lays219 : Go.Proofs.Lays.n219 Tryd.prog Tryd.lays219_ren := {
  mixed := by kernel_rfl
  f217 := Tryd.func101.trans (congrArg some (by kernel_rfl))
  f219 := Tryd.func89.trans (congrArg some (by kernel_rfl))
  f224 := Tryd.func103.trans (congrArg some (by kernel_rfl))
  f225 := Tryd.func102.trans (congrArg some (by kernel_rfl))
  f266 := Tryd.func113.trans (congrArg some (by kernel_rfl))
  f267 := Tryd.func104.trans (congrArg some (by kernel_rfl))
  f314 := Tryd.func114.trans (congrArg some (by kernel_rfl))
  t3 := Tryd.underlying3
  a3 := Tryd.isAgg3
  z3 := Tryd.sizeOf3
  v3 := Tryd.zeroValue3
  t4 := Tryd.underlying4
  a4 := Tryd.isAgg4
  z4 := Tryd.sizeOf4
  v4 := Tryd.zeroValue4
  t5 := Tryd.underlying5
  a5 := Tryd.isAgg5
  z5 := Tryd.sizeOf5
  v5 := Tryd.zeroValue5
  t9 := Tryd.underlying9
  a9 := Tryd.isAgg9
  z9 := Tryd.sizeOf9
  v9 := Tryd.zeroValue9
  t46 := Tryd.underlying115
  a46 := Tryd.isAgg115
  z46 := Tryd.sizeOf115
  v46 := Tryd.zeroValue115
  t51 := Tryd.underlying130
  a51 := Tryd.isAgg130
  z51 := Tryd.sizeOf130
  v51 := Tryd.zeroValue130
  t146 := Tryd.underlying134
  a146 := Tryd.isAgg134
  z146 := Tryd.sizeOf134
  v146 := Tryd.zeroValue134
  g1 := by kernel_rfl }
open Go.RowKit Go.Lib in
/-- internal/stringslite.Index (what strings.Index calls) AT A substr OF ONE BYTE c: IT RETURNS 'Lib.indexByte s c'; the world is as it was. (LAID: no walk: one application.) -/
theorem Tryd.stringslite_Index_one (s : ByteArray) (c : UInt8) (w : World) :
    Calls Tryd.prog 89 #[.string s, .string ⟨#[c]⟩] w fun e w' => e = .returned (.int .i64 (Lib.indexByte s.data.toList c)) ∧ w' = w := Any.stringslite_Index_one Tryd.lays219 s c w
open Go.RowKit Go.Lib in
/-- internal/stringslite.Index (what strings.Index calls) AT A substr OF WHATEVER LENGTH: IT RETURNS 'Lib.index s substr'; the world is as it was. 'm': what internal/bytealg.MaxLen holds: whatever. (LAID: no walk: one application.) -/
theorem Tryd.stringslite_Index (s sub : ByteArray) (m : Int) (w : World) (hs : s.size < 4294967281) (hm : w.cell? ⟨0, 0, none⟩ = some (.int .i64 m)) :
    Calls Tryd.prog 89 #[.string s, .string sub] w fun e w' => e = .returned (.int .i64 (Lib.index s.data.toList sub.data.toList)) ∧ w' = w := Any.stringslite_Index Tryd.lays219 s sub m w hs hm
def Tryd.lays143_ren : Go.Shelf.Ren := ⟨fun | 143 => 69 | 219 => 89 | 217 => 101 | 225 => 102 | 224 => 103 | 267 => 104 | 266 => 113 | 314 => 114 | n => n, fun | 9 => 9 | 3 => 3 | 4 => 4 | 5 => 5 | 46 => 115 | 146 => 134 | 51 => 130 | n => n, fun | 1 => 0 | n => n⟩
theorem Tryd.lays143 : Go.Proofs.Lays.n143 Tryd.prog Tryd.lays143_ren := {
  mixed := by kernel_rfl
  f143 := Tryd.func69.trans (congrArg some (by kernel_rfl))
  f217 := Tryd.func101.trans (congrArg some (by kernel_rfl))
  f219 := Tryd.func89.trans (congrArg some (by kernel_rfl))
  f224 := Tryd.func103.trans (congrArg some (by kernel_rfl))
  f225 := Tryd.func102.trans (congrArg some (by kernel_rfl))
  f266 := Tryd.func113.trans (congrArg some (by kernel_rfl))
  f267 := Tryd.func104.trans (congrArg some (by kernel_rfl))
  f314 := Tryd.func114.trans (congrArg some (by kernel_rfl))
  t3 := Tryd.underlying3
  a3 := Tryd.isAgg3
  z3 := Tryd.sizeOf3
  v3 := Tryd.zeroValue3
  t4 := Tryd.underlying4
  a4 := Tryd.isAgg4
  z4 := Tryd.sizeOf4
  v4 := Tryd.zeroValue4
  t5 := Tryd.underlying5
  a5 := Tryd.isAgg5
  z5 := Tryd.sizeOf5
  v5 := Tryd.zeroValue5
  t9 := Tryd.underlying9
  a9 := Tryd.isAgg9
  z9 := Tryd.sizeOf9
  v9 := Tryd.zeroValue9
  t46 := Tryd.underlying115
  a46 := Tryd.isAgg115
  z46 := Tryd.sizeOf115
  v46 := Tryd.zeroValue115
  t51 := Tryd.underlying130
  a51 := Tryd.isAgg130
  z51 := Tryd.sizeOf130
  v51 := Tryd.zeroValue130
  t146 := Tryd.underlying134
  a146 := Tryd.isAgg134
  z146 := Tryd.sizeOf134
  v146 := Tryd.zeroValue134
  g1 := by kernel_rfl }
open Go.RowKit Go.Lib in
/-- strings.Index: "Index returns the index of the first instance of substr in s, or -1 if substr is not present in s.": AT A substr OF ONE BYTE c: IT RETURNS 'Lib.indexByte s c'; the world is as it was. (LAID: no walk: one application.) -/
theorem Tryd.strings_Index_one (s : ByteArray) (c : UInt8) (w : World) :
    Calls Tryd.prog 69 #[.string s, .string ⟨#[c]⟩] w fun e w' => e = .returned (.int .i64 (Lib.indexByte s.data.toList c)) ∧ w' = w := Any.strings_Index_one Tryd.lays143 s c w
open Go.RowKit Go.Lib in
/-- strings.Index: "Index returns the index of the first instance of substr in s, or -1 if substr is not present in s.": IT RETURNS 'Lib.index s substr'; the world is as it was. (LAID: no walk: one application.) -/
theorem Tryd.strings_Index (s sub : ByteArray) (m : Int) (w : World) (hs : s.size < 4294967281) (hm : w.cell? ⟨0, 0, none⟩ = some (.int .i64 m)) :
    Calls Tryd.prog 69 #[.string s, .string sub] w fun e w' => e = .returned (.int .i64 (Lib.index s.data.toList sub.data.toList)) ∧ w' = w := Any.strings_Index Tryd.lays143 s sub m w hs hm
def Tryd.lays220_ren : Go.Shelf.Ren := ⟨fun | 220 => 93 | 219 => 89 | 217 => 101 | 225 => 102 | 224 => 103 | 267 => 104 | 266 => 113 | 314 => 114 | n => n, fun | 9 => 9 | 4 => 4 | 3 => 3 | 5 => 5 | 46 => 115 | 146 => 134 | 51 => 130 | n => n, fun | 1 => 0 | n => n⟩
theorem Tryd.lays220 : Go.Proofs.Lays.n220 Tryd.prog Tryd.lays220_ren := {
  mixed := by kernel_rfl
  f217 := Tryd.func101.trans (congrArg some (by kernel_rfl))
  f219 := Tryd.func89.trans (congrArg some (by kernel_rfl))
  f220 := Tryd.func93.trans (congrArg some (by kernel_rfl))
  f224 := Tryd.func103.trans (congrArg some (by kernel_rfl))
  f225 := Tryd.func102.trans (congrArg some (by kernel_rfl))
  f266 := Tryd.func113.trans (congrArg some (by kernel_rfl))
  f267 := Tryd.func104.trans (congrArg some (by kernel_rfl))
  f314 := Tryd.func114.trans (congrArg some (by kernel_rfl))
  t3 := Tryd.underlying3
  a3 := Tryd.isAgg3
  z3 := Tryd.sizeOf3
  v3 := Tryd.zeroValue3
  t4 := Tryd.underlying4
  a4 := Tryd.isAgg4
  z4 := Tryd.sizeOf4
  v4 := Tryd.zeroValue4
  t5 := Tryd.underlying5
  a5 := Tryd.isAgg5
  z5 := Tryd.sizeOf5
  v5 := Tryd.zeroValue5
  t9 := Tryd.underlying9
  a9 := Tryd.isAgg9
  z9 := Tryd.sizeOf9
  v9 := Tryd.zeroValue9
  t46 := Tryd.underlying115
  a46 := Tryd.isAgg115
  z46 := Tryd.sizeOf115
  v46 := Tryd.zeroValue115
  t51 := Tryd.underlying130
  a51 := Tryd.isAgg130
  z51 := Tryd.sizeOf130
  v51 := Tryd.zeroValue130
  t146 := Tryd.underlying134
  a146 := Tryd.isAgg134
  z146 := Tryd.sizeOf134
  v146 := Tryd.zeroValue134
  g1 := by kernel_rfl }
open Go.RowKit Go.Lib in
/-- internal/stringslite.Cut (what strings.Cut calls): IT RETURNS 'Lib.cut s sep'; the world is as it was but for the count of draws. (LAID: no walk: one application.) -/
theorem Tryd.stringslite_Cut (s sep : ByteArray) (m : Int) (w : World) (hs : s.size < 4294967281) (hm : w.cell? ⟨0, 0, none⟩ = some (.int .i64 m)) :
    Calls Tryd.prog 93 #[.string s, .string sep] w fun e w' => e = .returned (.tuple #[.string ⟨(Lib.cut s.data.toList sep.data.toList).1.toArray⟩, .string ⟨(Lib.cut s.data.toList sep.data.toList).2.1.toArray⟩, .bool (Lib.cut s.data.toList sep.data.toList).2.2]) ∧ ∃ n, w' = w.drewN n := Any.stringslite_Cut Tryd.lays220 s sep m w hs hm
def Tryd.lays145_ren : Go.Shelf.Ren := ⟨fun | 145 => 74 | 220 => 93 | 219 => 89 | 217 => 101 | 225 => 102 | 224 => 103 | 267 => 104 | 266 => 113 | 314 => 114 | n => n, fun | 9 => 9 | 4 => 4 | 59 => 97 | 3 => 3 | 5 => 5 | 46 => 115 | 146 => 134 | 51 => 130 | n => n, fun | 1 => 0 | n => n⟩
theorem Tryd.lays145 : Go.Proofs.Lays.n145 Tryd.prog Tryd.lays145_ren := {
  mixed := by kernel_rfl
  f145 := Tryd.func74.trans (congrArg some (by kernel_rfl))
  f217 := Tryd.func101.trans (congrArg some (by kernel_rfl))
  f219 := Tryd.func89.trans (congrArg some (by kernel_rfl))
  f220 := Tryd.func93.trans (congrArg some (by kernel_rfl))
  f224 := Tryd.func103.trans (congrArg some (by kernel_rfl))
  f225 := Tryd.func102.trans (congrArg some (by kernel_rfl))
  f266 := Tryd.func113.trans (congrArg some (by kernel_rfl))
  f267 := Tryd.func104.trans (congrArg some (by kernel_rfl))
  f314 := Tryd.func114.trans (congrArg some (by kernel_rfl))
  t3 := Tryd.underlying3
  a3 := Tryd.isAgg3
  z3 := Tryd.sizeOf3
  v3 := Tryd.zeroValue3
  t4 := Tryd.underlying4
  a4 := Tryd.isAgg4
  z4 := Tryd.sizeOf4
  v4 := Tryd.zeroValue4
  t5 := Tryd.underlying5
  a5 := Tryd.isAgg5
  z5 := Tryd.sizeOf5
  v5 := Tryd.zeroValue5
  t9 := Tryd.underlying9
  a9 := Tryd.isAgg9
  z9 := Tryd.sizeOf9
  v9 := Tryd.zeroValue9
  t46 := Tryd.underlying115
  a46 := Tryd.isAgg115
  z46 := Tryd.sizeOf115
  v46 := Tryd.zeroValue115
  t51 := Tryd.underlying130
  a51 := Tryd.isAgg130
  z51 := Tryd.sizeOf130
  v51 := Tryd.zeroValue130
  t59 := Tryd.underlying97
  a59 := Tryd.isAgg97
  z59 := Tryd.sizeOf97
  v59 := Tryd.zeroValue97
  t146 := Tryd.underlying134
  a146 := Tryd.isAgg134
  z146 := Tryd.sizeOf134
  v146 := Tryd.zeroValue134
  g1 := by kernel_rfl }
open Go.RowKit Go.Lib in
/-- strings.Cut: "Cut slices s around the first instance of sep, returning the text before and after sep. The found result reports whether sep appears in s. If sep does not appear in s, cut returns s, "", false.": IT RETURNS 'Lib.cut s sep'; the world is as it was but for the count of draws. (LAID: no walk: one application.) -/
theorem Tryd.strings_Cut (s sep : ByteArray) (m : Int) (w : World) (hs : s.size < 4294967281) (hm : w.cell? ⟨0, 0, none⟩ = some (.int .i64 m)) :
    Calls Tryd.prog 74 #[.string s, .string sep] w fun e w' => e = .returned (.tuple #[.string ⟨(Lib.cut s.data.toList sep.data.toList).1.toArray⟩, .string ⟨(Lib.cut s.data.toList sep.data.toList).2.1.toArray⟩, .bool (Lib.cut s.data.toList sep.data.toList).2.2]) ∧ ∃ n, w' = w.drewN n := Any.strings_Cut Tryd.lays145 s sep m w hs hm
def Tryd.lays138_ren : Go.Shelf.Ren := ⟨fun | 138 => 68 | 195 => 87 | 218 => 88 | 143 => 69 | 219 => 89 | 217 => 101 | 225 => 102 | 224 => 103 | 267 => 104 | 266 => 113 | 314 => 114 | n => n, fun | 9 => 9 | 3 => 3 | 4 => 4 | 5 => 5 | 0 => 0 | 46 => 115 | 146 => 134 | 51 => 130 | n => n, fun | 1 => 0 | n => n⟩
theorem Tryd.lays138 : Go.Proofs.Lays.n138 Tryd.prog Tryd.lays138_ren := {
  mixed := by kernel_rfl
  f138 := Tryd.func68.trans (congrArg some (by kernel_rfl))
  f143 := Tryd.func69.trans (congrArg some (by kernel_rfl))
  f195 := Tryd.func87.trans (congrArg some (by kernel_rfl))
  f217 := Tryd.func101.trans (congrArg some (by kernel_rfl))
  f218 := Tryd.func88.trans (congrArg some (by kernel_rfl))
  f219 := Tryd.func89.trans (congrArg some (by kernel_rfl))
  f224 := Tryd.func103.trans (congrArg some (by kernel_rfl))
  f225 := Tryd.func102.trans (congrArg some (by kernel_rfl))
  f266 := Tryd.func113.trans (congrArg some (by kernel_rfl))
  f267 := Tryd.func104.trans (congrArg some (by kernel_rfl))
  f314 := Tryd.func114.trans (congrArg some (by kernel_rfl))
  t0 := Tryd.underlying0
  a0 := Tryd.isAgg0
  z0 := Tryd.sizeOf0
  v0 := Tryd.zeroValue0
  t3 := Tryd.underlying3
  a3 := Tryd.isAgg3
  z3 := Tryd.sizeOf3
  v3 := Tryd.zeroValue3
  t4 := Tryd.underlying4
  a4 := Tryd.isAgg4
  z4 := Tryd.sizeOf4
  v4 := Tryd.zeroValue4
  t5 := Tryd.underlying5
  a5 := Tryd.isAgg5
  z5 := Tryd.sizeOf5
  v5 := Tryd.zeroValue5
  t9 := Tryd.underlying9
  a9 := Tryd.isAgg9
  z9 := Tryd.sizeOf9
  v9 := Tryd.zeroValue9
  t46 := Tryd.underlying115
  a46 := Tryd.isAgg115
  z46 := Tryd.sizeOf115
  v46 := Tryd.zeroValue115
  t51 := Tryd.underlying130
  a51 := Tryd.isAgg130
  z51 := Tryd.sizeOf130
  v51 := Tryd.zeroValue130
  t146 := Tryd.underlying134
  a146 := Tryd.isAgg134
  z146 := Tryd.sizeOf134
  v146 := Tryd.zeroValue134
  g1 := by kernel_rfl }
open Go.RowKit Go.Lib in
/-- strings.Count AT A substr OF ONE BYTE ('hp'): "Count counts the number of non-overlapping instances of substr in s.": IT RETURNS 'Lib.countByte s (that byte)'; the world is as it was. ✋ NO CONTRACT HERE YET at an empty substr (utf8.RuneCountInString) or at a longer one (a loop over strings.Index). (LAID: no walk: one application.) -/
theorem Tryd.strings_Count_one (s : ByteArray) (c : UInt8) (w : World) :
    Calls Tryd.prog 68 #[.string s, .string ⟨#[c]⟩] w fun e w' => e = .returned (.int .i64 (Lib.countByte s.data.toList c)) ∧ w' = w := Any.strings_Count_one Tryd.lays138 s c w
open Go.RowKit Go.Lib in
/-- strings.Count AT A substr OF TWO BYTES OR MORE: "Count counts the number of non-overlapping instances of substr in s.": IT RETURNS 'Lib.count s substr'; the world is as it was. (LAID: no walk: one application.) -/
theorem Tryd.strings_Count (s sub : ByteArray) (m : Int) (w : World) (hs : s.size < 4294967281) (hm : w.cell? ⟨0, 0, none⟩ = some (.int .i64 m)) (h2 : 2 ≤ sub.size) :
    Calls Tryd.prog 68 #[.string s, .string sub] w fun e w' => e = .returned (.int .i64 (Lib.countB s sub)) ∧ w' = w := Any.strings_Count Tryd.lays138 s sub m w hs hm h2
def Tryd.laysM219_ren : Go.Shelf.Ren := ⟨fun | 219 => 89 | 217 => 101 | 225 => 102 | 224 => 103 | 267 => 104 | 266 => 113 | 314 => 114 | n => n, fun | 9 => 9 | 3 => 3 | 4 => 4 | 5 => 5 | 46 => 115 | 146 => 134 | 51 => 130 | n => n, fun | 1 => 0 | n => n⟩
theorem Tryd.laysM219 : Go.Proofs.LaysM.n219 Tryd.prog Tryd.laysM219_ren := {
  mixed := by kernel_rfl
  f217 := Tryd.func101.trans (congrArg some (by kernel_rfl))
  f219 := Tryd.func89.trans (congrArg some (by kernel_rfl))
  f224 := Tryd.func103.trans (congrArg some (by kernel_rfl))
  f225 := Tryd.func102.trans (congrArg some (by kernel_rfl))
  f266 := Tryd.func113.trans (congrArg some (by kernel_rfl))
  f267 := Tryd.func104.trans (congrArg some (by kernel_rfl))
  f314 := Tryd.func114.trans (congrArg some (by kernel_rfl))
  t3 := Tryd.underlying3
  a3 := Tryd.isAgg3
  z3 := Tryd.sizeOf3
  v3 := Tryd.zeroValue3
  t4 := Tryd.underlying4
  a4 := Tryd.isAgg4
  z4 := Tryd.sizeOf4
  v4 := Tryd.zeroValue4
  t5 := Tryd.underlying5
  a5 := Tryd.isAgg5
  z5 := Tryd.sizeOf5
  v5 := Tryd.zeroValue5
  t9 := Tryd.underlying9
  a9 := Tryd.isAgg9
  z9 := Tryd.sizeOf9
  v9 := Tryd.zeroValue9
  t46 := Tryd.underlying115
  a46 := Tryd.isAgg115
  z46 := Tryd.sizeOf115
  v46 := Tryd.zeroValue115
  t51 := Tryd.underlying130
  a51 := Tryd.isAgg130
  z51 := Tryd.sizeOf130
  v51 := Tryd.zeroValue130
  t146 := Tryd.underlying134
  a146 := Tryd.isAgg134
  z146 := Tryd.sizeOf134
  v146 := Tryd.zeroValue134
  g1 := by kernel_rfl
  i3 := by kernel_rfl
  i4 := by kernel_rfl
  i5 := by kernel_rfl
  i9 := by kernel_rfl
  i46 := by kernel_rfl
  i51 := by kernel_rfl
  i146 := by kernel_rfl
  m1 := by kernel_rfl
  s1_3 := fun w h => Go.Proofs.cell_of_shapedOpen_int (zero := #[.int .i64 0]) (t := 3) h (of_decide_eq_true (by kernel_rfl)) (by kernel_rfl) rfl (by kernel_rfl) (by kernel_rfl) Tryd.underlying3 }
open Go.RowKit Go.Lib in
theorem Tryd.stringslite_Index_shaped (s sub : ByteArray) (w : World) (h : w.ShapedOpen Tryd.prog) (hs : s.size < 4294967281) :
    Calls Tryd.prog 89 #[.string s, .string sub] w fun e w' => e = .returned (.int .i64 (Lib.index s.data.toList sub.data.toList)) ∧ w' = w := Any.stringslite_Index_shaped Tryd.laysM219 s sub w h hs
def Tryd.laysM143_ren : Go.Shelf.Ren := ⟨fun | 143 => 69 | 219 => 89 | 217 => 101 | 225 => 102 | 224 => 103 | 267 => 104 | 266 => 113 | 314 => 114 | n => n, fun | 9 => 9 | 3 => 3 | 4 => 4 | 5 => 5 | 46 => 115 | 146 => 134 | 51 => 130 | n => n, fun | 1 => 0 | n => n⟩
theorem Tryd.laysM143 : Go.Proofs.LaysM.n143 Tryd.prog Tryd.laysM143_ren := {
  mixed := by kernel_rfl
  f143 := Tryd.func69.trans (congrArg some (by kernel_rfl))
  f217 := Tryd.func101.trans (congrArg some (by kernel_rfl))
  f219 := Tryd.func89.trans (congrArg some (by kernel_rfl))
  f224 := Tryd.func103.trans (congrArg some (by kernel_rfl))
  f225 := Tryd.func102.trans (congrArg some (by kernel_rfl))
  f266 := Tryd.func113.trans (congrArg some (by kernel_rfl))
  f267 := Tryd.func104.trans (congrArg some (by kernel_rfl))
  f314 := Tryd.func114.trans (congrArg some (by kernel_rfl))
  t3 := Tryd.underlying3
  a3 := Tryd.isAgg3
  z3 := Tryd.sizeOf3
  v3 := Tryd.zeroValue3
  t4 := Tryd.underlying4
  a4 := Tryd.isAgg4
  z4 := Tryd.sizeOf4
  v4 := Tryd.zeroValue4
  t5 := Tryd.underlying5
  a5 := Tryd.isAgg5
  z5 := Tryd.sizeOf5
  v5 := Tryd.zeroValue5
  t9 := Tryd.underlying9
  a9 := Tryd.isAgg9
  z9 := Tryd.sizeOf9
  v9 := Tryd.zeroValue9
  t46 := Tryd.underlying115
  a46 := Tryd.isAgg115
  z46 := Tryd.sizeOf115
  v46 := Tryd.zeroValue115
  t51 := Tryd.underlying130
  a51 := Tryd.isAgg130
  z51 := Tryd.sizeOf130
  v51 := Tryd.zeroValue130
  t146 := Tryd.underlying134
  a146 := Tryd.isAgg134
  z146 := Tryd.sizeOf134
  v146 := Tryd.zeroValue134
  g1 := by kernel_rfl
  i3 := by kernel_rfl
  i4 := by kernel_rfl
  i5 := by kernel_rfl
  i9 := by kernel_rfl
  i46 := by kernel_rfl
  i51 := by kernel_rfl
  i146 := by kernel_rfl
  m1 := by kernel_rfl
  s1_3 := fun w h => Go.Proofs.cell_of_shapedOpen_int (zero := #[.int .i64 0]) (t := 3) h (of_decide_eq_true (by kernel_rfl)) (by kernel_rfl) rfl (by kernel_rfl) (by kernel_rfl) Tryd.underlying3 }
open Go.RowKit Go.Lib in
theorem Tryd.strings_Index_shaped (s sub : ByteArray) (w : World) (h : w.ShapedOpen Tryd.prog) (hs : s.size < 4294967281) :
    Calls Tryd.prog 69 #[.string s, .string sub] w fun e w' => e = .returned (.int .i64 (Lib.index s.data.toList sub.data.toList)) ∧ w' = w := Any.strings_Index_shaped Tryd.laysM143 s sub w h hs
def Tryd.laysM220_ren : Go.Shelf.Ren := ⟨fun | 220 => 93 | 219 => 89 | 217 => 101 | 225 => 102 | 224 => 103 | 267 => 104 | 266 => 113 | 314 => 114 | n => n, fun | 9 => 9 | 4 => 4 | 3 => 3 | 5 => 5 | 46 => 115 | 146 => 134 | 51 => 130 | n => n, fun | 1 => 0 | n => n⟩
theorem Tryd.laysM220 : Go.Proofs.LaysM.n220 Tryd.prog Tryd.laysM220_ren := {
  mixed := by kernel_rfl
  f217 := Tryd.func101.trans (congrArg some (by kernel_rfl))
  f219 := Tryd.func89.trans (congrArg some (by kernel_rfl))
  f220 := Tryd.func93.trans (congrArg some (by kernel_rfl))
  f224 := Tryd.func103.trans (congrArg some (by kernel_rfl))
  f225 := Tryd.func102.trans (congrArg some (by kernel_rfl))
  f266 := Tryd.func113.trans (congrArg some (by kernel_rfl))
  f267 := Tryd.func104.trans (congrArg some (by kernel_rfl))
  f314 := Tryd.func114.trans (congrArg some (by kernel_rfl))
  t3 := Tryd.underlying3
  a3 := Tryd.isAgg3
  z3 := Tryd.sizeOf3
  v3 := Tryd.zeroValue3
  t4 := Tryd.underlying4
  a4 := Tryd.isAgg4
  z4 := Tryd.sizeOf4
  v4 := Tryd.zeroValue4
  t5 := Tryd.underlying5
  a5 := Tryd.isAgg5
  z5 := Tryd.sizeOf5
  v5 := Tryd.zeroValue5
  t9 := Tryd.underlying9
  a9 := Tryd.isAgg9
  z9 := Tryd.sizeOf9
  v9 := Tryd.zeroValue9
  t46 := Tryd.underlying115
  a46 := Tryd.isAgg115
  z46 := Tryd.sizeOf115
  v46 := Tryd.zeroValue115
  t51 := Tryd.underlying130
  a51 := Tryd.isAgg130
  z51 := Tryd.sizeOf130
  v51 := Tryd.zeroValue130
  t146 := Tryd.underlying134
  a146 := Tryd.isAgg134
  z146 := Tryd.sizeOf134
  v146 := Tryd.zeroValue134
  g1 := by kernel_rfl
  i3 := by kernel_rfl
  i4 := by kernel_rfl
  i5 := by kernel_rfl
  i9 := by kernel_rfl
  i46 := by kernel_rfl
  i51 := by kernel_rfl
  i146 := by kernel_rfl
  m1 := by kernel_rfl
  s1_3 := fun w h => Go.Proofs.cell_of_shapedOpen_int (zero := #[.int .i64 0]) (t := 3) h (of_decide_eq_true (by kernel_rfl)) (by kernel_rfl) rfl (by kernel_rfl) (by kernel_rfl) Tryd.underlying3 }
open Go.RowKit Go.Lib in
theorem Tryd.stringslite_Cut_shaped (s sep : ByteArray) (w : World) (h : w.ShapedOpen Tryd.prog) (hs : s.size < 4294967281) :
    Calls Tryd.prog 93 #[.string s, .string sep] w fun e w' => e = .returned (.tuple #[.string ⟨(Lib.cut s.data.toList sep.data.toList).1.toArray⟩, .string ⟨(Lib.cut s.data.toList sep.data.toList).2.1.toArray⟩, .bool (Lib.cut s.data.toList sep.data.toList).2.2]) ∧ ∃ n, w' = w.drewN n := Any.stringslite_Cut_shaped Tryd.laysM220 s sep w h hs
def Tryd.laysM145_ren : Go.Shelf.Ren := ⟨fun | 145 => 74 | 220 => 93 | 219 => 89 | 217 => 101 | 225 => 102 | 224 => 103 | 267 => 104 | 266 => 113 | 314 => 114 | n => n, fun | 9 => 9 | 4 => 4 | 59 => 97 | 3 => 3 | 5 => 5 | 46 => 115 | 146 => 134 | 51 => 130 | n => n, fun | 1 => 0 | n => n⟩
theorem Tryd.laysM145 : Go.Proofs.LaysM.n145 Tryd.prog Tryd.laysM145_ren := {
  mixed := by kernel_rfl
  f145 := Tryd.func74.trans (congrArg some (by kernel_rfl))
  f217 := Tryd.func101.trans (congrArg some (by kernel_rfl))
  f219 := Tryd.func89.trans (congrArg some (by kernel_rfl))
  f220 := Tryd.func93.trans (congrArg some (by kernel_rfl))
  f224 := Tryd.func103.trans (congrArg some (by kernel_rfl))
  f225 := Tryd.func102.trans (congrArg some (by kernel_rfl))
  f266 := Tryd.func113.trans (congrArg some (by kernel_rfl))
  f267 := Tryd.func104.trans (congrArg some (by kernel_rfl))
  f314 := Tryd.func114.trans (congrArg some (by kernel_rfl))
  t3 := Tryd.underlying3
  a3 := Tryd.isAgg3
  z3 := Tryd.sizeOf3
  v3 := Tryd.zeroValue3
  t4 := Tryd.underlying4
  a4 := Tryd.isAgg4
  z4 := Tryd.sizeOf4
  v4 := Tryd.zeroValue4
  t5 := Tryd.underlying5
  a5 := Tryd.isAgg5
  z5 := Tryd.sizeOf5
  v5 := Tryd.zeroValue5
  t9 := Tryd.underlying9
  a9 := Tryd.isAgg9
  z9 := Tryd.sizeOf9
  v9 := Tryd.zeroValue9
  t46 := Tryd.underlying115
  a46 := Tryd.isAgg115
  z46 := Tryd.sizeOf115
  v46 := Tryd.zeroValue115
  t51 := Tryd.underlying130
  a51 := Tryd.isAgg130
  z51 := Tryd.sizeOf130
  v51 := Tryd.zeroValue130
  t59 := Tryd.underlying97
  a59 := Tryd.isAgg97
  z59 := Tryd.sizeOf97
  v59 := Tryd.zeroValue97
  t146 := Tryd.underlying134
  a146 := Tryd.isAgg134
  z146 := Tryd.sizeOf134
  v146 := Tryd.zeroValue134
  g1 := by kernel_rfl
  i3 := by kernel_rfl
  i4 := by kernel_rfl
  i5 := by kernel_rfl
  i9 := by kernel_rfl
  i46 := by kernel_rfl
  i51 := by kernel_rfl
  i59 := by kernel_rfl
  i146 := by kernel_rfl
  m1 := by kernel_rfl
  s1_3 := fun w h => Go.Proofs.cell_of_shapedOpen_int (zero := #[.int .i64 0]) (t := 3) h (of_decide_eq_true (by kernel_rfl)) (by kernel_rfl) rfl (by kernel_rfl) (by kernel_rfl) Tryd.underlying3 }
open Go.RowKit Go.Lib in
theorem Tryd.strings_Cut_shaped (s sep : ByteArray) (w : World) (h : w.ShapedOpen Tryd.prog) (hs : s.size < 4294967281) :
    Calls Tryd.prog 74 #[.string s, .string sep] w fun e w' => e = .returned (.tuple #[.string ⟨(Lib.cut s.data.toList sep.data.toList).1.toArray⟩, .string ⟨(Lib.cut s.data.toList sep.data.toList).2.1.toArray⟩, .bool (Lib.cut s.data.toList sep.data.toList).2.2]) ∧ ∃ n, w' = w.drewN n := Any.strings_Cut_shaped Tryd.laysM145 s sep w h hs
def Tryd.laysM138_ren : Go.Shelf.Ren := ⟨fun | 138 => 68 | 195 => 87 | 218 => 88 | 143 => 69 | 219 => 89 | 217 => 101 | 225 => 102 | 224 => 103 | 267 => 104 | 266 => 113 | 314 => 114 | n => n, fun | 9 => 9 | 3 => 3 | 4 => 4 | 5 => 5 | 0 => 0 | 46 => 115 | 146 => 134 | 51 => 130 | n => n, fun | 1 => 0 | n => n⟩
theorem Tryd.laysM138 : Go.Proofs.LaysM.n138 Tryd.prog Tryd.laysM138_ren := {
  mixed := by kernel_rfl
  f138 := Tryd.func68.trans (congrArg some (by kernel_rfl))
  f143 := Tryd.func69.trans (congrArg some (by kernel_rfl))
  f195 := Tryd.func87.trans (congrArg some (by kernel_rfl))
  f217 := Tryd.func101.trans (congrArg some (by kernel_rfl))
  f218 := Tryd.func88.trans (congrArg some (by kernel_rfl))
  f219 := Tryd.func89.trans (congrArg some (by kernel_rfl))
  f224 := Tryd.func103.trans (congrArg some (by kernel_rfl))
  f225 := Tryd.func102.trans (congrArg some (by kernel_rfl))
  f266 := Tryd.func113.trans (congrArg some (by kernel_rfl))
  f267 := Tryd.func104.trans (congrArg some (by kernel_rfl))
  f314 := Tryd.func114.trans (congrArg some (by kernel_rfl))
  t0 := Tryd.underlying0
  a0 := Tryd.isAgg0
  z0 := Tryd.sizeOf0
  v0 := Tryd.zeroValue0
  t3 := Tryd.underlying3
  a3 := Tryd.isAgg3
  z3 := Tryd.sizeOf3
  v3 := Tryd.zeroValue3
  t4 := Tryd.underlying4
  a4 := Tryd.isAgg4
  z4 := Tryd.sizeOf4
  v4 := Tryd.zeroValue4
  t5 := Tryd.underlying5
  a5 := Tryd.isAgg5
  z5 := Tryd.sizeOf5
  v5 := Tryd.zeroValue5
  t9 := Tryd.underlying9
  a9 := Tryd.isAgg9
  z9 := Tryd.sizeOf9
  v9 := Tryd.zeroValue9
  t46 := Tryd.underlying115
  a46 := Tryd.isAgg115
  z46 := Tryd.sizeOf115
  v46 := Tryd.zeroValue115
  t51 := Tryd.underlying130
  a51 := Tryd.isAgg130
  z51 := Tryd.sizeOf130
  v51 := Tryd.zeroValue130
  t146 := Tryd.underlying134
  a146 := Tryd.isAgg134
  z146 := Tryd.sizeOf134
  v146 := Tryd.zeroValue134
  g1 := by kernel_rfl
  i0 := by kernel_rfl
  i3 := by kernel_rfl
  i4 := by kernel_rfl
  i5 := by kernel_rfl
  i9 := by kernel_rfl
  i46 := by kernel_rfl
  i51 := by kernel_rfl
  i146 := by kernel_rfl
  m1 := by kernel_rfl
  s1_3 := fun w h => Go.Proofs.cell_of_shapedOpen_int (zero := #[.int .i64 0]) (t := 3) h (of_decide_eq_true (by kernel_rfl)) (by kernel_rfl) rfl (by kernel_rfl) (by kernel_rfl) Tryd.underlying3 }
open Go.RowKit Go.Lib in
theorem Tryd.strings_Count_shaped (s sub : ByteArray) (w : World) (h : w.ShapedOpen Tryd.prog) (hs : s.size < 4294967281) (h2 : 2 ≤ sub.size) :
    Calls Tryd.prog 68 #[.string s, .string sub] w fun e w' => e = .returned (.int .i64 (Lib.countB s sub)) ∧ w' = w := Any.strings_Count_shaped Tryd.laysM138 s sub w h hs h2
open Go.RowKit Go.Lib in
/-- strings.Count at whatever sep that is not empty: the two roads under one statement. (LAID: no walk: one application.) -/
theorem Tryd.strings_Count_any (s sep : ByteArray) (m : Int) (w : World) (hs : s.size < 4294967281) (hm : w.cell? ⟨0, 0, none⟩ = some (.int .i64 m)) (h1 : 1 ≤ sep.size) :
    Calls Tryd.prog 68 #[.string s, .string sep] w fun e w' => e = .returned (.int .i64 (Lib.countB s sep)) ∧ w' = w := Any.strings_Count_any Tryd.lays138 s sep m w hs hm h1
def Tryd.lays221_ren : Go.Shelf.Ren := ⟨fun | 221 => 43 | 268 => 67 | 138 => 68 | 143 => 69 | 195 => 87 | 197 => 71 | 218 => 88 | 219 => 89 | 260 => 90 | 217 => 101 | 225 => 102 | 224 => 103 | 267 => 104 | 266 => 113 | 314 => 114 | n => n, fun | 9 => 9 | 3 => 3 | 31 => 35 | 4 => 4 | 0 => 0 | 105 => 94 | 21 => 21 | 5 => 5 | 46 => 115 | 119 => 124 | 139 => 127 | 138 => 126 | 146 => 134 | 51 => 130 | n => n, fun | 1 => 0 | 3 => 1 | 4 => 2 | n => n⟩
theorem Tryd.lays221 : Go.Proofs.Lays.n221 Tryd.prog Tryd.lays221_ren := {
  mixed := by kernel_rfl
  f138 := Tryd.func68.trans (congrArg some (by kernel_rfl))
  f143 := Tryd.func69.trans (congrArg some (by kernel_rfl))
  f195 := Tryd.func87.trans (congrArg some (by kernel_rfl))
  f197 := Tryd.func71.trans (congrArg some (by kernel_rfl))
  f217 := Tryd.func101.trans (congrArg some (by kernel_rfl))
  f218 := Tryd.func88.trans (congrArg some (by kernel_rfl))
  f219 := Tryd.func89.trans (congrArg some (by kernel_rfl))
  f221 := Tryd.func43.trans (congrArg some (by kernel_rfl))
  f224 := Tryd.func103.trans (congrArg some (by kernel_rfl))
  f225 := Tryd.func102.trans (congrArg some (by kernel_rfl))
  f260 := Tryd.func90.trans (congrArg some (by kernel_rfl))
  f266 := Tryd.func113.trans (congrArg some (by kernel_rfl))
  f267 := Tryd.func104.trans (congrArg some (by kernel_rfl))
  f268 := Tryd.func67.trans (congrArg some (by kernel_rfl))
  f314 := Tryd.func114.trans (congrArg some (by kernel_rfl))
  t0 := Tryd.underlying0
  a0 := Tryd.isAgg0
  z0 := Tryd.sizeOf0
  v0 := Tryd.zeroValue0
  t3 := Tryd.underlying3
  a3 := Tryd.isAgg3
  z3 := Tryd.sizeOf3
  v3 := Tryd.zeroValue3
  t4 := Tryd.underlying4
  a4 := Tryd.isAgg4
  z4 := Tryd.sizeOf4
  v4 := Tryd.zeroValue4
  t5 := Tryd.underlying5
  a5 := Tryd.isAgg5
  z5 := Tryd.sizeOf5
  v5 := Tryd.zeroValue5
  t9 := Tryd.underlying9
  a9 := Tryd.isAgg9
  z9 := Tryd.sizeOf9
  v9 := Tryd.zeroValue9
  t21 := Tryd.underlying21
  a21 := Tryd.isAgg21
  z21 := Tryd.sizeOf21
  v21 := Tryd.zeroValue21
  t31 := Tryd.underlying35
  a31 := Tryd.isAgg35
  z31 := Tryd.sizeOf35
  v31 := Tryd.zeroValue35
  t46 := Tryd.underlying115
  a46 := Tryd.isAgg115
  z46 := Tryd.sizeOf115
  v46 := Tryd.zeroValue115
  t51 := Tryd.underlying130
  a51 := Tryd.isAgg130
  z51 := Tryd.sizeOf130
  v51 := Tryd.zeroValue130
  t105 := Tryd.underlying94
  a105 := Tryd.isAgg94
  z105 := Tryd.sizeOf94
  v105 := Tryd.zeroValue94
  t119 := Tryd.underlying124
  a119 := Tryd.isAgg124
  z119 := Tryd.sizeOf124
  t138 := Tryd.underlying126
  a138 := Tryd.isAgg126
  z138 := Tryd.sizeOf126
  v138 := Tryd.zeroValue126
  t139 := Tryd.underlying127
  a139 := Tryd.isAgg127
  z139 := Tryd.sizeOf127
  v139 := Tryd.zeroValue127
  t146 := Tryd.underlying134
  a146 := Tryd.isAgg134
  z146 := Tryd.sizeOf134
  v146 := Tryd.zeroValue134
  g1 := by kernel_rfl
  g3 := by kernel_rfl
  g4 := by kernel_rfl }
open Go.RowKit Go.Lib in
theorem Tryd.strings_genSplit (s sep : ByteArray) (sv : Nat) (n : Int) (N : Nat) (m : Int) (w : World) (hs : s.size < 4294967281) (hm : w.cell? ⟨0, 0, none⟩ = some (.int .i64 m)) (h1 : 1 ≤ sep.size) (hsv : sv ≤ sep.size) (hn0 : n ≠ 0) (hn63 : n ≤ 9223372036854775807) (hN : (N : Int) = min (if n < 0 then (Lib.countB s sep : Int) + 1 else n) ((s.size : Int) + 1)) :
    Calls Tryd.prog 43 #[.string s, .string sep, .int .i64 sv, .int .i64 n] w fun e w' =>
      e = .returned (.slice (some ⟨w.heap.size, 0, none⟩) (Lib.splitB sep sv (N - 1) s).length N) ∧ w' = w.alloc (.cells (Lib.cellsOf (Lib.splitB sep sv (N - 1) s) N) 9) := Any.strings_genSplit Tryd.lays221 (by kernel_rfl) s sep sv n N m w hs hm h1 hsv hn0 hn63 hN
def Tryd.lays146_ren : Go.Shelf.Ren := ⟨fun | 146 => 23 | 221 => 43 | 268 => 67 | 138 => 68 | 143 => 69 | 195 => 87 | 197 => 71 | 218 => 88 | 219 => 89 | 260 => 90 | 217 => 101 | 225 => 102 | 224 => 103 | 267 => 104 | 266 => 113 | 314 => 114 | n => n, fun | 9 => 9 | 31 => 35 | 3 => 3 | 4 => 4 | 0 => 0 | 105 => 94 | 21 => 21 | 5 => 5 | 46 => 115 | 119 => 124 | 139 => 127 | 138 => 126 | 146 => 134 | 51 => 130 | n => n, fun | 1 => 0 | 3 => 1 | 4 => 2 | n => n⟩
theorem Tryd.lays146 : Go.Proofs.Lays.n146 Tryd.prog Tryd.lays146_ren := {
  mixed := by kernel_rfl
  f138 := Tryd.func68.trans (congrArg some (by kernel_rfl))
  f143 := Tryd.func69.trans (congrArg some (by kernel_rfl))
  f146 := Tryd.func23.trans (congrArg some (by kernel_rfl))
  f195 := Tryd.func87.trans (congrArg some (by kernel_rfl))
  f197 := Tryd.func71.trans (congrArg some (by kernel_rfl))
  f217 := Tryd.func101.trans (congrArg some (by kernel_rfl))
  f218 := Tryd.func88.trans (congrArg some (by kernel_rfl))
  f219 := Tryd.func89.trans (congrArg some (by kernel_rfl))
  f221 := Tryd.func43.trans (congrArg some (by kernel_rfl))
  f224 := Tryd.func103.trans (congrArg some (by kernel_rfl))
  f225 := Tryd.func102.trans (congrArg some (by kernel_rfl))
  f260 := Tryd.func90.trans (congrArg some (by kernel_rfl))
  f266 := Tryd.func113.trans (congrArg some (by kernel_rfl))
  f267 := Tryd.func104.trans (congrArg some (by kernel_rfl))
  f268 := Tryd.func67.trans (congrArg some (by kernel_rfl))
  f314 := Tryd.func114.trans (congrArg some (by kernel_rfl))
  t0 := Tryd.underlying0
  a0 := Tryd.isAgg0
  z0 := Tryd.sizeOf0
  v0 := Tryd.zeroValue0
  t3 := Tryd.underlying3
  a3 := Tryd.isAgg3
  z3 := Tryd.sizeOf3
  v3 := Tryd.zeroValue3
  t4 := Tryd.underlying4
  a4 := Tryd.isAgg4
  z4 := Tryd.sizeOf4
  v4 := Tryd.zeroValue4
  t5 := Tryd.underlying5
  a5 := Tryd.isAgg5
  z5 := Tryd.sizeOf5
  v5 := Tryd.zeroValue5
  t9 := Tryd.underlying9
  a9 := Tryd.isAgg9
  z9 := Tryd.sizeOf9
  v9 := Tryd.zeroValue9
  t21 := Tryd.underlying21
  a21 := Tryd.isAgg21
  z21 := Tryd.sizeOf21
  v21 := Tryd.zeroValue21
  t31 := Tryd.underlying35
  a31 := Tryd.isAgg35
  z31 := Tryd.sizeOf35
  v31 := Tryd.zeroValue35
  t46 := Tryd.underlying115
  a46 := Tryd.isAgg115
  z46 := Tryd.sizeOf115
  v46 := Tryd.zeroValue115
  t51 := Tryd.underlying130
  a51 := Tryd.isAgg130
  z51 := Tryd.sizeOf130
  v51 := Tryd.zeroValue130
  t105 := Tryd.underlying94
  a105 := Tryd.isAgg94
  z105 := Tryd.sizeOf94
  v105 := Tryd.zeroValue94
  t119 := Tryd.underlying124
  a119 := Tryd.isAgg124
  z119 := Tryd.sizeOf124
  t138 := Tryd.underlying126
  a138 := Tryd.isAgg126
  z138 := Tryd.sizeOf126
  v138 := Tryd.zeroValue126
  t139 := Tryd.underlying127
  a139 := Tryd.isAgg127
  z139 := Tryd.sizeOf127
  v139 := Tryd.zeroValue127
  t146 := Tryd.underlying134
  a146 := Tryd.isAgg134
  z146 := Tryd.sizeOf134
  v146 := Tryd.zeroValue134
  g1 := by kernel_rfl
  g3 := by kernel_rfl
  g4 := by kernel_rfl }
open Go.RowKit Go.Lib in
/-- strings.Split. (LAID: no walk: one application.) -/
theorem Tryd.strings_Split (s sep : ByteArray) (m : Int) (w : World) (hs : s.size < 4294967281) (hm : w.cell? ⟨0, 0, none⟩ = some (.int .i64 m)) (h1 : 1 ≤ sep.size) :
    Calls Tryd.prog 23 #[.string s, .string sep] w fun e w' =>
      e = .returned (.slice (some ⟨w.heap.size, 0, none⟩) (Lib.countB s sep + 1) (Lib.countB s sep + 1)) ∧ w' = w.alloc (.cells ((Lib.splitB sep 0 (Lib.countB s sep) s).map Value.string).toArray 9) := Any.strings_Split Tryd.lays146 (by kernel_rfl) s sep m w hs hm h1
def Tryd.laysM146_ren : Go.Shelf.Ren := ⟨fun | 146 => 23 | 221 => 43 | 268 => 67 | 138 => 68 | 143 => 69 | 195 => 87 | 197 => 71 | 218 => 88 | 219 => 89 | 260 => 90 | 217 => 101 | 225 => 102 | 224 => 103 | 267 => 104 | 266 => 113 | 314 => 114 | n => n, fun | 9 => 9 | 31 => 35 | 3 => 3 | 4 => 4 | 0 => 0 | 105 => 94 | 21 => 21 | 5 => 5 | 46 => 115 | 119 => 124 | 139 => 127 | 138 => 126 | 146 => 134 | 51 => 130 | n => n, fun | 1 => 0 | 3 => 1 | 4 => 2 | n => n⟩
theorem Tryd.laysM146 : Go.Proofs.LaysM.n146 Tryd.prog Tryd.laysM146_ren := {
  mixed := by kernel_rfl
  f138 := Tryd.func68.trans (congrArg some (by kernel_rfl))
  f143 := Tryd.func69.trans (congrArg some (by kernel_rfl))
  f146 := Tryd.func23.trans (congrArg some (by kernel_rfl))
  f195 := Tryd.func87.trans (congrArg some (by kernel_rfl))
  f197 := Tryd.func71.trans (congrArg some (by kernel_rfl))
  f217 := Tryd.func101.trans (congrArg some (by kernel_rfl))
  f218 := Tryd.func88.trans (congrArg some (by kernel_rfl))
  f219 := Tryd.func89.trans (congrArg some (by kernel_rfl))
  f221 := Tryd.func43.trans (congrArg some (by kernel_rfl))
  f224 := Tryd.func103.trans (congrArg some (by kernel_rfl))
  f225 := Tryd.func102.trans (congrArg some (by kernel_rfl))
  f260 := Tryd.func90.trans (congrArg some (by kernel_rfl))
  f266 := Tryd.func113.trans (congrArg some (by kernel_rfl))
  f267 := Tryd.func104.trans (congrArg some (by kernel_rfl))
  f268 := Tryd.func67.trans (congrArg some (by kernel_rfl))
  f314 := Tryd.func114.trans (congrArg some (by kernel_rfl))
  t0 := Tryd.underlying0
  a0 := Tryd.isAgg0
  z0 := Tryd.sizeOf0
  v0 := Tryd.zeroValue0
  t3 := Tryd.underlying3
  a3 := Tryd.isAgg3
  z3 := Tryd.sizeOf3
  v3 := Tryd.zeroValue3
  t4 := Tryd.underlying4
  a4 := Tryd.isAgg4
  z4 := Tryd.sizeOf4
  v4 := Tryd.zeroValue4
  t5 := Tryd.underlying5
  a5 := Tryd.isAgg5
  z5 := Tryd.sizeOf5
  v5 := Tryd.zeroValue5
  t9 := Tryd.underlying9
  a9 := Tryd.isAgg9
  z9 := Tryd.sizeOf9
  v9 := Tryd.zeroValue9
  t21 := Tryd.underlying21
  a21 := Tryd.isAgg21
  z21 := Tryd.sizeOf21
  v21 := Tryd.zeroValue21
  t31 := Tryd.underlying35
  a31 := Tryd.isAgg35
  z31 := Tryd.sizeOf35
  v31 := Tryd.zeroValue35
  t46 := Tryd.underlying115
  a46 := Tryd.isAgg115
  z46 := Tryd.sizeOf115
  v46 := Tryd.zeroValue115
  t51 := Tryd.underlying130
  a51 := Tryd.isAgg130
  z51 := Tryd.sizeOf130
  v51 := Tryd.zeroValue130
  t105 := Tryd.underlying94
  a105 := Tryd.isAgg94
  z105 := Tryd.sizeOf94
  v105 := Tryd.zeroValue94
  t119 := Tryd.underlying124
  a119 := Tryd.isAgg124
  z119 := Tryd.sizeOf124
  t138 := Tryd.underlying126
  a138 := Tryd.isAgg126
  z138 := Tryd.sizeOf126
  v138 := Tryd.zeroValue126
  t139 := Tryd.underlying127
  a139 := Tryd.isAgg127
  z139 := Tryd.sizeOf127
  v139 := Tryd.zeroValue127
  t146 := Tryd.underlying134
  a146 := Tryd.isAgg134
  z146 := Tryd.sizeOf134
  v146 := Tryd.zeroValue134
  g1 := by kernel_rfl
  g3 := by kernel_rfl
  g4 := by kernel_rfl
  i0 := by kernel_rfl
  i3 := by kernel_rfl
  i4 := by kernel_rfl
  i5 := by kernel_rfl
  i9 := by kernel_rfl
  i21 := by kernel_rfl
  i31 := by kernel_rfl
  i46 := by kernel_rfl
  i51 := by kernel_rfl
  i105 := by kernel_rfl
  i138 := by kernel_rfl
  i139 := by kernel_rfl
  i146 := by kernel_rfl
  m1 := by kernel_rfl
  s1_3 := fun w h => Go.Proofs.cell_of_shapedOpen_int (zero := #[.int .i64 0]) (t := 3) h (of_decide_eq_true (by kernel_rfl)) (by kernel_rfl) rfl (by kernel_rfl) (by kernel_rfl) Tryd.underlying3
  m3 := by kernel_rfl
  m4 := by kernel_rfl }
open Go.RowKit Go.Lib in
/-- strings.Split, sep not empty. (LAID: no walk: one application.) -/
theorem Tryd.strings_Split_shaped (s sep : ByteArray) (w : World) (h : w.ShapedOpen Tryd.prog) (hs : s.size < 4294967281) (h1 : 1 ≤ sep.size) :
    Calls Tryd.prog 23 #[.string s, .string sep] w fun e w' =>
      e = .returned (.slice (some ⟨w.heap.size, 0, none⟩) (Lib.countB s sep + 1) (Lib.countB s sep + 1)) ∧ w' = w.alloc (.cells ((Lib.splitB sep 0 (Lib.countB s sep) s).map Value.string).toArray 9) := Any.strings_Split_shaped Tryd.laysM146 s sep w h hs h1
def Tryd.lays197_ren : Go.Shelf.Ren := ⟨fun | 197 => 71 | 260 => 90 | n => n, fun | 9 => 9 | 21 => 21 | 3 => 3 | 4 => 4 | 5 => 5 | 105 => 94 | 119 => 124 | 0 => 0 | 46 => 115 | 139 => 127 | 138 => 126 | n => n, fun | 3 => 1 | 4 => 2 | n => n⟩
theorem Tryd.lays197 : Go.Proofs.Lays.n197 Tryd.prog Tryd.lays197_ren := {
  mixed := by kernel_rfl
  f197 := Tryd.func71.trans (congrArg some (by kernel_rfl))
  f260 := Tryd.func90.trans (congrArg some (by kernel_rfl))
  t0 := Tryd.underlying0
  a0 := Tryd.isAgg0
  z0 := Tryd.sizeOf0
  v0 := Tryd.zeroValue0
  t3 := Tryd.underlying3
  a3 := Tryd.isAgg3
  z3 := Tryd.sizeOf3
  v3 := Tryd.zeroValue3
  t4 := Tryd.underlying4
  a4 := Tryd.isAgg4
  z4 := Tryd.sizeOf4
  v4 := Tryd.zeroValue4
  t5 := Tryd.underlying5
  a5 := Tryd.isAgg5
  z5 := Tryd.sizeOf5
  v5 := Tryd.zeroValue5
  t9 := Tryd.underlying9
  a9 := Tryd.isAgg9
  z9 := Tryd.sizeOf9
  v9 := Tryd.zeroValue9
  t21 := Tryd.underlying21
  a21 := Tryd.isAgg21
  z21 := Tryd.sizeOf21
  v21 := Tryd.zeroValue21
  t46 := Tryd.underlying115
  a46 := Tryd.isAgg115
  z46 := Tryd.sizeOf115
  v46 := Tryd.zeroValue115
  t105 := Tryd.underlying94
  a105 := Tryd.isAgg94
  z105 := Tryd.sizeOf94
  v105 := Tryd.zeroValue94
  t119 := Tryd.underlying124
  a119 := Tryd.isAgg124
  z119 := Tryd.sizeOf124
  t138 := Tryd.underlying126
  a138 := Tryd.isAgg126
  z138 := Tryd.sizeOf126
  v138 := Tryd.zeroValue126
  t139 := Tryd.underlying127
  a139 := Tryd.isAgg127
  z139 := Tryd.sizeOf127
  v139 := Tryd.zeroValue127
  g3 := by kernel_rfl
  g4 := by kernel_rfl }
open Go.RowKit Go.Lib in
/-- unicode/utf8.DecodeRuneInString: "DecodeRuneInString is like DecodeRune but its input is a string.": ("DecodeRune unpacks the first UTF-8 encoding in p and returns the rune and its width in bytes."): WHERE s BEGINS WITH AN ASCII BYTE x: (x, 1). (LAID: no walk: one application.) -/
theorem Tryd.utf8_DecodeRuneInString_ascii (s : ByteArray) (x : UInt8) (w : World) (h0 : s.data.toList[0]? = some x) (hx : x.toNat < 128) :
    Calls Tryd.prog 71 #[.string s] w fun e w' => e = .returned (.tuple #[.int .i32 x.toNat, .int .i64 1]) ∧ w' = w := Any.utf8_DecodeRuneInString_ascii Tryd.lays197 s x w h0 hx
def Tryd.lays152_ren : Go.Shelf.Ren := ⟨fun | 152 => 91 | 137 => 105 | 119 => 106 | 224 => 103 | 225 => 102 | 217 => 101 | 266 => 113 | n => n, fun | 9 => 9 | 21 => 21 | 3 => 3 | 4 => 4 | 5 => 5 | 0 => 0 | 46 => 115 | n => n, fun | n => n⟩
theorem Tryd.lays152 : Go.Proofs.Lays.n152 Tryd.prog Tryd.lays152_ren := {
  mixed := by kernel_rfl
  f119 := Tryd.func106.trans (congrArg some (by kernel_rfl))
  f137 := Tryd.func105.trans (congrArg some (by kernel_rfl))
  f152 := Tryd.func91.trans (congrArg some (by kernel_rfl))
  f217 := Tryd.func101.trans (congrArg some (by kernel_rfl))
  f224 := Tryd.func103.trans (congrArg some (by kernel_rfl))
  f225 := Tryd.func102.trans (congrArg some (by kernel_rfl))
  f266 := Tryd.func113.trans (congrArg some (by kernel_rfl))
  t0 := Tryd.underlying0
  a0 := Tryd.isAgg0
  z0 := Tryd.sizeOf0
  v0 := Tryd.zeroValue0
  t3 := Tryd.underlying3
  a3 := Tryd.isAgg3
  z3 := Tryd.sizeOf3
  v3 := Tryd.zeroValue3
  t4 := Tryd.underlying4
  a4 := Tryd.isAgg4
  z4 := Tryd.sizeOf4
  v4 := Tryd.zeroValue4
  t5 := Tryd.underlying5
  a5 := Tryd.isAgg5
  z5 := Tryd.sizeOf5
  v5 := Tryd.zeroValue5
  t9 := Tryd.underlying9
  a9 := Tryd.isAgg9
  z9 := Tryd.sizeOf9
  v9 := Tryd.zeroValue9
  t21 := Tryd.underlying21
  a21 := Tryd.isAgg21
  z21 := Tryd.sizeOf21
  v21 := Tryd.zeroValue21
  t46 := Tryd.underlying115
  a46 := Tryd.isAgg115
  z46 := Tryd.sizeOf115
  v46 := Tryd.zeroValue115 }
open Go.RowKit Go.Lib in
theorem Tryd.strings_IndexRune_ascii (s : ByteArray) (r : Int) (w : World) (h0 : 0 ≤ r) (h1 : r < 128) :
    Calls Tryd.prog 91 #[.string s, .int .i32 r] w fun e w' => e = .returned (.int .i64 (Lib.indexByte s.data.toList r.toNat.toUInt8)) ∧ w' = w := Any.strings_IndexRune_ascii Tryd.lays152 s r w h0 h1
def Tryd.lays151_ren : Go.Shelf.Ren := ⟨fun | 151 => 72 | 152 => 91 | 137 => 105 | 119 => 106 | 224 => 103 | 225 => 102 | 217 => 101 | 266 => 113 | n => n, fun | 9 => 9 | 21 => 21 | 4 => 4 | 3 => 3 | 5 => 5 | 0 => 0 | 46 => 115 | n => n, fun | n => n⟩
theorem Tryd.lays151 : Go.Proofs.Lays.n151 Tryd.prog Tryd.lays151_ren := {
  mixed := by kernel_rfl
  f119 := Tryd.func106.trans (congrArg some (by kernel_rfl))
  f137 := Tryd.func105.trans (congrArg some (by kernel_rfl))
  f151 := Tryd.func72.trans (congrArg some (by kernel_rfl))
  f152 := Tryd.func91.trans (congrArg some (by kernel_rfl))
  f217 := Tryd.func101.trans (congrArg some (by kernel_rfl))
  f224 := Tryd.func103.trans (congrArg some (by kernel_rfl))
  f225 := Tryd.func102.trans (congrArg some (by kernel_rfl))
  f266 := Tryd.func113.trans (congrArg some (by kernel_rfl))
  t0 := Tryd.underlying0
  a0 := Tryd.isAgg0
  z0 := Tryd.sizeOf0
  v0 := Tryd.zeroValue0
  t3 := Tryd.underlying3
  a3 := Tryd.isAgg3
  z3 := Tryd.sizeOf3
  v3 := Tryd.zeroValue3
  t4 := Tryd.underlying4
  a4 := Tryd.isAgg4
  z4 := Tryd.sizeOf4
  v4 := Tryd.zeroValue4
  t5 := Tryd.underlying5
  a5 := Tryd.isAgg5
  z5 := Tryd.sizeOf5
  v5 := Tryd.zeroValue5
  t9 := Tryd.underlying9
  a9 := Tryd.isAgg9
  z9 := Tryd.sizeOf9
  v9 := Tryd.zeroValue9
  t21 := Tryd.underlying21
  a21 := Tryd.isAgg21
  z21 := Tryd.sizeOf21
  v21 := Tryd.zeroValue21
  t46 := Tryd.underlying115
  a46 := Tryd.isAgg115
  z46 := Tryd.sizeOf115
  v46 := Tryd.zeroValue115 }
open Go.RowKit Go.Lib in
theorem Tryd.strings_ContainsRune_ascii (s : ByteArray) (r : Int) (w : World) (h0 : 0 ≤ r) (h1 : r < 128) :
    Calls Tryd.prog 72 #[.string s, .int .i32 r] w fun e w' => e = .returned (.bool (decide (0 ≤ Lib.indexByte s.data.toList r.toNat.toUInt8))) ∧ w' = w := Any.strings_ContainsRune_ascii Tryd.lays151 s r w h0 h1
open Go.RowKit Go.Lib in
theorem Tryd.utf8_RuneCountInString_ascii (s : ByteArray) (w : World) (hs : s.size < 4294967281) (hascii : ∀ (j : Nat) b, s.data.toList[j]? = some b → b.toNat < 128) :
    Calls Tryd.prog 87 #[.string s] w fun e w' => e = .returned (.int .i64 s.size) ∧ w' = w.iter s s.size := Any.utf8_RuneCountInString_ascii Tryd.lays195 s w hs hascii
def Tryd.lays227_ren : Go.Shelf.Ren := ⟨fun | 227 => 46 | n => n, fun | 9 => 9 | 116 => 78 | 4 => 4 | 0 => 0 | 3 => 3 | 5 => 5 | n => n, fun | n => n⟩
theorem Tryd.lays227 : Go.Proofs.Lays.n227 Tryd.prog Tryd.lays227_ren := {
  mixed := by kernel_rfl
  f227 := Tryd.func46.trans (congrArg some (by kernel_rfl))
  t0 := Tryd.underlying0
  a0 := Tryd.isAgg0
  z0 := Tryd.sizeOf0
  v0 := Tryd.zeroValue0
  t3 := Tryd.underlying3
  a3 := Tryd.isAgg3
  z3 := Tryd.sizeOf3
  v3 := Tryd.zeroValue3
  t4 := Tryd.underlying4
  a4 := Tryd.isAgg4
  z4 := Tryd.sizeOf4
  v4 := Tryd.zeroValue4
  t5 := Tryd.underlying5
  a5 := Tryd.isAgg5
  z5 := Tryd.sizeOf5
  v5 := Tryd.zeroValue5
  t9 := Tryd.underlying9
  a9 := Tryd.isAgg9
  z9 := Tryd.sizeOf9
  v9 := Tryd.zeroValue9
  t116 := Tryd.underlying78
  a116 := Tryd.isAgg78
  z116 := Tryd.sizeOf78 }
open Go.RowKit Go.Lib in
theorem Tryd.strings_makeASCIISet (hv116 : ∀ w, (zeroValue 78).run Tryd.prog w = .ok (.agg (Array.replicate 256 (.bool false))) w) (chars : ByteArray) (w : World) (hs : chars.size < 4294967281) (hascii : ∀ (j : Nat) b, chars.data.toList[j]? = some b → b.toNat < 128) :
    Calls Tryd.prog 46 #[.string chars] w fun e w' => e = .returned (.tuple #[.agg (Lib.setCells chars.data.toList), .bool true]) ∧ w' = w.alloc (.cells (Lib.setCells chars.data.toList) 78) := Any.strings_makeASCIISet Tryd.lays227 hv116 (by kernel_rfl) chars w hs hascii
def Tryd.lays228_ren : Go.Shelf.Ren := ⟨fun | 228 => 70 | n => n, fun | 124 => 82 | 5 => 5 | 4 => 4 | 0 => 0 | 116 => 78 | n => n, fun | n => n⟩
theorem Tryd.lays228 : Go.Proofs.Lays.n228 Tryd.prog Tryd.lays228_ren := {
  mixed := by kernel_rfl
  f228 := Tryd.func70.trans (congrArg some (by kernel_rfl))
  t0 := Tryd.underlying0
  a0 := Tryd.isAgg0
  z0 := Tryd.sizeOf0
  v0 := Tryd.zeroValue0
  t4 := Tryd.underlying4
  a4 := Tryd.isAgg4
  z4 := Tryd.sizeOf4
  v4 := Tryd.zeroValue4
  t5 := Tryd.underlying5
  a5 := Tryd.isAgg5
  z5 := Tryd.sizeOf5
  v5 := Tryd.zeroValue5
  t116 := Tryd.underlying78
  a116 := Tryd.isAgg78
  z116 := Tryd.sizeOf78
  t124 := Tryd.underlying82
  a124 := Tryd.isAgg82
  z124 := Tryd.sizeOf82
  v124 := Tryd.zeroValue82 }
open Go.RowKit Go.Lib in
/-- '(as *asciiSet) contains(c)': 'as[c]': the set lies at block b, whole. (LAID: no walk: one application.) -/
theorem Tryd.asciiSet_contains (b : Nat) (x : UInt8) (v : Bool) (w : World) (hc : w.cell? ⟨b, x.toNat, none⟩ = some (.bool v)) :
    Calls Tryd.prog 70 #[.pointer (some ⟨b, 0, none⟩), .int .u8 x.toNat] w fun e w' => e = .returned (.bool v) ∧ w' = w := Any.asciiSet_contains Tryd.lays228 b x v w hc
def Tryd.lays268_ren : Go.Shelf.Ren := ⟨fun | 268 => 67 | 195 => 87 | 197 => 71 | 260 => 90 | n => n, fun | 9 => 9 | 3 => 3 | 31 => 35 | 4 => 4 | 105 => 94 | 21 => 21 | 0 => 0 | 5 => 5 | 119 => 124 | 46 => 115 | 139 => 127 | 138 => 126 | n => n, fun | 3 => 1 | 4 => 2 | n => n⟩
theorem Tryd.lays268 : Go.Proofs.Lays.n268 Tryd.prog Tryd.lays268_ren := {
  mixed := by kernel_rfl
  f195 := Tryd.func87.trans (congrArg some (by kernel_rfl))
  f197 := Tryd.func71.trans (congrArg some (by kernel_rfl))
  f260 := Tryd.func90.trans (congrArg some (by kernel_rfl))
  f268 := Tryd.func67.trans (congrArg some (by kernel_rfl))
  t0 := Tryd.underlying0
  a0 := Tryd.isAgg0
  z0 := Tryd.sizeOf0
  v0 := Tryd.zeroValue0
  t3 := Tryd.underlying3
  a3 := Tryd.isAgg3
  z3 := Tryd.sizeOf3
  v3 := Tryd.zeroValue3
  t4 := Tryd.underlying4
  a4 := Tryd.isAgg4
  z4 := Tryd.sizeOf4
  v4 := Tryd.zeroValue4
  t5 := Tryd.underlying5
  a5 := Tryd.isAgg5
  z5 := Tryd.sizeOf5
  v5 := Tryd.zeroValue5
  t9 := Tryd.underlying9
  a9 := Tryd.isAgg9
  z9 := Tryd.sizeOf9
  v9 := Tryd.zeroValue9
  t21 := Tryd.underlying21
  a21 := Tryd.isAgg21
  z21 := Tryd.sizeOf21
  v21 := Tryd.zeroValue21
  t31 := Tryd.underlying35
  a31 := Tryd.isAgg35
  z31 := Tryd.sizeOf35
  v31 := Tryd.zeroValue35
  t46 := Tryd.underlying115
  a46 := Tryd.isAgg115
  z46 := Tryd.sizeOf115
  v46 := Tryd.zeroValue115
  t105 := Tryd.underlying94
  a105 := Tryd.isAgg94
  z105 := Tryd.sizeOf94
  v105 := Tryd.zeroValue94
  t119 := Tryd.underlying124
  a119 := Tryd.isAgg124
  z119 := Tryd.sizeOf124
  t138 := Tryd.underlying126
  a138 := Tryd.isAgg126
  z138 := Tryd.sizeOf126
  v138 := Tryd.zeroValue126
  t139 := Tryd.underlying127
  a139 := Tryd.isAgg127
  z139 := Tryd.sizeOf127
  v139 := Tryd.zeroValue127
  g3 := by kernel_rfl
  g4 := by kernel_rfl }
open Go.RowKit Go.Lib in
theorem Tryd.strings_explode_all (s : ByteArray) (n : Int) (w : World) (hn : n < 0) (hs : s.size < 4294967281) (hascii : ∀ (j : Nat) b, s.data.toList[j]? = some b → b.toNat < 128) :
    Calls Tryd.prog 67 #[.string s, .int .i64 n] w fun e w' =>
      e = .returned (.slice (some ⟨(w.iter s s.size).heap.size, 0, none⟩) s.size s.size) ∧ w' = (w.iter s s.size).alloc (.cells ((Lib.charsB s).map Value.string).toArray 9) := Any.strings_explode_all Tryd.lays268 (by kernel_rfl) s n w hn hs hascii
open Go.RowKit Go.Lib in
/-- strings.genSplit at sep == "", n < 0: 'return explode(s, n)'. (LAID: no walk: one application.) -/
theorem Tryd.strings_genSplit_chars (s sep : ByteArray) (sv n : Int) (w : World) (h0 : sep.size = 0) (hn : n < 0) (hs : s.size < 4294967281) (hascii : ∀ (j : Nat) b, s.data.toList[j]? = some b → b.toNat < 128) :
    Calls Tryd.prog 43 #[.string s, .string sep, .int .i64 sv, .int .i64 n] w fun e w' =>
      e = .returned (.slice (some ⟨(w.iter s s.size).heap.size, 0, none⟩) s.size s.size) ∧ w' = (w.iter s s.size).alloc (.cells ((Lib.charsB s).map Value.string).toArray 9) := Any.strings_genSplit_chars Tryd.lays221 (by kernel_rfl) s sep sv n w h0 hn hs hascii
open Go.RowKit Go.Lib in
/-- strings.Split(s, ""), s ASCII: a piece a byte. (LAID: no walk: one application.) -/
theorem Tryd.strings_Split_chars (s sep : ByteArray) (w : World) (h0 : sep.size = 0) (hs : s.size < 4294967281) (hascii : ∀ (j : Nat) b, s.data.toList[j]? = some b → b.toNat < 128) :
    Calls Tryd.prog 23 #[.string s, .string sep] w fun e w' =>
      e = .returned (.slice (some ⟨(w.iter s s.size).heap.size, 0, none⟩) s.size s.size) ∧ w' = (w.iter s s.size).alloc (.cells ((Lib.charsB s).map Value.string).toArray 9) := Any.strings_Split_chars Tryd.lays146 (by kernel_rfl) s sep w h0 hs hascii
def Tryd.lays260_ren : Go.Shelf.Ren := ⟨fun | 260 => 90 | n => n, fun | 9 => 9 | 21 => 21 | 3 => 3 | 4 => 4 | 5 => 5 | 119 => 124 | 0 => 0 | 46 => 115 | 139 => 127 | 138 => 126 | n => n, fun | 3 => 1 | 4 => 2 | n => n⟩
theorem Tryd.lays260 : Go.Proofs.Lays.n260 Tryd.prog Tryd.lays260_ren := {
  mixed := by kernel_rfl
  f260 := Tryd.func90.trans (congrArg some (by kernel_rfl))
  t0 := Tryd.underlying0
  a0 := Tryd.isAgg0
  z0 := Tryd.sizeOf0
  v0 := Tryd.zeroValue0
  t3 := Tryd.underlying3
  a3 := Tryd.isAgg3
  z3 := Tryd.sizeOf3
  v3 := Tryd.zeroValue3
  t4 := Tryd.underlying4
  a4 := Tryd.isAgg4
  z4 := Tryd.sizeOf4
  v4 := Tryd.zeroValue4
  t5 := Tryd.underlying5
  a5 := Tryd.isAgg5
  z5 := Tryd.sizeOf5
  v5 := Tryd.zeroValue5
  t9 := Tryd.underlying9
  a9 := Tryd.isAgg9
  z9 := Tryd.sizeOf9
  v9 := Tryd.zeroValue9
  t21 := Tryd.underlying21
  a21 := Tryd.isAgg21
  z21 := Tryd.sizeOf21
  v21 := Tryd.zeroValue21
  t46 := Tryd.underlying115
  a46 := Tryd.isAgg115
  z46 := Tryd.sizeOf115
  v46 := Tryd.zeroValue115
  t119 := Tryd.underlying124
  a119 := Tryd.isAgg124
  z119 := Tryd.sizeOf124
  t138 := Tryd.underlying126
  a138 := Tryd.isAgg126
  z138 := Tryd.sizeOf126
  v138 := Tryd.zeroValue126
  t139 := Tryd.underlying127
  a139 := Tryd.isAgg127
  z139 := Tryd.sizeOf127
  v139 := Tryd.zeroValue127
  g3 := by kernel_rfl
  g4 := by kernel_rfl }
open Go.RowKit Go.Lib in
theorem Tryd.utf8_decodeRuneInStringSlow (s : ByteArray) (w : World) (hT : Lib.Utf8Tabs 1 2 w) :
    Calls Tryd.prog 90 #[.string s] w fun e w' => e = .returned (.tuple #[.int .i32 (Lib.decodeGo s).1, .int .i64 (Lib.decodeGo s).2]) ∧ Below w.heap.size w w' := Any.utf8_decodeRuneInStringSlow Tryd.lays260 s w hT
open Go.RowKit Go.Lib in
/-- **unicode/utf8.DecodeRuneInString AT EVERY STRING.** (LAID: no walk: one application.) -/
theorem Tryd.utf8_DecodeRuneInString (s : ByteArray) (w : World) (hT : Lib.Utf8Tabs 1 2 w) :
    Calls Tryd.prog 71 #[.string s] w fun e w' => e = .returned (.tuple #[.int .i32 (Lib.decodeGo s).1, .int .i64 (Lib.decodeGo s).2]) ∧ Below w.heap.size w w' := Any.utf8_DecodeRuneInString Tryd.lays197 s w hT
def Tryd.lays271_ren : Go.Shelf.Ren := ⟨fun | 271 => 73 | 120 => 92 | 197 => 71 | 260 => 90 | n => n, fun | 9 => 9 | 21 => 21 | 3 => 3 | 4 => 4 | 5 => 5 | 105 => 94 | 119 => 124 | 0 => 0 | 46 => 115 | 139 => 127 | 138 => 126 | n => n, fun | 3 => 1 | 4 => 2 | n => n⟩
theorem Tryd.lays271 : Go.Proofs.Lays.n271 Tryd.prog Tryd.lays271_ren := {
  mixed := by kernel_rfl
  f120 := Tryd.func92.trans (congrArg some (by kernel_rfl))
  f197 := Tryd.func71.trans (congrArg some (by kernel_rfl))
  f260 := Tryd.func90.trans (congrArg some (by kernel_rfl))
  f271 := Tryd.func73.trans (congrArg some (by kernel_rfl))
  t0 := Tryd.underlying0
  a0 := Tryd.isAgg0
  z0 := Tryd.sizeOf0
  v0 := Tryd.zeroValue0
  t3 := Tryd.underlying3
  a3 := Tryd.isAgg3
  z3 := Tryd.sizeOf3
  v3 := Tryd.zeroValue3
  t4 := Tryd.underlying4
  a4 := Tryd.isAgg4
  z4 := Tryd.sizeOf4
  v4 := Tryd.zeroValue4
  t5 := Tryd.underlying5
  a5 := Tryd.isAgg5
  z5 := Tryd.sizeOf5
  v5 := Tryd.zeroValue5
  t9 := Tryd.underlying9
  a9 := Tryd.isAgg9
  z9 := Tryd.sizeOf9
  v9 := Tryd.zeroValue9
  t21 := Tryd.underlying21
  a21 := Tryd.isAgg21
  z21 := Tryd.sizeOf21
  v21 := Tryd.zeroValue21
  t46 := Tryd.underlying115
  a46 := Tryd.isAgg115
  z46 := Tryd.sizeOf115
  v46 := Tryd.zeroValue115
  t105 := Tryd.underlying94
  a105 := Tryd.isAgg94
  z105 := Tryd.sizeOf94
  v105 := Tryd.zeroValue94
  t119 := Tryd.underlying124
  a119 := Tryd.isAgg124
  z119 := Tryd.sizeOf124
  t138 := Tryd.underlying126
  a138 := Tryd.isAgg126
  z138 := Tryd.sizeOf126
  v138 := Tryd.zeroValue126
  t139 := Tryd.underlying127
  a139 := Tryd.isAgg127
  z139 := Tryd.sizeOf127
  v139 := Tryd.zeroValue127
  g3 := by kernel_rfl
  g4 := by kernel_rfl }
open Go.RowKit Go.Lib in
/-- **unicode/utf8.DecodeLastRuneInString AT EVERY STRING.** (LAID: no walk: one application.) -/
theorem Tryd.utf8_DecodeLastRuneInString (s : ByteArray) (w : World) (hs : s.size ≤ 9223372036854775807) (hT : Lib.Utf8Tabs 1 2 w) :
    Calls Tryd.prog 73 #[.string s] w fun e w' => e = .returned (.tuple #[.int .i32 (Lib.decodeLastL s.data.toList).1, .int .i64 (Lib.decodeLastL s.data.toList).2]) ∧ Below w.heap.size w w' := Any.utf8_DecodeLastRuneInString Tryd.lays271 s w hs hT
def Tryd.lays229_ren : Go.Shelf.Ren := ⟨fun | 229 => 75 | n => n, fun | 9 => 9 | 40 => 100 | 31 => 35 | 152 => 111 | 3 => 3 | 0 => 0 | 4 => 4 | 21 => 21 | 154 => 113 | n => n, fun | n => n⟩
theorem Tryd.lays229 : Go.Proofs.Lays.n229 Tryd.prog Tryd.lays229_ren := {
  mixed := by kernel_rfl
  f229 := Tryd.func75.trans (congrArg some (by kernel_rfl))
  t0 := Tryd.underlying0
  a0 := Tryd.isAgg0
  z0 := Tryd.sizeOf0
  v0 := Tryd.zeroValue0
  t3 := Tryd.underlying3
  a3 := Tryd.isAgg3
  z3 := Tryd.sizeOf3
  v3 := Tryd.zeroValue3
  t4 := Tryd.underlying4
  a4 := Tryd.isAgg4
  z4 := Tryd.sizeOf4
  v4 := Tryd.zeroValue4
  t9 := Tryd.underlying9
  a9 := Tryd.isAgg9
  z9 := Tryd.sizeOf9
  v9 := Tryd.zeroValue9
  t21 := Tryd.underlying21
  a21 := Tryd.isAgg21
  z21 := Tryd.sizeOf21
  v21 := Tryd.zeroValue21
  t31 := Tryd.underlying35
  a31 := Tryd.isAgg35
  z31 := Tryd.sizeOf35
  v31 := Tryd.zeroValue35
  t40 := Tryd.underlying100
  a40 := Tryd.isAgg100
  z40 := Tryd.sizeOf100
  v40 := Tryd.zeroValue100
  t152 := Tryd.underlying111
  a152 := Tryd.isAgg111
  z152 := Tryd.sizeOf111
  v152 := Tryd.zeroValue111
  t154 := Tryd.underlying113
  a154 := Tryd.isAgg113
  z154 := Tryd.sizeOf113
  v154 := Tryd.zeroValue113 }
open Go.RowKit Go.Lib in
theorem Tryd.strings_FieldsFunc_runes (g : Nat) (lb : Array Value) (eg : ∀ args w, (callFunc g args).run Tryd.prog w = .ok (.enter g args) w) (p : Nat → Bool) (s : ByteArray) (w : World) (hs : s.size ≤ 4294967296) (hp : PredAtRunes Tryd.prog g lb p w) :
    Calls Tryd.prog 75 #[.string s, .func (.func g) #[] lb] w fun e w' => ∃ A, e = .returned (.slice (some ⟨A, 0, none⟩) (Lib.goFieldsP p s).length (Lib.goFieldsP p s).length) ∧ w.heap.size ≤ A ∧
      w'.ownsRow w.heap.size 9 1 (.slice (some ⟨A, 0, none⟩) (Lib.goFieldsP p s).length (Lib.goFieldsP p s).length) (Lib.goFieldsP p s).length ((Lib.goFieldsP p s).map Value.string) ∧ Below w.heap.size w w' := Any.strings_FieldsFunc_runes Tryd.lays229 g lb eg p s w hs hp (by kernel_rfl) (by kernel_rfl)
open Go.RowKit Go.Lib in
/-- .. over a hand of the authors' house's premise as it stands. (LAID: no walk: one application.) -/
theorem Tryd.strings_FieldsFunc (g : Nat) (lb : Array Value) (eg : ∀ args w, (callFunc g args).run Tryd.prog w = .ok (.enter g args) w) (p : Nat → Bool) (s : ByteArray) (w : World) (hs : s.size ≤ 4294967296) (hp : PredAt Tryd.prog g lb encR p w) :
    Calls Tryd.prog 75 #[.string s, .func (.func g) #[] lb] w fun e w' => ∃ A, e = .returned (.slice (some ⟨A, 0, none⟩) (Lib.goFieldsP p s).length (Lib.goFieldsP p s).length) ∧ w.heap.size ≤ A ∧
      w'.ownsRow w.heap.size 9 1 (.slice (some ⟨A, 0, none⟩) (Lib.goFieldsP p s).length (Lib.goFieldsP p s).length) (Lib.goFieldsP p s).length ((Lib.goFieldsP p s).map Value.string) ∧ Below w.heap.size w w' := Any.strings_FieldsFunc Tryd.lays229 g lb eg p s w hs hp (by kernel_rfl) (by kernel_rfl)
def Tryd.lays109_ren : Go.Shelf.Ren := ⟨fun | 109 => 94 | n => n, fun | 31 => 35 | 9 => 9 | 3 => 3 | 0 => 0 | 4 => 4 | n => n, fun | n => n⟩
theorem Tryd.lays109 : Go.Proofs.Lays.n109 Tryd.prog Tryd.lays109_ren := {
  mixed := by kernel_rfl
  f109 := Tryd.func94.trans (congrArg some (by kernel_rfl))
  t0 := Tryd.underlying0
  a0 := Tryd.isAgg0
  z0 := Tryd.sizeOf0
  v0 := Tryd.zeroValue0
  t3 := Tryd.underlying3
  a3 := Tryd.isAgg3
  z3 := Tryd.sizeOf3
  v3 := Tryd.zeroValue3
  t4 := Tryd.underlying4
  a4 := Tryd.isAgg4
  z4 := Tryd.sizeOf4
  v4 := Tryd.zeroValue4
  t9 := Tryd.underlying9
  a9 := Tryd.isAgg9
  z9 := Tryd.sizeOf9
  v9 := Tryd.zeroValue9
  t31 := Tryd.underlying35
  a31 := Tryd.isAgg35
  z31 := Tryd.sizeOf35
  v31 := Tryd.zeroValue35 }
open Go.Lib in
/-- slices.Index at []string: "Index returns the index of the first occurrence of v in s, or -1 if not present.": IT RETURNS 'Lib.idxOfS (the elements) v'; the world is as it was. 'zs': what the cells behind the slice's address hold (its spare capacity too, if you have it); 'zs.take n': its elements. (LAID: no walk: one application.) -/
theorem Tryd.slices_Index_string (b off n c : Nat) (zs : List ByteArray) (x : ByteArray) (w : World) (hz : n ≤ zs.length) (hbig : n ≤ 9223372036854775807) (hc : ∀ j, j < zs.length → w.cell? ⟨b, off + j, none⟩ = some (.string (zs.getD j ByteArray.empty))) :
    Calls Tryd.prog 94 #[.slice (some ⟨b, off, none⟩) n c, .string x] w fun e w' => e = .returned (.int .i64 (Lib.idxOfS (zs.take n) x)) ∧ w' = w := Any.slices_Index_string Tryd.lays109 b off n c zs x w hz hbig hc
open Go.Lib in
/-- The same at a slice of length 0, a nil one too: no cell is known, none is asked for. (LAID: no walk: one application.) -/
theorem Tryd.slices_Index_string_empty (a : Option Addr) (c : Nat) (x : ByteArray) (w : World) :
    Calls Tryd.prog 94 #[.slice a 0 c, .string x] w fun e w' => e = .returned (.int .i64 (Lib.idxOfS [] x)) ∧ w' = w := Any.slices_Index_string_empty Tryd.lays109 a c x w
def Tryd.lays110_ren : Go.Shelf.Ren := ⟨fun | 110 => 77 | 109 => 94 | n => n, fun | 31 => 35 | 9 => 9 | 4 => 4 | 3 => 3 | 0 => 0 | n => n, fun | n => n⟩
theorem Tryd.lays110 : Go.Proofs.Lays.n110 Tryd.prog Tryd.lays110_ren := {
  mixed := by kernel_rfl
  f109 := Tryd.func94.trans (congrArg some (by kernel_rfl))
  f110 := Tryd.func77.trans (congrArg some (by kernel_rfl))
  t0 := Tryd.underlying0
  a0 := Tryd.isAgg0
  z0 := Tryd.sizeOf0
  v0 := Tryd.zeroValue0
  t3 := Tryd.underlying3
  a3 := Tryd.isAgg3
  z3 := Tryd.sizeOf3
  v3 := Tryd.zeroValue3
  t4 := Tryd.underlying4
  a4 := Tryd.isAgg4
  z4 := Tryd.sizeOf4
  v4 := Tryd.zeroValue4
  t9 := Tryd.underlying9
  a9 := Tryd.isAgg9
  z9 := Tryd.sizeOf9
  v9 := Tryd.zeroValue9
  t31 := Tryd.underlying35
  a31 := Tryd.isAgg35
  z31 := Tryd.sizeOf35
  v31 := Tryd.zeroValue35 }
open Go.Lib in
/-- slices.Contains at []string: "Contains reports whether v is present in s.": IT RETURNS 'Lib.containsS (the elements) v', which is true just where v is among them ('Lib.containsS_iff'); the world is as it was. ITS CALLEE slices.Index IS MET BY ITS OWN CONTRACT OFF THE SHELF (lay that first): no loop is walked here. (LAID: no walk: one application.) -/
theorem Tryd.slices_Contains_string (b off n c : Nat) (zs : List ByteArray) (x : ByteArray) (w : World) (hz : n ≤ zs.length) (hbig : n ≤ 9223372036854775807) (hc : ∀ j, j < zs.length → w.cell? ⟨b, off + j, none⟩ = some (.string (zs.getD j ByteArray.empty))) :
    Calls Tryd.prog 77 #[.slice (some ⟨b, off, none⟩) n c, .string x] w fun e w' => e = .returned (.bool (Lib.containsS (zs.take n) x)) ∧ w' = w := Any.slices_Contains_string Tryd.lays110 b off n c zs x w hz hbig hc
open Go.Lib in
/-- The same at a slice of length 0, a nil one too. (LAID: no walk: one application.) -/
theorem Tryd.slices_Contains_string_empty (a : Option Addr) (c : Nat) (x : ByteArray) (w : World) :
    Calls Tryd.prog 77 #[.slice a 0 c, .string x] w fun e w' => e = .returned (.bool false) ∧ w' = w := Any.slices_Contains_string_empty Tryd.lays110 a c x w
def Tryd.laysNm216_ren : Go.Shelf.Ren := ⟨fun | 16 => 29 | n => n, fun | 24 => 35 | 9 => 9 | 4 => 4 | n => n, fun | n => n⟩
theorem Tryd.laysNm216 : Go.Proofs.Lays2.n16 Tryd.prog Tryd.laysNm216_ren := {
  mixed := by kernel_rfl
  f16 := Tryd.func29.trans (congrArg some (by kernel_rfl))
  t4 := Tryd.underlying4
  a4 := Tryd.isAgg4
  z4 := Tryd.sizeOf4
  v4 := Tryd.zeroValue4
  t9 := Tryd.underlying9
  a9 := Tryd.isAgg9
  z9 := Tryd.sizeOf9
  v9 := Tryd.zeroValue9
  t24 := Tryd.underlying35
  a24 := Tryd.isAgg35
  z24 := Tryd.sizeOf35
  v24 := Tryd.zeroValue35
  i9 := by kernel_rfl }
open Go.RowKit Go.Lib in
/-- slices.Clone at []string: "Clone returns a copy of the slice. The elements are copied using assignment, so this is a shallow clone. The result may have additional unused capacity. The result preserves the nilness of s.": OF A SLICE THAT IS NOT nil IT RETURNS A SLICE THAT IS NOT nil, OF THE SAME ELEMENTS, IN MEMORY OF THE CALL's OWN: in the how-to's words (6f): 'w'.ownsRow B e 1 v' n cells': v' begins at the head of a row among the blocks from B on (B: the heap's size at the call), not frozen, whose first cells are the elements · 'Below B w w'': below B all is as it was. The capacity is whatever the run-time gives. 'zs': what the cells behind the slice's address hold; 'zs.take n': its elements. (LAID: no walk: one application.) -/
theorem Tryd.slices_Clone_string (b off n c : Nat) (zs : List ByteArray) (w : World) (hz : n ≤ zs.length) (hbig : n * 16 ≤ 140737488355328) (hc : ∀ j, j < zs.length → w.cell? ⟨b, off + j, none⟩ = some (.string (zs.getD j ByteArray.empty))) :
    Calls Tryd.prog 29 #[.slice (some ⟨b, off, none⟩) n c] w fun e w' => ∃ v', e = .returned v' ∧ w'.ownsRow w.heap.size 9 1 v' n ((zs.take n).map (Value.string)) ∧ v' ≠ .slice none 0 0 ∧ Below w.heap.size w w' := Any.slices_Clone_string Tryd.laysNm216 b off n c zs w hz hbig hc
open Go.RowKit Go.Lib in
/-- The same at nil: nil comes back; the world is as it was. (LAID: no walk: one application.) -/
theorem Tryd.slices_Clone_string_nil (n c : Nat) (w : World) :
    Calls Tryd.prog 29 #[.slice none n c] w fun e w' => e = .returned (.slice none 0 0) ∧ w' = w := Any.slices_Clone_string_nil Tryd.laysNm216 n c w
open Go.RowKit Go.Lib in
/-- The same at a slice of length 0 that is not nil, WHATEVER ITS ADDRESS (no cell is asked for): a slice that is not nil and owns nothing comes back. (LAID: no walk: one application.) -/
theorem Tryd.slices_Clone_string_zero (a : Addr) (c : Nat) (w : World) :
    Calls Tryd.prog 29 #[.slice (some a) 0 c] w fun e w' => ∃ v', e = .returned v' ∧ w'.ownsRow w.heap.size 9 1 v' 0 [] ∧ v' ≠ .slice none 0 0 ∧ Below w.heap.size w w' := Any.slices_Clone_string_zero Tryd.laysNm216 a c w
def Tryd.laysSlE041_f29_ren : Go.Shelf.Ren := ⟨fun | 41 => 29 | n => n, fun | 22 => 35 | 23 => 9 | 4 => 4 | n => n, fun | n => n⟩
theorem Tryd.laysSlE041_f29 : Go.Proofs.SlLaysE0.n41 Tryd.prog Tryd.laysSlE041_f29_ren := {
  mixed := by kernel_rfl
  f41 := ⟨Tryd.f29.name, by decide, Tryd.func29.trans (congrArg some (by kernel_rfl))⟩
  t4 := Tryd.underlying4
  a4 := Tryd.isAgg4
  z4 := Tryd.sizeOf4
  v4 := Tryd.zeroValue4
  t22 := Tryd.underlying35
  a22 := Tryd.isAgg35
  z22 := Tryd.sizeOf35
  v22 := Tryd.zeroValue35 }
open Go.RowKit Go.Lib in
/-- slices.Clone: "Clone returns a copy of the slice. The elements are copied using assignment, so this is a shallow clone. The result may have additional unused capacity. The result preserves the nilness of s.": OF A SLICE THAT IS NOT nil IT RETURNS A SLICE THAT IS NOT nil, OF THE SAME CELLS, IN MEMORY OF THE CALL's OWN ('ownsRow': the how-to's 6f); below the heap's size at the call all is as it was. (LAID AT THE INSTANCE 'slices.Clone[[]string,string]': no walk: one application.) -/
theorem Tryd.slices_Clone (i0 : TypeInfo) (z : Value) (size bytes : Nat) (hi : Tryd.prog.info? 9 = some i0) (hz0 : i0.zero = some z) (hz1 : i0.size = size) (hz2 : i0.bytes = bytes) (hzs : z.cells.size = size) (hsz : 0 < size) (z23 : ∀ w, (Go.sizeOf 9).run Tryd.prog w = .ok size w) (b off n c : Nat) (news : List Value) (w : World) (hl : news.length = n * size) (hn : n ≤ maxLen) (hbig : n * bytes ≤ 140737488355328) (hc : ∀ j u, news[j]? = some u → w.cell? ⟨b, off + j, none⟩ = some u) (h1 : ∀ u ∈ news, u.oneCell' = true) :
    Calls Tryd.prog 29 #[.slice (some ⟨b, off, none⟩) n c] w fun e w' => ∃ v', e = .returned v' ∧ w'.ownsRow w.heap.size 9 size v' n news ∧ v' ≠ .slice none 0 0 ∧ Below w.heap.size w w' := AnyE.slices_Clone Tryd.laysSlE041_f29 i0 z size bytes hi hz0 hz1 hz2 hzs hsz z23 b off n c news w hl hn hbig hc h1
open Go.RowKit Go.Lib in
/-- The same at nil: nil comes back; the world is as it was; nothing is asked of the element's type. (LAID AT THE INSTANCE 'slices.Clone[[]string,string]': no walk: one application.) -/
theorem Tryd.slices_Clone_nil (n c : Nat) (w : World) :
    Calls Tryd.prog 29 #[.slice none n c] w fun e w' => e = .returned (.slice none 0 0) ∧ w' = w := AnyE.slices_Clone_nil Tryd.laysSlE041_f29 n c w
end Go.Proofs
/- Contracts of strings.Split, Cut, Trim, FieldsFunc, Clone, slices.Clone, of planfile.lower and the document's Lower, as models. -/
namespace Go.Proofs.YtljekaadbabhkaaDoor.Am
open Go.RowKit

/-- strings.Split by a separator that is not empty -/
def M_strings_Split (s sep : ByteArray) : Option (List ByteArray) := grd (s.size < 4294967281) (grd (1 ≤ sep.size) (some (Lib.splitB sep 0 (Lib.countB s sep) s)))
theorem splitB_all (sep : ByteArray) (h1 : 1 ≤ sep.size) : ∀ (n : Nat) (s : ByteArray), s.size ≤ n → (Lib.splitB sep 0 (Lib.countB s sep) s).length = Lib.countB s sep + 1
  | 0, s, hn => by
    rcases Lib.indexB_cases s sep with hix | ⟨i, _, hroom⟩
    · rw [Lib.countB_miss s sep hix]; rfl
    · omega
  | n + 1, s, hn => by
    rcases Lib.indexB_cases s sep with hix | ⟨i, hi, hroom⟩
    · rw [Lib.countB_miss s sep hix]; rfl
    · rw [Lib.countB_hit s sep i h1 hi, Nat.add_comm 1, Lib.splitB_hit _ _ _ _ _ hi]
      have hsz : (s.extract (i + sep.size) s.size).size ≤ n := by rw [ByteArray.size_extract]; omega
      simp [splitB_all sep h1 n _ hsz]
theorem A_strings_Split (s sep : ByteArray) {r : List ByteArray} (h : M_strings_Split s sep = some r) : ACall cx 23 [.c (.string s), .c (.string sep)] (.sl 1 (r.map cS)) := by
  obtain ⟨h1, h⟩ := grd_ok h
  obtain ⟨h2, h⟩ := grd_ok h
  obtain rfl := Option.some.inj h
  refine acall_gl Tryd.func23 rfl (by decide) (fun w O cargs ht hO hs hr => ?_)
  obtain ⟨a, b, rfl⟩ := args2 hs
  obtain rfl := rv_c (hr 0 _ a rfl rfl)
  obtain rfl := rv_c (hr 1 _ b rfl rfl)
  obtain ⟨m, hm⟩ := ht.2
  refine (Tryd.strings_Split s sep m w h1 hm h2).mono ?_
  rintro e w' ⟨rfl, rfl⟩
  obtain ⟨l, hl⟩ : ∃ l, Lib.splitB sep 0 (Lib.countB s sep) s = l := ⟨_, rfl⟩
  have hlen : l.length = Lib.countB s sep + 1 := by rw [← hl]; exact splitB_all sep h2 s.size s (Nat.le_refl _)
  have hcs : Lib.countB s sep + 1 ≤ 140737488355328 := by have := Lib.countB_le sep h2 s.size s (Nat.le_refl _); omega
  rw [hl]
  refine ⟨_, rfl, ?_, (Below.refl _ _).trans ⟨rfl, rfl, rfl, by show w.heap.size ≤ (w.heap.push _).size; simp, fun b hb => ?_⟩⟩
  · have := RV.sl (w := w.alloc (.cells (l.map Value.string).toArray 9)) (vs := nov) (m := mO O) (sz := 1) (l := l.map cS) (A := some ⟨w.heap.size, 0, none⟩) (cap := Lib.countB s sep + 1) (b := w.heap.size) (off := 0) (f := fun k _ => .string (l.getD k ⟨#[]⟩))
      (fun _ => ⟨rfl, fun ho => by have := hO _ (owned_nov.1 ho); omega, by show w.heap.size < (w.heap.push _).size; simp⟩) (by simp [hlen]) (by simp [hlen]; omega)
      (fun k e he => by obtain ⟨x, _, rfl⟩ := get_map he; rfl)
      (fun k j e x he hx => by
        obtain ⟨y, hy, rfl⟩ := get_map he
        cases j with
        | zero =>
          have hb := heap_alloc_new w (.cells (l.map Value.string).toArray 9)
          refine ⟨?_, rfl⟩
          simp only [World.cell?, hb]
          simp [hy, List.getD_eq_getElem?_getD]
        | succ j => simp [cS] at hx)
      (fun k j e x he hx => by
        obtain ⟨y, hy, rfl⟩ := get_map he
        cases j with
        | zero =>
          simp [cS] at hx
          subst hx
          simp only [List.getD_eq_getElem?_getD, hy, Option.getD_some]
          exact .c _
        | succ j => simp [cS] at hx) (frl_cS l)
    simp only [List.length_map, hlen] at this
    exact this
  · show (w.heap.push _)[b]? = w.heap[b]?
    rw [Array.getElem?_push, if_neg (by omega)]
def cutB (s sep : ByteArray) : ByteArray × ByteArray × Bool := (⟨(Lib.cut s.data.toList sep.data.toList).1.toArray⟩, ⟨(Lib.cut s.data.toList sep.data.toList).2.1.toArray⟩, (Lib.cut s.data.toList sep.data.toList).2.2)
def M_strings_Cut (s sep : ByteArray) : Option (ByteArray × ByteArray × Bool) := grd (s.size < 4294967281) (some (cutB s sep))
theorem A_strings_Cut (s sep : ByteArray) {r1 r2 : ByteArray} {r3 : Bool} (h : M_strings_Cut s sep = some (r1, r2, r3)) : ACall cx 74 [.c (.string s), .c (.string sep)] (.tup [.c (.string r1), .c (.string r2), .c (.bool r3)]) := by
  obtain ⟨h1, h⟩ := grd_ok h
  obtain ⟨rfl, rfl, rfl⟩ := inj3 h
  refine acall_gl Tryd.func74 rfl (by decide) (fun w O cargs ht hO hs hr => ?_)
  obtain ⟨a, b, rfl⟩ := args2 hs
  obtain rfl := rv_c (hr 0 _ a rfl rfl)
  obtain rfl := rv_c (hr 1 _ b rfl rfl)
  obtain ⟨m, hm⟩ := ht.2
  refine (Tryd.strings_Cut s sep m w h1 hm).mono ?_
  rintro e w' ⟨rfl, n, rfl⟩
  refine ⟨_, rfl, .tup rfl (fun j x u hx hu => ?_), below_drewN (Below.refl _ _) n⟩
  match j, hx, hu with
  | 0, hx, hu => simp at hx hu; subst hx hu; exact .c _
  | 1, hx, hu => simp at hx hu; subst hx hu; exact .c _
  | 2, hx, hu => simp at hx hu; subst hx hu; exact .c _
  | j + 3, hx, hu => simp at hx
theorem cargs2 {α : Type} {c : Array α} (h : c.size = 2) : ∃ a b, c = #[a, b] := by
  obtain ⟨l⟩ := c
  match l, h with
  | [a, b], _ => exact ⟨a, b, rfl⟩
def asciiB (t : ByteArray) : Bool := t.data.toList.all (fun b => decide (b.toNat < 128))
/-- strings.Trim by bytes that are no part of greater signs -/
def M_strings_Trim (s t : ByteArray) : Option ByteArray := grd (s.size ≤ 9223372036854775807) (grd (t.size < 4294967281) (grd (asciiB t = true) (some ⟨(Lib.trimS s.data.toList t.data.toList).toArray⟩)))
theorem A_strings_Trim (s t : ByteArray) {r : ByteArray} (h : M_strings_Trim s t = some r) : ACall cx 24 [.c (.string s), .c (.string t)] (.c (.string r)) := by
  obtain ⟨h1, h⟩ := grd_ok h
  obtain ⟨h2, h⟩ := grd_ok h
  obtain ⟨h3, h⟩ := grd_ok h
  obtain rfl := Option.some.inj h
  refine acall_gl Tryd.func24 rfl (by decide) (fun w O cargs ht hO hs hr => ?_)
  obtain ⟨a, b, rfl⟩ := args2 hs
  obtain rfl := rv_c (hr 0 _ a rfl rfl)
  obtain rfl := rv_c (hr 1 _ b rfl rfl)
  refine (Any.strings_Trim_laid Tryd.lays160 (by kernel_rfl) s t w h1 h2 (ascii_of_all h3)).mono ?_
  rintro e w' ⟨rfl, hb⟩
  exact ⟨_, rfl, .c _, hb⟩
def M_stringslite_Clone (s : ByteArray) : Option ByteArray := grd (s.size ≤ 281474976710656) (some s)
theorem A_stringslite_Clone (s : ByteArray) {r : ByteArray} (h : M_stringslite_Clone s = some r) : ACall cx 79 [.c (.string s)] (.c (.string r)) := by
  obtain ⟨h1, h⟩ := grd_ok h
  obtain rfl := Option.some.inj h
  refine acall_gl Tryd.func79 rfl (by decide) (fun w O cargs ht hO hs hr => ?_)
  obtain ⟨a, rfl⟩ := args1 hs
  obtain rfl := rv_c (hr 0 _ a rfl rfl)
  refine (Tryd.stringslite_Clone s w h1).mono ?_
  rintro e w' ⟨rfl, hb⟩
  exact ⟨_, rfl, .c _, hb⟩
def M_lower (s : ByteArray) : Option ByteArray := grd (s.size ≤ 140737488355328) (some (lowS s))
theorem A_lower (s : ByteArray) {r : ByteArray} (h : M_lower s = some r) : ACall cx 53 [.c (.string s)] (.c (.string r)) := by
  obtain ⟨h1, h⟩ := grd_ok h
  obtain rfl := Option.some.inj h
  refine acall_gl Tryd.func53 rfl (by decide) (fun w O cargs ht hO hs hr => ?_)
  obtain ⟨a, rfl⟩ := args1 hs
  obtain rfl := rv_c (hr 0 _ a rfl rfl)
  refine (lower_calls s w h1).mono ?_
  rintro e w' ⟨rfl, hb⟩
  exact ⟨_, rfl, .c _, hb⟩
theorem A_Lower (s : ByteArray) {r : ByteArray} (h : M_lower s = some r) : ACall cx 59 [.c (.string s)] (.c (.string r)) := by
  obtain ⟨h1, h⟩ := grd_ok h
  obtain rfl := Option.some.inj h
  refine acall_gl Tryd.func59 rfl (by decide) (fun w O cargs ht hO hs hr => ?_)
  obtain ⟨a, rfl⟩ := args1 hs
  obtain rfl := rv_c (hr 0 _ a rfl rfl)
  refine (Lower_calls s w h1).mono ?_
  rintro e w' ⟨rfl, hb⟩
  exact ⟨_, rfl, .c _, hb⟩
/-- the bytes between words -/
def spaceR (x : Nat) : Bool := x == 32 || x == 9
theorem space_pays (w : World) : PredAtRunes Tryd.prog 76 #[] spaceR w := fun W x _ _ => by
  unfold FnGives
  by_cases h1 : x = 32
  · subst h1
    go_enter Tryd.func76, Tryd.ntmps76
    go_wp2
    go_ret
    exact ⟨rfl, 0, rfl⟩
  · by_cases h2 : x = 9
    · subst h2
      go_enter Tryd.func76, Tryd.ntmps76
      go_wp2
      go_ret
      exact ⟨rfl, 0, rfl⟩
    · have h3 : spaceR x = false := by simp [spaceR, h1, h2]
      rw [h3]
      go_enter Tryd.func76, Tryd.ntmps76
      go_wp2
      go_ret
      refine ⟨?_, 0, rfl⟩
      show Ending.returned (.bool ((x : Int) == 32 || (x : Int) == 9)) = _
      have q1 : ((x : Int) == 32) = false := by rw [beq_eq_false_iff_ne]; omega
      have q2 : ((x : Int) == 9) = false := by rw [beq_eq_false_iff_ne]; omega
      rw [q1, q2]
      rfl
theorem cells_str {w : World} {vs : Shp} {m : MM} {l : List ByteArray} (k : Nat) (e : List AV) (he : (l.map cS)[k]? = some e) : e.length = 1 ∧ ∀ (j : Nat) (y : AV), e[j]? = some y → Fr y ∧ ∃ u, (l.map Value.string)[k * 1 + j]? = some u ∧ u.oneCell' = true ∧ RV w vs m y u := by
  obtain ⟨x, hx, rfl⟩ := get_map he
  refine ⟨rfl, fun j y hy => ?_⟩
  match j, hy with
  | 0, hy => simp [cS] at hy; subst hy; exact ⟨.c _, _, by simp [hx], rfl, .c _⟩
  | j + 1, hy => simp [cS] at hy
def M_FieldsFunc (s : ByteArray) : Option (List ByteArray) := grd (s.size ≤ 4294967296) (some (Lib.goFieldsP spaceR s))
theorem A_FieldsFunc (s : ByteArray) {r : List ByteArray} (h : M_FieldsFunc s = some r) : ACallG cx 75 [.c (.string s), .clo (.func 76) [] []] [] [] (.own 0 0 0 r.length) [(0, ⟨9, 1, false, r.map cS⟩)] := by
  obtain ⟨h0, h⟩ := grd_ok h
  have h := Option.some.inj h
  subst h
  refine ⟨enter_g Tryd.func75 rfl (by decide), fun w m cargs hg hM hsz hargs => ?_⟩
  obtain ⟨v, f, rfl⟩ := cargs2 hsz
  obtain rfl := rv_c (hargs 0 _ v rfl rfl)
  obtain ⟨us, us', rfl, l1, _, l2, _⟩ := rv_clo (hargs 1 _ f rfl rfl)
  obtain rfl : us = #[] := Array.eq_empty_of_size_eq_zero l1.symm
  obtain rfl : us' = #[] := Array.eq_empty_of_size_eq_zero l2.symm
  refine (Tryd.strings_FieldsFunc_runes 76 #[] (enter_of Tryd.func76 rfl (by decide)) spaceR s w h0 (space_pays w)).mono ?_
  rintro e w' ⟨A, rfl, hA, ho, hb⟩
  obtain ⟨l, hl⟩ : ∃ l, Lib.goFieldsP spaceR s = l := ⟨_, rfl⟩
  rw [hl] at ho ⊢
  refine ⟨_, ⟨fun k => if k = 0 then Value.ownBlock (.slice (some ⟨A, 0, none⟩) l.length l.length) else none, m.O⟩, rfl, ?_⟩
  exact gr_row (i0 := 0) (v := .slice none 0 0) (row := none) hM hg (.inl rfl) (own_mono ho (Nat.zero_le _)) ⟨hb.os, hb.tape, hb.output, hb.size, fun b hb' _ => hb.block b hb'⟩ (.inl rfl) (.inr (fun b hb => by simp [Value.ownBlock] at hb; omega)) (List.length_map _) (fun k e he => cells_str k e he)
def M_cloneS (l : List ByteArray) : Option (List ByteArray) := grd (l.length * 16 ≤ 140737488355328) (some l)
theorem A_cloneS (l : List ByteArray) {r : List ByteArray} (h : M_cloneS l = some r) : ACall cx 29 [.sl 1 (l.map cS)] (.sl 1 (r.map cS)) := by
  obtain ⟨h0, h⟩ := grd_ok h
  obtain rfl := Option.some.inj h
  refine acall_gl Tryd.func29 rfl (by decide) (fun w O cargs ht hO hs hr => ?_)
  obtain ⟨v, rfl⟩ := args1 hs
  obtain ⟨A, cap, b, off, f, rfl, hA, hcap, _, _, hc, hv, _⟩ := rv_sl (hr 0 _ v rfl rfl)
  have done : ∀ (w' : World) (v' : Value), w'.ownsRow w.heap.size 9 1 v' l.length (l.map Value.string) → Below w.heap.size w w' → RV w' nov (mO O) (.sl 1 (l.map cS)) v' := by
    intro w' v' ho hb
    rcases ho.2 with ⟨rfl, h1⟩ | ⟨g, cp, cur, rfl, hg, hh, hn, _, hcs, htake⟩
    · have hl : l = [] := List.length_eq_zero_iff.1 h1
      subst hl
      exact RV.sl (f := fun _ _ => .nilIface) (b := 0) (off := 0) (fun h => absurd rfl h) (by simp) (by simp) (fun k e he => by simp at he) (fun k j e x he => by simp at he) (fun k j e x he => by simp at he) (fun e he => by simp at he)
    · have hlt : g < w'.heap.size := by
        rcases Nat.lt_or_ge g w'.heap.size with h | h
        · exact h
        · rw [Array.getElem?_eq_none h] at hh; cases hh
      have hcell : ∀ (k : Nat) (x : ByteArray), l[k]? = some x → w'.cell? ⟨g, 0 + (k * 1 + 0), none⟩ = some (.string x) := by
        intro k x hx
        have hk : k < l.length := (List.getElem?_eq_some_iff.1 hx).1
        have := ho.cellAt k (by simpa using hk)
        rw [Nat.zero_add, Nat.mul_one, Nat.add_zero, this]
        simp [hx]
      have := RV.sl (w := w') (vs := nov) (m := mO O) (sz := 1) (l := l.map cS) (A := some ⟨g, 0, none⟩) (cap := cp) (b := g) (off := 0) (f := fun k _ => .string (l.getD k ⟨#[]⟩))
        (fun _ => ⟨rfl, fun ho' => by have := hO _ (owned_nov.1 ho'); omega, hlt⟩) (by simp; omega) (by simp; omega)
        (fun k e he => by obtain ⟨x, _, rfl⟩ := get_map he; rfl)
        (fun k j e x he hx => by
          obtain ⟨y, hy, rfl⟩ := get_map he
          cases j with
          | zero =>
            refine ⟨?_, rfl⟩
            rw [hcell k y hy]
            simp [hy, List.getD_eq_getElem?_getD]
          | succ j => simp [cS] at hx)
        (fun k j e x he hx => by
          obtain ⟨y, hy, rfl⟩ := get_map he
          cases j with
          | zero =>
            simp [cS] at hx
            subst hx
            simp only [List.getD_eq_getElem?_getD, hy, Option.getD_some]
            exact .c _
          | succ j => simp [cS] at hx) (frl_cS l)
      simp only [List.length_map] at this
      exact this
  have hlen : (l.map cS).length = l.length := List.length_map _
  by_cases hl : l = []
  · subst hl
    cases A with
    | none =>
      refine (Tryd.slices_Clone_string_nil _ cap w).mono ?_
      rintro e w' ⟨rfl, rfl⟩
      exact ⟨_, rfl, done _ _ ⟨rfl, .inl ⟨rfl, rfl⟩⟩ (Below.refl _ _), Below.refl _ _⟩
    | some a =>
      refine (Tryd.slices_Clone_string_zero a cap w).mono ?_
      rintro e w' ⟨v', rfl, ho, _, hb⟩
      exact ⟨v', rfl, done _ _ ho hb, hb⟩
  · obtain ⟨rfl, _, _⟩ := hA (by simpa using hl)
    rw [hlen]
    refine (Tryd.slices_Clone_string b off l.length cap l w (Nat.le_refl _) h0 (fun j hj => ?_)).mono ?_
    · have hx := List.getElem?_eq_getElem hj
      have := (hc j 0 _ _ (map_at' hx) rfl).1
      rw [rv_c (hv j 0 _ _ (map_at' hx) rfl)] at this
      simpa [List.getD_eq_getElem?_getD, hx] using this
    · rintro e w' ⟨v', rfl, ho, _, hb⟩
      rw [List.take_of_length_le (Nat.le_refl _)] at ho
      exact ⟨v', rfl, done _ _ ho hb, hb⟩
end Go.Proofs.YtljekaadbabhkaaDoor.Am
/- Models printed by my decompiler, and the proofs that the code computes them. -/
namespace Go.Proofs.YtljekaadbabhkaaDoor.Am
open Go.RowKit
structure GStep where
  At : Int
  Name : ByteArray
  Args : List ByteArray
  deriving DecidableEq
def cGStep (x : GStep) : List AV := [.c (.int .i64 x.At), .c (.string x.Name), .sl 1 (x.Args.map cS)]
theorem fr_cGStep (x : GStep) : ∀ y ∈ cGStep x, Fr y := FrC_cons (.c _) (FrC_cons (.c _) (FrC_cons (.sl (frl_cS _)) (FrC_nil)))
theorem frl_cGStep (l : List GStep) : FrL (l.map cGStep) := FrL_map (fun x _ => fr_cGStep x)
instance {l : List GStep} : FrI (l.map cGStep) := ⟨frl_cGStep l⟩
theorem zb_0 {P : Prop} (h : P := by repeat (first | exact BWL.nil | exact bwll_nil | exact bw_c | exact BW.sl | exact BW.nil | exact bwll_same rfl FrI.h | refine BWL.cons ?_ ?_ | refine bwll_cons ?_ ?_ | (refine bw_own3 rfl rfl rfl FrI.h ?_ ?_ ?_) | exact BW.fr FrV.h | exact BW.fr (by assumption) | refine bw_agg ?_ | refine bw_clo ?_ | refine bw_ptr rfl rfl rfl ?_ | (refine bw_own rfl rfl rfl ?_ FrI.h ?_ ?_) | assumption | omega | rfl | (rw [List.length_map, ← List.length_append]; assumption) | (refine bwll_same ?_ FrI.h; (simp [cGStep, cS, c_u8, cF] <;> fail)) | (rw [List.map_set]; refine bwll_set (by first | rfl | omega | simp) ?_ ?_) | refine bwll_set (by first | rfl | omega | simp) ?_ ?_ | (rw [List.map_replicate]; refine bwll_rep ?_) | refine bwll_rep ?_ | (rw [List.map_append]; refine bwll_append ?_ ?_) | refine bwll_append ?_ ?_ | (simp [cGStep, cS, c_u8, cF, take_len_map] <;> fail) | (rw [List.drop_zero, List.take_of_length_le] <;> first | rfl | (simp [cGStep, cS, c_u8, cF] <;> fail)) | (simp; omega) | (simp only [List.length_map, List.drop_zero, List.length_cons, List.length_nil, Nat.zero_add, Nat.add_zero] at *; omega))) : P := h
theorem zg_0 {P : Prop} (h : P := by repeat (first | exact True.intro | exact gb_nil rfl rfl | refine gb_some ⟨rfl, rfl, rfl⟩ ?_ | refine And.intro ?_ ?_ | refine gw_ren rfl rfl rfl rfl rfl ?_ | refine gw_pren rfl rfl rfl rfl rfl | exact gw_thaw rfl rfl rfl | refine gw_tup ?_ | exact GWL.nil | exact gwll_nil | exact gw_c | exact GW.sl | exact GW.nil | exact gwll_same rfl FrI.h | refine GWL.cons ?_ ?_ | refine gwll_cons ?_ ?_ | (refine gw_own3 rfl rfl rfl FrI.h ?_ ?_ ?_) | exact GW.fr FrV.h | exact GW.fr (by assumption) | refine gw_agg ?_ | refine gw_clo ?_ | refine gw_ptr rfl rfl rfl ?_ | (refine gw_own rfl rfl rfl ?_ FrI.h ?_ ?_) | assumption | omega | rfl | (rw [List.length_map, ← List.length_append]; assumption) | (refine gwll_same ?_ FrI.h; (simp [cGStep, cS, c_u8, cF] <;> fail)) | (rw [List.map_set]; refine gwll_set (by first | rfl | omega | simp) ?_ ?_) | refine gwll_set (by first | rfl | omega | simp) ?_ ?_ | (rw [List.map_replicate]; refine gwll_rep ?_) | refine gwll_rep ?_ | (rw [List.map_append]; refine gwll_append ?_ ?_) | refine gwll_append ?_ ?_ | (simp [cGStep, cS, c_u8, cF, take_len_map] <;> fail) | (rw [List.drop_zero, List.take_of_length_le] <;> first | rfl | (simp [cGStep, cS, c_u8, cF] <;> fail)) | (simp; omega) | (simp only [List.length_map, List.drop_zero, List.length_cons, List.length_nil, Nat.zero_add, Nat.add_zero] at *; omega))) : P := h
theorem ci {p K : Prop} (k : K) (h : p := by first | rfl | exact ⟨rfl, rfl⟩ | exact BW.fr FrV.h | (refine BW.fr ?_; assumption) | (refine ⟨rfl, ?_⟩; (simp [cGStep, cS, c_u8, cF, take_len_map]; done)) | (refine RowK.same ?_ FrI.h; first | rfl | (simp [cGStep, cS, c_u8, cF, take_len_map]; done)) | (refine row_part1 ?_; (exact zb_0); done) | ((exact zb_0); done) | (simp [cGStep, cS, c_u8, cF, take_len_map]; done)) : p ∧ K := ⟨h, k⟩
theorem ca_0 {P : Prop} (h : P := by repeat (first | exact True.intro | refine ci ?_)) : P := h
theorem pr {p K : Prop} (k : K) (h : p := by first | assumption | exact Int.natCast_nonneg _ | exact Nat.le_refl _ | exact Nat.zero_le _ | omega | (simp; done) | (simp; omega)) : p ∧ K := ⟨h, k⟩
theorem pl {p K : Prop} (k : K) (h : p := by first | rfl | exact List.length_map _ | (simp; done) | (simp; omega)) : p ∧ K := ⟨h, k⟩
theorem pe {p K : Prop} (k : K) (h : p := by first | omega | (simp; omega) | (simp only [List.length_map, List.length_cons, List.length_nil, List.length_append]; omega) | (simp only [List.length_map, List.drop_zero, List.length_cons, List.length_nil, Nat.zero_add, Nat.add_zero] at *; omega)) : p ∧ K := ⟨h, k⟩
theorem dr {b : Bool} {p K : Prop} (k : K) (h : b = true → p := by intro h; first | (cases h; done) | exact ⟨by kernel_rfl, by kernel_rfl⟩) : (b = true → p) ∧ K := ⟨h, k⟩
theorem cl {C : Cx} {n : Nat} {o : Oper} {τ : Nat → AV} {η : Nat → Ent} {f : FuncId} {os : Array Operand} {ats : Array TypeId} {r : AV} {args : List AV} {K : Foot → Prop} (ho : o.op = .call ⟨.value (.func f), os, ats⟩) (hc : ACall C f args r) (k : K ⟨r, [], []⟩)
    (hd : InB n o.dst := by exact Nat.le_of_ble_eq_true rfl) (hargs : os.toList.map (evA τ) = args := by first | rfl | (simp [cGStep, cS, c_u8, cF]; done) | (repeat (first | exact rfl | refine cons_eq ?_ ?_ | exact sl_dt rfl))) (hfr : frs args := by repeat (first | exact trivial | exact fr1_eA _ | exact fr0_eA _ | exact fr1_fr (by assumption) | exact FrV.h | refine And.intro ?_ ?_)) (hr : fr1 r := by repeat (first | exact trivial | exact fr1_eA _ | exact fr0_eA _ | exact fr1_fr (by assumption) | exact FrV.h | refine And.intro ?_ ?_)) : ∃ f : Foot, LF C n o τ η f ∧ K f := ⟨_, lf_call ho hd hargs hc hfr hr, k⟩
theorem clb {C : Cx} {n : Nat} {o : Oper} {τ : Nat → AV} {η : Nat → Ent} {f : FuncId} {os : Array Operand} {ats : Array TypeId} {r : AV} {xs ys : List AV} {K : Foot → Prop} (bs : List Nat) (ho : o.op = .call ⟨.value (.func f), os, ats⟩) (hargs : os.toList.map (evA τ) = xs) (hc : ACall C f ys r) (k : K ⟨r, [], bs⟩)
    (hd : InB n o.dst := by exact Nat.le_of_ble_eq_true rfl) (hb : BWL η (dropB η bs) xs ys := by exact zb_0) (hr : scal r := by repeat (first | exact trivial | exact scal0_eA _ | exact scal_eA _ | refine And.intro ?_ ?_)) : ∃ f : Foot, LF C n o τ η f ∧ K f := ⟨_, lf_callB bs ho hd hargs hb hc hr, k⟩
theorem clf {C : Cx} {n : Nat} {o : Oper} {τ : Nat → AV} {η : Nat → Ent} {f : FuncId} {os : Array Operand} {ats : Array TypeId} {r : AV} {xs ys : List AV} {K : Foot → Prop} (us : List (Nat × Ent)) (ho : o.op = .call ⟨.value (.func f), os, ats⟩) (hargs : os.toList.map (evA τ) = xs) (hc : ACall C f ys r) (k : K ⟨r, us, []⟩)
    (hus : allUs η us := by repeat (first | exact trivial | refine And.intro rfl ?_)) (hul : ltUs n us := by repeat (first | exact trivial | refine And.intro (Nat.le_of_ble_eq_true rfl) ?_)) (hd : InB n o.dst := by exact Nat.le_of_ble_eq_true rfl) (hb : BWL η (dropB η (us.map (·.1))) xs ys := by exact zb_0) (hr : fr1 r := by repeat (first | exact trivial | exact fr1_eA _ | exact fr0_eA _ | exact fr1_fr (by assumption) | exact FrV.h | refine And.intro ?_ ?_)) : ∃ f : Foot, LF C n o τ η f ∧ K f := ⟨_, lf_callF us (allUs_at hus) (ltUs_at hul) ho hd hargs hb hc hr, k⟩
theorem clg {C : Cx} {n : Nat} {o : Oper} {τ : Nat → AV} {η : Nat → Ent} {f : FuncId} {os : Array Operand} {ats : Array TypeId} {r : AV} {xs ys : List AV} {bs bs' : List (Nat × Blk)} {ks : List Nat} {K : Foot → Prop} (ρ : List (Nat × Nat)) (fz : List Nat) (go nb : List (Nat × Ent)) (r' : AV) (ho : o.op = .call ⟨.value (.func f), os, ats⟩) (hargs : os.toList.map (evA τ) = xs)
    (hc : ACallG C f ys bs ks r bs') (k : K ⟨r', go ++ nb, []⟩) (hd : InB n o.dst := by exact Nat.le_of_ble_eq_true rfl) (hok : okC ρ fz bs ks bs' (idsE go) = true := by rfl) (hgo : allUs η go := by repeat (first | exact trivial | refine And.intro rfl ?_)) (hgl : ltUs n go := by repeat (first | exact trivial | refine And.intro (Nat.le_of_ble_eq_true rfl) ?_))
    (hw : GWL η (fE bs) (lk ρ) (fun i => inB fz i = true) (fun i => inB (keys bs) i = true) xs ys := by exact zg_0) (hb : GBL η (fE bs) (lk ρ) (fun i => inB fz i = true) (fun i => inB (keys bs) i = true) bs := by exact zg_0)
    (hr : GW (fE bs') (updAll η (go ++ nb)) (lk (backN ρ bs')) (fun _ => False) (fun i => inB (idsE nb) i = true) r r' := by exact zg_0)
    (hnb : nbOk n η (updAll η (go ++ nb)) ρ ks (fE bs') (lk (backN ρ bs')) (fun i => inB (idsE nb) i = true) bs' nb := by repeat (first | exact True.intro | rfl | exact Nat.le_of_ble_eq_true rfl | exact gb_nil rfl rfl | refine gb_some ⟨rfl, rfl, rfl⟩ ?_ | refine And.intro ?_ ?_ | refine gw_ren rfl rfl rfl rfl rfl ?_ | refine gw_pren rfl rfl rfl rfl rfl | exact gw_thaw rfl rfl rfl | refine gw_tup ?_ | exact GWL.nil | exact gwll_nil | exact gw_c | exact GW.sl | exact GW.nil | exact gwll_same rfl FrI.h | refine GWL.cons ?_ ?_ | refine gwll_cons ?_ ?_ | (refine gw_own3 rfl rfl rfl FrI.h ?_ ?_ ?_) | exact GW.fr FrV.h | exact GW.fr (by assumption) | refine gw_agg ?_ | refine gw_clo ?_ | refine gw_ptr rfl rfl rfl ?_ | (refine gw_own rfl rfl rfl ?_ FrI.h ?_ ?_) | assumption | omega | rfl | (rw [List.length_map, ← List.length_append]; assumption) | (refine gwll_same ?_ FrI.h; (simp [cGStep, cS, c_u8, cF] <;> fail)) | (rw [List.map_set]; refine gwll_set (by first | rfl | omega | simp) ?_ ?_) | refine gwll_set (by first | rfl | omega | simp) ?_ ?_ | (rw [List.map_replicate]; refine gwll_rep ?_) | refine gwll_rep ?_ | (rw [List.map_append]; refine gwll_append ?_ ?_) | refine gwll_append ?_ ?_ | (simp [cGStep, cS, c_u8, cF, take_len_map] <;> fail) | (rw [List.drop_zero, List.take_of_length_le] <;> first | rfl | (simp [cGStep, cS, c_u8, cF] <;> fail)) | (simp; omega) | (simp only [List.length_map, List.drop_zero, List.length_cons, List.length_nil, Nat.zero_add, Nat.add_zero] at *; omega))) : ∃ f : Foot, LF C n o τ η f ∧ K f := ⟨_, lf_callG ρ fz go nb ho hd hargs hc hok hgo hgl hw hb hr hnb, k⟩
def M_planfile_clock_L1 (z4 : ByteArray) : Nat → Int → Int → Option (Int ⊕ (Int × ByteArray × Bool))
  | 0, _, _ => none
  | k28 + 1, v26, v27 =>
    sel (decide (v27 < (((bys z4).map c_u8).length : Int)))
     (ix (bys z4) v27 (fun y29 =>
       sel (decide (y29 < 48))
        (some (.inr (0, (⟨#[]⟩ : ByteArray), false)))
        (sel (decide (y29 > 57))
          (some (.inr (0, (⟨#[]⟩ : ByteArray), false)))
          (M_planfile_clock_L1 z4 k28 (IntKind.i64.wrap ((IntKind.i64.wrap (10 * v26)) + (IntKind.i64.wrap (IntKind.u8.wrap (y29 - 48))))) (IntKind.i64.wrap (v27 + 1))))))
     (some (.inl v26))
def M_planfile_clock (a0 : ByteArray) : Option (Int × ByteArray × Bool) :=
  ob3 (M_strings_Cut a0 (⟨#[58]⟩ : ByteArray)) (fun z1 z2 z3 =>
   ob1 (M_strings_Trim z1 (⟨#[32, 9, 13]⟩ : ByteArray)) (fun z4 =>
    ob1 (sel (!z3)
      (some (.inr (0, (⟨#[]⟩ : ByteArray), false)))
      (sel (decide ((z4.size : Int) < 1))
        (some (.inr (0, (⟨#[]⟩ : ByteArray), false)))
        (sel (decide ((z4.size : Int) > 9))
          (some (.inr (0, (⟨#[]⟩ : ByteArray), false)))
          (some (.inl ())))) : Option (Unit ⊕ (Int × ByteArray × Bool)))
     (osum
     (fun _ => ob1 (grd (z4.size ≤ 140737488355328) (M_planfile_clock_L1 z4 (((((bys z4).map c_u8).length : Int)).toNat + 1) 0 0) : Option (Int ⊕ (Int × ByteArray × Bool)))
        (osum
        (fun v17 => ob1 (M_strings_Trim z2 (⟨#[32, 9, 13]⟩ : ByteArray)) (fun z30 =>
           some (v17, z30, true)))
        (fun (r18, r19, r20) => some (r18, r19, r20))))
     (fun (r5, r6, r7) => some (r5, r6, r7)))))
set_option maxHeartbeats 16000000 in
set_option maxRecDepth 100000 in
theorem A_planfile_clock (a0 : ByteArray) {r1 : Int} {r2 : ByteArray} {r3 : Bool} (h : M_planfile_clock a0 = some (r1, r2, r3)) : ACall cx 51 [.c (.string a0)] (.tup [.c (.int .i64 r1), .c (.string r2), .c (.bool r3)]) := by
  refine aOf Tryd.func51 rfl (by decide) rfl (Nat.le_of_ble_eq_true rfl) ?_; intro _; unfold M_planfile_clock at h; refine aSq ?_; refine aRg ?_; intro _; refine dr ?_; refine aSq ?_; refine aRg ?_; intro _; obtain ⟨z1, z2, z3, u1, h⟩ := ob3_ok h; refine cl rfl (A_strings_Cut a0 (⟨#[58]⟩ : ByteArray) u1) ?_; intro _; refine dr ?_; refine aSq ?_; refine aRg ?_; intro _; obtain ⟨z4, u2, h⟩ := ob1_ok h; refine cl rfl (A_strings_Trim z1 (⟨#[32, 9, 13]⟩ : ByteArray) u2) ?_; intro _; refine dr ?_; obtain ⟨o3, h, hK4⟩ := ob1_ok h; refine awp_cut (α := Unit) (fun _ => mkS 54 [(5, .c (.string z4)), (6, .c (.string z2))] []) (fun v => o3 = (.inl v)) ?_ ?_
  · refine aSq ?_; refine aRg ?_; intro _; refine spf h (fun c5 h => ?_) (fun c5 h => ?_)
    · intro _; refine spf h (fun c6 h => ?_) (fun c6 h => ?_)
      · intro _; refine dr ?_; refine aCd ?_; intro _; refine spl h (fun c7 h => ?_) (fun c7 h => ?_)
        · refine aSq ?_; refine aRg ?_; intro _; refine dr ?_; refine aRt ?_; have j8 := Option.some.inj h; subst j8; replace h := (osum_r hK4); intro _; obtain ⟨rfl, rfl, rfl⟩ := inj3 h; exact ca_0
        · refine aSk ?_; refine ⟨(), (Option.some.inj h).symm, ?_⟩; exact ca_0
      · intro _; refine dr ?_; refine aCd ?_; intro _; refine litT ?_; refine aSq ?_; refine aRg ?_; intro _; refine dr ?_; refine aRt ?_; have j9 := Option.some.inj h; subst j9; replace h := (osum_r hK4); intro _; obtain ⟨rfl, rfl, rfl⟩ := inj3 h; exact ca_0
    · intro _; refine dr ?_; refine aCd ?_; intro _; refine litT ?_; refine aSq ?_; refine aRg ?_; intro _; refine dr ?_; refine aRt ?_; have j10 := Option.some.inj h; subst j10; replace h := (osum_r hK4); intro _; obtain ⟨rfl, rfl, rfl⟩ := inj3 h; exact ca_0
  · rintro _ ho; have ho := ho.symm; subst ho; intro _; replace h := (osum_l hK4); refine aSq ?_; refine aRg ?_; intro _; refine dr ?_; obtain ⟨o11, h, hK12⟩ := ob1_ok h; refine awp_cut (α := Int) (fun v17 => mkS 54 [(6, .c (.string z2)), (8, .c (.int .i64 v17))] []) (fun v => o11 = (.inl v)) ?_ ?_
    · refine aSq ?_; refine aRg ?_; intro _; obtain ⟨q13, h⟩ := grd_ok h; refine ⟨_, lf_bys rfl (Nat.le_of_ble_eq_true rfl) rfl (tyTab_ok 9 _ rfl) rfl (tyTab_ok 43 _ rfl) rfl Tryd.underlying5 (by first | assumption | omega), ?_⟩; intro _; refine dr ?_; refine aBk ?_; refine awp_loop (α := Nat × Int × Int) (fun x => mkS 54 [(6, .c (.string z2)), (8, .c (.int .i64 x.2.1)), (32, .sl 1 ((bys z4).map c_u8)), (33, .c (.int .i64 (((bys z4).map c_u8).length : Int))), (34, .c (.int .i64 x.2.2))] []) (fun x => M_planfile_clock_L1 z4 x.1 x.2.1 x.2.2 = some o11) (fun x => x.1) (((((bys z4).map c_u8).length : Int)).toNat + 1, 0, 0) h ?_ ?_
      · exact ca_0
      · intro x14 h; intro _; obtain ⟨k28, m15, h⟩ := succ_of (f := fun n => M_planfile_clock_L1 z4 n x14.2.1 x14.2.2) rfl h; replace h : M_planfile_clock_L1 z4 (k28 + 1) x14.2.1 x14.2.2 = some o11 := h; rw [M_planfile_clock_L1] at h; refine aSq ?_; refine aRg ?_; intro _; refine dr ?_; refine aSq ?_; refine aCd ?_; intro _; refine spl h (fun c16 h => ?_) (fun c16 h => ?_)
        · refine aSk ?_; refine aSq ?_; refine aBk ?_; refine aSq ?_; refine aRg ?_; intro _; obtain ⟨y29, w17, q18, h⟩ := ix_ok h; refine Exists.intro (c_u8 y29) (And.intro (map_at' w17) ?_); intro _; refine pr ?_; refine dr ?_; refine aSq ?_; refine aSq ?_; refine aRg ?_; intro _; refine spf h (fun c19 h => ?_) (fun c19 h => ?_)
          · intro _; refine dr ?_; refine aCd ?_; intro _; refine spl h (fun c20 h => ?_) (fun c20 h => ?_)
            · refine aSq ?_; refine aRg ?_; intro _; refine dr ?_; refine aRt ?_; have j21 := Option.some.inj h; subst j21; replace h := (osum_r hK12); intro _; obtain ⟨rfl, rfl, rfl⟩ := inj3 h; exact ca_0
            · refine aSk ?_; refine aRg ?_; intro _; refine dr ?_; refine aRg ?_; intro _; refine dr ?_; refine ⟨(k28, (IntKind.i64.wrap ((IntKind.i64.wrap (10 * x14.2.1)) + (IntKind.i64.wrap (IntKind.u8.wrap (y29 - 48))))), (IntKind.i64.wrap (x14.2.2 + 1))), h, ltS m15, ?_⟩; exact ca_0
          · intro _; refine dr ?_; refine aCd ?_; intro _; refine litT ?_; refine aSq ?_; refine aRg ?_; intro _; refine dr ?_; refine aRt ?_; have j22 := Option.some.inj h; subst j22; replace h := (osum_r hK12); intro _; obtain ⟨rfl, rfl, rfl⟩ := inj3 h; exact ca_0
        · refine aEx ?_; refine ⟨x14.2.1, (Option.some.inj h).symm, ?_⟩; exact ca_0
    · rintro v17 ho; have ho := ho.symm; subst ho; intro _; replace h := (osum_l hK12); refine aSq ?_; refine aRg ?_; intro _; obtain ⟨z30, u23, h⟩ := ob1_ok h; refine cl rfl (A_strings_Trim z2 (⟨#[32, 9, 13]⟩ : ByteArray) u23) ?_; intro _; refine dr ?_; refine aRt ?_; intro _; obtain ⟨rfl, rfl, rfl⟩ := inj3 h; exact ca_0
def M_planfile_words_L1 (a0 : ByteArray) : Nat → Int → Option (Unit ⊕ ((List ByteArray) × Bool))
  | 0, _ => none
  | k17 + 1, v16 =>
    sel (decide (v16 < (((bys (a0.extract 1 ((IntKind.i64.wrap ((a0.size : Int) - 1)).toNat))).map c_u8).length : Int)))
     (ix (bys (a0.extract 1 ((IntKind.i64.wrap ((a0.size : Int) - 1)).toNat))) v16 (fun y18 =>
       sel (y18 == 40)
        (some (.inr ([], false)))
        (sel (y18 == 41)
          (some (.inr ([], false)))
          (sel (decide (y18 < 32))
            (sel (y18 != 9)
              (some (.inr ([], false)))
              (sel (y18 == 127)
                (some (.inr ([], false)))
                (M_planfile_words_L1 a0 k17 (IntKind.i64.wrap (v16 + 1)))))
            (sel (y18 == 127)
              (some (.inr ([], false)))
              (M_planfile_words_L1 a0 k17 (IntKind.i64.wrap (v16 + 1))))))))
     (some (.inl ()))
def M_planfile_words (a0 : ByteArray) : Option ((List ByteArray) × Bool) :=
  ob1 (sel (decide ((a0.size : Int) < 2))
    (some (.inr ([], false)))
    (sel ((byt a0 0) != 40)
      (grd (0 < (a0.size : Int)) (some (.inr ([], false))))
      (grd (0 < (a0.size : Int)) (grd (0 ≤ (IntKind.i64.wrap ((a0.size : Int) - 1))) (grd ((IntKind.i64.wrap ((a0.size : Int) - 1)) < (a0.size : Int)) (sel ((byt a0 (IntKind.i64.wrap ((a0.size : Int) - 1))) != 41)
        (some (.inr ([], false)))
        (some (.inl ()))))))) : Option (Unit ⊕ ((List ByteArray) × Bool)))
   (osum
   (fun _ => grd (0 ≤ (IntKind.i64.wrap ((a0.size : Int) - 1))) (grd (1 ≤ (IntKind.i64.wrap ((a0.size : Int) - 1)).toNat) (grd ((IntKind.i64.wrap ((a0.size : Int) - 1)).toNat ≤ a0.size) (ob1 (grd ((a0.extract 1 ((IntKind.i64.wrap ((a0.size : Int) - 1)).toNat)).size ≤ 140737488355328) (M_planfile_words_L1 a0 (((((bys (a0.extract 1 ((IntKind.i64.wrap ((a0.size : Int) - 1)).toNat))).map c_u8).length : Int)).toNat + 1) 0) : Option (Unit ⊕ ((List ByteArray) × Bool)))
      (osum
      (fun _ => ob1 (M_FieldsFunc (a0.extract 1 ((IntKind.i64.wrap ((a0.size : Int) - 1)).toNat))) (fun z19 =>
         some (z19, (decide (((z19.length : Nat) : Int) > 0)))))
      (fun (r10, r11) => some (r10, r11)))))))
   (fun (r1, r2) => some (r1, r2)))
set_option maxHeartbeats 16000000 in
set_option maxRecDepth 100000 in
theorem A_planfile_words (a0 : ByteArray) {r1 : List ByteArray} {r2 : Bool} (h : M_planfile_words a0 = some (r1, r2)) : ACallG cx 52 [.c (.string a0)] [] [] (.tup [.own 0 0 0 r1.length, .c (.bool r2)]) [(0, ⟨9, 1, false, r1.map cS⟩)] := by
  refine acallg_of 61 Tryd.func52 rfl (by decide) rfl (Nat.le_of_ble_eq_true rfl) rfl rfl ?_; intro _; unfold M_planfile_words at h; refine aSq ?_; refine aRg ?_; intro _; refine dr ?_; obtain ⟨o1, h, hK2⟩ := ob1_ok h; refine awp_cut (α := Unit) (fun _ => mkG 60 61 [(0, .c (.string a0))] []) (fun v => o1 = (.inl v)) ?_ ?_
  · refine aSq ?_; refine aRg ?_; intro _; refine spf h (fun c3 h => ?_) (fun c3 h => ?_)
    · intro _; refine spf h (fun c4 h => ?_) (fun c4 h => ?_)
      · intro _; obtain ⟨q5, h⟩ := grd_ok h; obtain ⟨q6, h⟩ := grd_ok h; obtain ⟨q7, h⟩ := grd_ok h; refine pr ?_; refine pr ?_; refine pr ?_; refine pr ?_; refine dr ?_; refine aCd ?_; intro _; refine spl h (fun c8 h => ?_) (fun c8 h => ?_)
        · refine aSq ?_; refine aRg ?_; intro _; refine dr ?_; refine aRt ?_; have j9 := Option.some.inj h; subst j9; replace h := (osum_r hK2); intro _; obtain ⟨rfl, rfl⟩ := inj2 h; all_goals (refine Exists.intro [(0, 9000)] (And.intro rfl (And.intro ?_ ?_))); all_goals (exact zg_0)
        · refine aSk ?_; refine ⟨(), (Option.some.inj h).symm, ?_⟩; exact ca_0
      · intro _; obtain ⟨q10, h⟩ := grd_ok h; refine pr ?_; refine pr ?_; refine dr ?_; refine aCd ?_; intro _; refine litT ?_; refine aSq ?_; refine aRg ?_; intro _; refine dr ?_; refine aRt ?_; have j11 := Option.some.inj h; subst j11; replace h := (osum_r hK2); intro _; obtain ⟨rfl, rfl⟩ := inj2 h; all_goals (refine Exists.intro [(0, 9000)] (And.intro rfl (And.intro ?_ ?_))); all_goals (exact zg_0)
    · intro _; refine dr ?_; refine aCd ?_; intro _; refine litT ?_; refine aSq ?_; refine aRg ?_; intro _; refine dr ?_; refine aRt ?_; have j12 := Option.some.inj h; subst j12; replace h := (osum_r hK2); intro _; obtain ⟨rfl, rfl⟩ := inj2 h; all_goals (refine Exists.intro [(0, 9000)] (And.intro rfl (And.intro ?_ ?_))); all_goals (exact zg_0)
  · rintro _ ho; have ho := ho.symm; subst ho; intro _; replace h := (osum_l hK2); refine aSq ?_; refine aRg ?_; intro _; obtain ⟨q13, h⟩ := grd_ok h; obtain ⟨q14, h⟩ := grd_ok h; obtain ⟨q15, h⟩ := grd_ok h; refine pr ?_; refine pr ?_; refine pr ?_; refine pr ?_; refine dr ?_; obtain ⟨o16, h, hK17⟩ := ob1_ok h; refine awp_cut (α := Unit) (fun _ => mkG 60 61 [(0, .c (.string (a0.extract 1 ((IntKind.i64.wrap ((a0.size : Int) - 1)).toNat))))] []) (fun v => o16 = (.inl v)) ?_ ?_
    · refine aSq ?_; refine aRg ?_; intro _; obtain ⟨q18, h⟩ := grd_ok h; refine ⟨_, lf_bys rfl (Nat.le_of_ble_eq_true rfl) rfl (tyTab_ok 9 _ rfl) rfl (tyTab_ok 43 _ rfl) rfl Tryd.underlying5 (by first | assumption | omega), ?_⟩; intro _; refine dr ?_; refine aBk ?_; refine awp_loop (α := Nat × Int) (fun x => mkG 60 61 [(0, .c (.string (a0.extract 1 ((IntKind.i64.wrap ((a0.size : Int) - 1)).toNat)))), (29, .sl 1 ((bys (a0.extract 1 ((IntKind.i64.wrap ((a0.size : Int) - 1)).toNat))).map c_u8)), (30, .c (.int .i64 (((bys (a0.extract 1 ((IntKind.i64.wrap ((a0.size : Int) - 1)).toNat))).map c_u8).length : Int))), (31, .c (.int .i64 x.2))] []) (fun x => M_planfile_words_L1 a0 x.1 x.2 = some o16) (fun x => x.1) (((((bys (a0.extract 1 ((IntKind.i64.wrap ((a0.size : Int) - 1)).toNat))).map c_u8).length : Int)).toNat + 1, 0) h ?_ ?_
      · exact ca_0
      · intro x19 h; intro _; obtain ⟨k17, m20, h⟩ := succ_of (f := fun n => M_planfile_words_L1 a0 n x19.2) rfl h; replace h : M_planfile_words_L1 a0 (k17 + 1) x19.2 = some o16 := h; rw [M_planfile_words_L1] at h; refine aSq ?_; refine aRg ?_; intro _; refine dr ?_; refine aSq ?_; refine aCd ?_; intro _; refine spl h (fun c21 h => ?_) (fun c21 h => ?_)
        · refine aSk ?_; refine aSq ?_; refine aBk ?_; refine aSq ?_; refine aRg ?_; intro _; obtain ⟨y18, w22, q23, h⟩ := ix_ok h; refine Exists.intro (c_u8 y18) (And.intro (map_at' w22) ?_); intro _; refine pr ?_; refine dr ?_; refine aSq ?_; refine aRg ?_; intro _; refine spf h (fun c24 h => ?_) (fun c24 h => ?_)
          · intro _; refine spf h (fun c25 h => ?_) (fun c25 h => ?_)
            · intro _; refine spl h (fun c26 h => ?_) (fun c26 h => ?_)
              · intro _; refine spf h (fun c27 h => ?_) (fun c27 h => ?_)
                · intro _; refine dr ?_; refine aCd ?_; intro _; refine spl h (fun c28 h => ?_) (fun c28 h => ?_)
                  · refine aSq ?_; refine aRg ?_; intro _; refine dr ?_; refine aRt ?_; have j29 := Option.some.inj h; subst j29; replace h := (osum_r hK17); intro _; obtain ⟨rfl, rfl⟩ := inj2 h; all_goals (refine Exists.intro [(0, 9000)] (And.intro rfl (And.intro ?_ ?_))); all_goals (exact zg_0)
                  · refine aSk ?_; refine aRg ?_; intro _; refine dr ?_; refine ⟨(k17, (IntKind.i64.wrap (x19.2 + 1))), h, ltS m20, ?_⟩; exact ca_0
                · intro _; refine dr ?_; refine aCd ?_; intro _; refine litT ?_; refine aSq ?_; refine aRg ?_; intro _; refine dr ?_; refine aRt ?_; have j30 := Option.some.inj h; subst j30; replace h := (osum_r hK17); intro _; obtain ⟨rfl, rfl⟩ := inj2 h; all_goals (refine Exists.intro [(0, 9000)] (And.intro rfl (And.intro ?_ ?_))); all_goals (exact zg_0)
              · intro _; refine dr ?_; refine aCd ?_; intro _; refine spl h (fun c31 h => ?_) (fun c31 h => ?_)
                · refine aSq ?_; refine aRg ?_; intro _; refine dr ?_; refine aRt ?_; have j32 := Option.some.inj h; subst j32; replace h := (osum_r hK17); intro _; obtain ⟨rfl, rfl⟩ := inj2 h; all_goals (refine Exists.intro [(0, 9000)] (And.intro rfl (And.intro ?_ ?_))); all_goals (exact zg_0)
                · refine aSk ?_; refine aRg ?_; intro _; refine dr ?_; refine ⟨(k17, (IntKind.i64.wrap (x19.2 + 1))), h, ltS m20, ?_⟩; exact ca_0
            · intro _; refine dr ?_; refine aCd ?_; intro _; refine litT ?_; refine aSq ?_; refine aRg ?_; intro _; refine dr ?_; refine aRt ?_; have j33 := Option.some.inj h; subst j33; replace h := (osum_r hK17); intro _; obtain ⟨rfl, rfl⟩ := inj2 h; all_goals (refine Exists.intro [(0, 9000)] (And.intro rfl (And.intro ?_ ?_))); all_goals (exact zg_0)
          · intro _; refine dr ?_; refine aCd ?_; intro _; refine litT ?_; refine aSq ?_; refine aRg ?_; intro _; refine dr ?_; refine aRt ?_; have j34 := Option.some.inj h; subst j34; replace h := (osum_r hK17); intro _; obtain ⟨rfl, rfl⟩ := inj2 h; all_goals (refine Exists.intro [(0, 9000)] (And.intro rfl (And.intro ?_ ?_))); all_goals (exact zg_0)
        · refine aEx ?_; refine ⟨(), (Option.some.inj h).symm, ?_⟩; exact ca_0
    · rintro _ ho; have ho := ho.symm; subst ho; intro _; replace h := (osum_l hK17); refine aSq ?_; refine aRg ?_; intro _; obtain ⟨z19, u35, h⟩ := ob1_ok h; refine clg [(0, 55)] [] [] [(55, ⟨2, some ⟨9, 1, false, z19.map cS⟩⟩)] (.own 55 2 0 z19.length) rfl rfl (A_FieldsFunc (a0.extract 1 ((IntKind.i64.wrap ((a0.size : Int) - 1)).toNat)) u35) ?_; intro _; refine dr ?_; refine aSq ?_; refine aRg ?_; intro _; refine dr ?_; refine aRt ?_; intro _; obtain ⟨rfl, rfl⟩ := inj2 h; all_goals (refine Exists.intro [(0, 55)] (And.intro rfl (And.intro ?_ ?_))); all_goals (exact zg_0)
def M_formula_reserved : Option (List ByteArray) :=
  some [(⟨#[97, 110, 100]⟩ : ByteArray), (⟨#[111, 114]⟩ : ByteArray), (⟨#[110, 111, 116]⟩ : ByteArray), (⟨#[105, 109, 112, 108, 121]⟩ : ByteArray), (⟨#[102, 111, 114, 97, 108, 108]⟩ : ByteArray), (⟨#[101, 120, 105, 115, 116, 115]⟩ : ByteArray), (⟨#[119, 104, 101, 110]⟩ : ByteArray), (⟨#[97, 115, 115, 105, 103, 110]⟩ : ByteArray), (⟨#[105, 110, 99, 114, 101, 97, 115, 101]⟩ : ByteArray), (⟨#[100, 101, 99, 114, 101, 97, 115, 101]⟩ : ByteArray), (⟨#[111, 98, 106, 101, 99, 116]⟩ : ByteArray)]
set_option maxHeartbeats 16000000 in
set_option maxRecDepth 100000 in
theorem A_formula_reserved {r1 : List ByteArray} (h : M_formula_reserved = some r1) : ACall cx 78 [] (.sl 1 (r1.map cS)) := by
  refine aOf Tryd.func78 rfl (by decide) rfl (Nat.le_of_ble_eq_true rfl) ?_; intro _; unfold M_formula_reserved at h; refine aSq ?_; refine aRg ?_; intro _; refine dr ?_; refine aSq ?_; refine aRg ?_; intro _; refine dr ?_; refine aRt ?_; intro _; obtain rfl := inj1 h; exact ca_0
def M_s_Index_string_L1 (a0 : List ByteArray) (a1 : ByteArray) : Nat → Int → Option (Int)
  | 0, _ => none
  | k5 + 1, v4 =>
    sel (decide (v4 < ((a0.map cS).length : Int)))
     (ix a0 v4 (fun y6 =>
       sel (a1.toList == y6.toList)
        (some v4)
        (M_s_Index_string_L1 a0 a1 k5 (IntKind.i64.wrap (v4 + 1)))))
     (some (-1))
def M_s_Index_string (a0 : List ByteArray) (a1 : ByteArray) : Option (Int) :=
  M_s_Index_string_L1 a0 a1 ((((a0.map cS).length : Int)).toNat + 1) 0
set_option maxHeartbeats 16000000 in
set_option maxRecDepth 100000 in
theorem A_s_Index_string (a0 : List ByteArray) (a1 : ByteArray) {r1 : Int} (h : M_s_Index_string a0 a1 = some r1) : ACall cx 94 [.sl 1 (a0.map cS), .c (.string a1)] (.c (.int .i64 r1)) := by
  refine aOf Tryd.func94 rfl (by decide) rfl (Nat.le_of_ble_eq_true rfl) ?_; intro _; unfold M_s_Index_string at h; refine aSq ?_; refine aRg ?_; intro _; refine dr ?_; refine aSq ?_; refine aSq ?_; refine aRg ?_; intro _; refine dr ?_; refine aBk ?_; refine awp_loop (α := Nat × Int) (fun x => mkS 19 [(0, .sl 1 (a0.map cS)), (1, .c (.string a1)), (7, .c (.int .i64 ((a0.map cS).length : Int))), (8, .c (.int .i64 x.2))] []) (fun x => M_s_Index_string_L1 a0 a1 x.1 x.2 = some r1) (fun x => x.1) ((((a0.map cS).length : Int)).toNat + 1, 0) h ?_ ?_
  · exact ca_0
  · intro x1 h; intro _; obtain ⟨k5, m2, h⟩ := succ_of (f := fun n => M_s_Index_string_L1 a0 a1 n x1.2) rfl h; replace h : M_s_Index_string_L1 a0 a1 (k5 + 1) x1.2 = some r1 := h; rw [M_s_Index_string_L1] at h; refine aSq ?_; refine aRg ?_; intro _; refine dr ?_; refine aSq ?_; refine aCd ?_; intro _; refine spl h (fun c3 h => ?_) (fun c3 h => ?_)
    · refine aSk ?_; refine aSq ?_; refine aBk ?_; refine aSq ?_; refine aRg ?_; intro _; refine dr ?_; refine aSq ?_; refine aRg ?_; intro _; obtain ⟨y6, w4, q5, h⟩ := ix_ok h; refine Exists.intro (cS y6) (And.intro (map_at' w4) ?_); intro _; refine pr ?_; refine dr ?_; refine aCd ?_; intro _; refine spl h (fun c6 h => ?_) (fun c6 h => ?_)
      · refine aSq ?_; refine aRg ?_; intro _; refine dr ?_; refine aRt ?_; intro _; obtain rfl := inj1 h; exact ca_0
      · refine aSk ?_; refine aRg ?_; intro _; refine dr ?_; refine ⟨(k5, (IntKind.i64.wrap (x1.2 + 1))), h, ltS m2, ?_⟩; exact ca_0
    · refine aEx ?_; refine aSq ?_; refine aRg ?_; intro _; refine dr ?_; refine aRt ?_; intro _; obtain rfl := inj1 h; exact ca_0
def M_s_Contains_string (a0 : List ByteArray) (a1 : ByteArray) : Option (Bool) :=
  ob1 (M_s_Index_string a0 a1) (fun z1 =>
   some (decide (z1 ≥ 0)))
set_option maxHeartbeats 16000000 in
set_option maxRecDepth 100000 in
theorem A_s_Contains_string (a0 : List ByteArray) (a1 : ByteArray) {r1 : Bool} (h : M_s_Contains_string a0 a1 = some r1) : ACall cx 77 [.sl 1 (a0.map cS), .c (.string a1)] (.c (.bool r1)) := by
  refine aOf Tryd.func77 rfl (by decide) rfl (Nat.le_of_ble_eq_true rfl) ?_; intro _; unfold M_s_Contains_string at h; refine aSq ?_; refine aRg ?_; intro _; refine dr ?_; refine aSq ?_; refine aRg ?_; intro _; obtain ⟨z1, u1, h⟩ := ob1_ok h; refine cl rfl (A_s_Index_string a0 a1 u1) ?_; intro _; refine dr ?_; refine aRt ?_; intro _; obtain rfl := inj1 h; exact ca_0
def M_formula_Name_L1 (a0 : ByteArray) : Nat → Int → Option (Unit ⊕ Bool)
  | 0, _ => none
  | k18 + 1, v17 =>
    sel (decide (v17 < (a0.size : Int)))
     (grd (0 ≤ v17) (grd (v17 < (a0.size : Int)) (ob1 (sel (decide ((byt a0 v17) ≥ 97))
        (some (decide ((byt a0 v17) ≤ 122)))
        (some false) : Option (Bool))
       (fun v19 => sel (!v19)
          (sel (v17 == 0)
            (some (.inr false))
            (sel (decide ((byt a0 v17) < 48))
              (sel ((byt a0 v17) != 45)
                (sel ((byt a0 v17) != 95)
                  (some (.inr false))
                  (M_formula_Name_L1 a0 k18 (IntKind.i64.wrap (v17 + 1))))
                (M_formula_Name_L1 a0 k18 (IntKind.i64.wrap (v17 + 1))))
              (sel (decide ((byt a0 v17) > 57))
                (sel ((byt a0 v17) != 45)
                  (sel ((byt a0 v17) != 95)
                    (some (.inr false))
                    (M_formula_Name_L1 a0 k18 (IntKind.i64.wrap (v17 + 1))))
                  (M_formula_Name_L1 a0 k18 (IntKind.i64.wrap (v17 + 1))))
                (M_formula_Name_L1 a0 k18 (IntKind.i64.wrap (v17 + 1))))))
          (M_formula_Name_L1 a0 k18 (IntKind.i64.wrap (v17 + 1)))))))
     (some (.inl ()))
def M_formula_Name (a0 : ByteArray) : Option (Bool) :=
  ob1 (M_formula_Name_L1 a0 (((a0.size : Int)).toNat + 1) 0 : Option (Unit ⊕ Bool))
   (osum
   (fun _ => sel (!(a0.toList == (⟨#[]⟩ : ByteArray).toList))
      (sel (decide ((a0.size : Int) ≤ 32))
        (ob1 (M_formula_reserved) (fun z21 =>
          ob1 (M_s_Contains_string z21 a0) (fun z22 =>
           some (!z22))))
        (some false))
      (some false))
   (fun r10 => some r10))
set_option maxHeartbeats 16000000 in
set_option maxRecDepth 100000 in
theorem A_formula_Name (a0 : ByteArray) {r1 : Bool} (h : M_formula_Name a0 = some r1) : ACall cx 54 [.c (.string a0)] (.c (.bool r1)) := by
  refine aOf Tryd.func54 rfl (by decide) rfl (Nat.le_of_ble_eq_true rfl) ?_; intro _; unfold M_formula_Name at h; refine aSq ?_; refine aRg ?_; intro _; refine dr ?_; obtain ⟨o1, h, hK2⟩ := ob1_ok h; refine awp_cut (α := Unit) (fun _ => mkS 56 [(0, .c (.string a0))] []) (fun v => o1 = (.inl v)) ?_ ?_
  · refine aSq ?_; refine aRg ?_; intro _; refine dr ?_; refine aBk ?_; refine awp_loop (α := Nat × Int) (fun x => mkS 56 [(0, .c (.string a0)), (7, .c (.int .i64 (a0.size : Int))), (8, .c (.int .i64 x.2))] []) (fun x => M_formula_Name_L1 a0 x.1 x.2 = some o1) (fun x => x.1) (((a0.size : Int)).toNat + 1, 0) h ?_ ?_
    · exact ca_0
    · intro x3 h; intro _; obtain ⟨k18, m4, h⟩ := succ_of (f := fun n => M_formula_Name_L1 a0 n x3.2) rfl h; replace h : M_formula_Name_L1 a0 (k18 + 1) x3.2 = some o1 := h; rw [M_formula_Name_L1] at h; refine aSq ?_; refine aRg ?_; intro _; refine dr ?_; refine aSq ?_; refine aCd ?_; intro _; refine spl h (fun c5 h => ?_) (fun c5 h => ?_)
      · refine aSk ?_; refine aSq ?_; refine aBk ?_; refine aSq ?_; refine aRg ?_; intro _; refine dr ?_; refine aSq ?_; refine aRg ?_; intro _; obtain ⟨q6, h⟩ := grd_ok h; obtain ⟨q7, h⟩ := grd_ok h; refine pr ?_; refine pr ?_; refine dr ?_; obtain ⟨o8, h, hK9⟩ := ob1_ok h; refine awp_cut (α := Bool) (fun v19 => mkS 56 [(0, .c (.string a0)), (3, .c (.int .i64 x3.2)), (4, .c (.int .u8 (byt a0 x3.2))), (5, .c (.bool v19)), (7, .c (.int .i64 (a0.size : Int))), (8, .c (.int .i64 x3.2))] []) (fun v => o8 = v) ?_ ?_
        · refine aRg ?_; intro _; refine spl h (fun c10 h => ?_) (fun c10 h => ?_)
          · intro _; refine dr ?_; refine ⟨(decide ((byt a0 x3.2) ≤ 122)), (Option.some.inj h).symm, ?_⟩; exact ca_0
          · intro _; refine dr ?_; refine ⟨false, (Option.some.inj h).symm, ?_⟩; exact ca_0
        · rintro v19 ho; have ho := ho.symm; subst ho; intro _; replace h := hK9; refine aSq ?_; refine aRg ?_; intro _; refine spl h (fun c11 h => ?_) (fun c11 h => ?_)
          · intro _; refine spf h (fun c12 h => ?_) (fun c12 h => ?_)
            · intro _; refine spf h (fun c13 h => ?_) (fun c13 h => ?_)
              · intro _; refine spl h (fun c14 h => ?_) (fun c14 h => ?_)
                · intro _; refine spl h (fun c15 h => ?_) (fun c15 h => ?_)
                  · intro _; refine dr ?_; refine aCd ?_; intro _; refine spl h (fun c16 h => ?_) (fun c16 h => ?_)
                    · refine aSq ?_; refine aRg ?_; intro _; refine dr ?_; refine aRt ?_; have j17 := Option.some.inj h; subst j17; replace h := (osum_r hK2); intro _; obtain rfl := inj1 h; exact ca_0
                    · refine aSk ?_; refine aRg ?_; intro _; refine dr ?_; refine ⟨(k18, (IntKind.i64.wrap (x3.2 + 1))), h, ltS m4, ?_⟩; exact ca_0
                  · intro _; refine dr ?_; refine aCd ?_; intro _; refine litF ?_; refine aSk ?_; refine aRg ?_; intro _; refine dr ?_; refine ⟨(k18, (IntKind.i64.wrap (x3.2 + 1))), h, ltS m4, ?_⟩; exact ca_0
                · intro _; refine dr ?_; refine aCd ?_; intro _; refine litF ?_; refine aSk ?_; refine aRg ?_; intro _; refine dr ?_; refine ⟨(k18, (IntKind.i64.wrap (x3.2 + 1))), h, ltS m4, ?_⟩; exact ca_0
              · intro _; refine spl h (fun c18 h => ?_) (fun c18 h => ?_)
                · intro _; refine dr ?_; refine aCd ?_; intro _; refine spl h (fun c19 h => ?_) (fun c19 h => ?_)
                  · refine aSq ?_; refine aRg ?_; intro _; refine dr ?_; refine aRt ?_; have j20 := Option.some.inj h; subst j20; replace h := (osum_r hK2); intro _; obtain rfl := inj1 h; exact ca_0
                  · refine aSk ?_; refine aRg ?_; intro _; refine dr ?_; refine ⟨(k18, (IntKind.i64.wrap (x3.2 + 1))), h, ltS m4, ?_⟩; exact ca_0
                · intro _; refine dr ?_; refine aCd ?_; intro _; refine litF ?_; refine aSk ?_; refine aRg ?_; intro _; refine dr ?_; refine ⟨(k18, (IntKind.i64.wrap (x3.2 + 1))), h, ltS m4, ?_⟩; exact ca_0
            · intro _; refine dr ?_; refine aCd ?_; intro _; refine litT ?_; refine aSq ?_; refine aRg ?_; intro _; refine dr ?_; refine aRt ?_; have j21 := Option.some.inj h; subst j21; replace h := (osum_r hK2); intro _; obtain rfl := inj1 h; exact ca_0
          · intro _; refine dr ?_; refine aCd ?_; intro _; refine litF ?_; refine aSk ?_; refine aRg ?_; intro _; refine dr ?_; refine ⟨(k18, (IntKind.i64.wrap (x3.2 + 1))), h, ltS m4, ?_⟩; exact ca_0
      · refine aEx ?_; refine ⟨(), (Option.some.inj h).symm, ?_⟩; exact ca_0
  · rintro _ ho; have ho := ho.symm; subst ho; intro _; replace h := (osum_l hK2); refine aSq ?_; refine aRg ?_; intro _; refine spl h (fun c22 h => ?_) (fun c22 h => ?_)
    · intro _; refine spl h (fun c23 h => ?_) (fun c23 h => ?_)
      · intro _; obtain ⟨z21, u24, h⟩ := ob1_ok h; refine cl rfl (A_formula_reserved u24) ?_; intro _; obtain ⟨z22, u25, h⟩ := ob1_ok h; refine cl rfl (A_s_Contains_string z21 a0 u25) ?_; intro _; refine dr ?_; refine aRt ?_; intro _; obtain rfl := inj1 h; exact ca_0
      · intro _; refine dr ?_; refine aRt ?_; intro _; obtain rfl := inj1 h; exact ca_0
    · intro _; refine dr ?_; refine aRt ?_; intro _; obtain rfl := inj1 h; exact ca_0
def M_strings_Clone (a0 : ByteArray) : Option (ByteArray) :=
  ob1 (M_stringslite_Clone a0) (fun z1 =>
   some z1)
set_option maxHeartbeats 16000000 in
set_option maxRecDepth 100000 in
theorem A_strings_Clone (a0 : ByteArray) {r1 : ByteArray} (h : M_strings_Clone a0 = some r1) : ACall cx 55 [.c (.string a0)] (.c (.string r1)) := by
  refine aOf Tryd.func55 rfl (by decide) rfl (Nat.le_of_ble_eq_true rfl) ?_; intro _; unfold M_strings_Clone at h; refine aSq ?_; refine aRg ?_; intro _; refine dr ?_; refine aSq ?_; refine aRg ?_; intro _; obtain ⟨z1, u1, h⟩ := ob1_ok h; refine cl rfl (A_stringslite_Clone a0 u1) ?_; intro _; refine dr ?_; refine aRt ?_; intro _; obtain rfl := inj1 h; exact ca_0
def M_planfile_step_L1 (z12 : List ByteArray) : Nat → Int → (List ByteArray) → Option ((List ByteArray) ⊕ (GStep × Er))
  | 0, _, _ => none
  | k52 + 1, v50, v51 =>
    sel (decide (v50 < ((z12.length : Nat) : Int)))
     (ixn v51 ((v50).toNat) (fun y53 =>
       ob1 (M_lower y53) (fun z54 =>
        ixn v51 ((v50).toNat) (fun _ =>
         grd (0 ≤ v50) (grd (v50 < ((v51.length : Nat) : Int)) (ixn (v51.set ((v50).toNat) z54) ((v50).toNat) (fun y56 =>
          ob1 (M_formula_Name y56) (fun z57 =>
           sel (!z57)
            (some (.inr ({ At := 0, Name := (⟨#[]⟩ : ByteArray), Args := [] : GStep }, (Er.no 8))))
            (M_planfile_step_L1 z12 k52 (IntKind.i64.wrap (v50 + 1)) (v51.set ((v50).toNat) z54))))))))))
     (some (.inl v51))
def M_planfile_step (a0 : ByteArray) (a1 : Bool) : Option (GStep × Er) :=
  ob1 (sel a1
    (ob3 (M_planfile_clock a0) (fun z9 z10 z11 =>
      sel (!z11)
       (some (.inr ({ At := 0, Name := (⟨#[]⟩ : ByteArray), Args := [] : GStep }, (Er.no 2))))
       (some (.inl (z10, z9)))))
    (some (.inl (a0, 0))) : Option ((ByteArray × Int) ⊕ (GStep × Er)))
   (osum
   (fun (v4, v5) => ob2 (M_planfile_words v4) (fun z12 z13 =>
      sel (!z13)
       (some ({ At := 0, Name := (⟨#[]⟩ : ByteArray), Args := [] : GStep }, (Er.no 2)))
       (sel (decide (v5 > 1048576))
         (some ({ At := 0, Name := (⟨#[]⟩ : ByteArray), Args := [] : GStep }, (Er.no 1)))
         (ob1 (M_planfile_step_L1 z12 ((((z12.length : Nat) : Int)).toNat + 1) 0 z12 : Option ((List ByteArray) ⊕ (GStep × Er)))
           (osum
           (fun v34 => ixn v34 0 (fun y58 =>
              ob1 (M_strings_Clone y58) (fun z59 =>
               grd (v34.length - 1 ≤ 140737488355328) (grd (1 + (v34.length - 1) ≤ v34.length) (ob1 (M_cloneS ((v34.drop 1).take (v34.length - 1))) (fun z60 =>
                grd (0 < ((v34.length : Nat) : Int)) (grd (1 ≤ v34.length) (some ({ At := v5, Name := z59, Args := z60 : GStep }, Er.nil)))))))))
           (fun (r35, r36) => some (r35, r36)))))))
   (fun (r6, r7) => some (r6, r7)))
set_option maxHeartbeats 16000000 in
set_option maxRecDepth 100000 in
theorem A_planfile_step (a0 : ByteArray) (a1 : Bool) {r1 : GStep} {r2 : Er} (h : M_planfile_step a0 a1 = some (r1, r2)) : ACall cx 25 [.c (.string a0), .c (.bool a1)] (.tup [.agg [.c (.int .i64 r1.At), .c (.string r1.Name), .sl 1 (r1.Args.map cS)], eA r2]) := by
  refine aOf Tryd.func25 rfl (by decide) rfl (Nat.le_of_ble_eq_true rfl) ?_; intro _; unfold M_planfile_step at h; refine aSq ?_; refine aRg ?_; intro _; refine dr ?_; refine aSq ?_; refine aRg ?_; intro _; refine dr ?_; obtain ⟨o1, h, hK2⟩ := ob1_ok h; refine awp_cut (α := ByteArray × Int) (fun (v4, v5) => mkS 70 [(0, .c (.string v4)), (4, .ptr 4 0 0 0), (6, .c (.int .i64 v5))] [(4, ⟨37, 3, true, [[.c (.int .i64 0), .c (.string (⟨#[]⟩ : ByteArray)), .c (.slice none 0 0)]]⟩)]) (fun v => o1 = (.inl v)) ?_ ?_
  · refine aSq ?_; refine aRg ?_; intro _; refine dr ?_; refine aCd ?_; intro _; refine spl h (fun c3 h => ?_) (fun c3 h => ?_)
    · refine aSq ?_; refine aRg ?_; intro _; obtain ⟨z9, z10, z11, u4, h⟩ := ob3_ok h; refine cl rfl (A_planfile_clock a0 u4) ?_; intro _; refine dr ?_; refine aSq ?_; refine aSq ?_; refine aRg ?_; intro _; refine dr ?_; refine aCd ?_; intro _; refine spl h (fun c5 h => ?_) (fun c5 h => ?_)
      · refine aSq ?_; refine aRg ?_; intro _; refine dr ?_; refine aRt ?_; have j6 := Option.some.inj h; subst j6; replace h := (osum_r hK2); intro _; obtain ⟨rfl, rfl⟩ := inj2 h; exact ca_0
      · refine aSk ?_; refine aRg ?_; intro _; refine dr ?_; refine ⟨(z10, z9), (Option.some.inj h).symm, ?_⟩; exact ca_0
    · refine aSk ?_; refine ⟨(a0, 0), (Option.some.inj h).symm, ?_⟩; exact ca_0
  · rintro ⟨v4, v5⟩ ho; have ho := ho.symm; subst ho; intro _; replace h := (osum_l hK2); refine aSq ?_; refine aRg ?_; intro _; obtain ⟨z12, z13, u7, h⟩ := ob2_ok h; refine clg [(0, 28)] [] [] [(28, ⟨2, some ⟨9, 1, false, z12.map cS⟩⟩)] (.tup [.own 28 2 0 z12.length, .c (.bool z13)]) rfl rfl (A_planfile_words v4 u7) ?_; intro _; refine dr ?_; refine aSq ?_; refine aSq ?_; refine aRg ?_; intro _; refine dr ?_; refine aCd ?_; intro _; refine spl h (fun c8 h => ?_) (fun c8 h => ?_)
    · refine aSq ?_; refine aRg ?_; intro _; refine dr ?_; refine aRt ?_; intro _; obtain ⟨rfl, rfl⟩ := inj2 h; exact ca_0
    · refine aSk ?_; refine aSq ?_; refine aSq ?_; refine aRg ?_; intro _; refine dr ?_; refine aCd ?_; intro _; refine spl h (fun c9 h => ?_) (fun c9 h => ?_)
      · refine aSq ?_; refine aRg ?_; intro _; refine dr ?_; refine aRt ?_; intro _; obtain ⟨rfl, rfl⟩ := inj2 h; exact ca_0
      · refine aSk ?_; obtain ⟨o10, h, hK11⟩ := ob1_ok h; refine awp_cut (α := List ByteArray) (fun v34 => mkS 70 [(4, .ptr 4 0 0 0), (6, .c (.int .i64 v5)), (10, .own 28 0 0 v34.length)] [(4, ⟨37, 3, true, [[.c (.int .i64 0), .c (.string (⟨#[]⟩ : ByteArray)), .c (.slice none 0 0)]]⟩), (28, ⟨9, 1, false, v34.map cS⟩)]) (fun v => o10 = (.inl v)) ?_ ?_
        · refine aSq ?_; refine aRg ?_; intro _; refine dr ?_; refine aBk ?_; refine awp_loop (α := Nat × Int × (List ByteArray)) (fun x => mkS 70 [(4, .ptr 4 0 0 0), (6, .c (.int .i64 v5)), (10, .own 28 0 0 x.2.2.length), (40, .c (.int .i64 ((z12.length : Nat) : Int))), (41, .c (.int .i64 x.2.1))] [(4, ⟨37, 3, true, [[.c (.int .i64 0), .c (.string (⟨#[]⟩ : ByteArray)), .c (.slice none 0 0)]]⟩), (28, ⟨9, 1, false, x.2.2.map cS⟩)]) (fun x => M_planfile_step_L1 z12 x.1 x.2.1 x.2.2 = some o10) (fun x => x.1) ((((z12.length : Nat) : Int)).toNat + 1, 0, z12) h ?_ ?_
          · exact ca_0
          · intro x12 h; intro _; obtain ⟨k52, m13, h⟩ := succ_of (f := fun n => M_planfile_step_L1 z12 n x12.2.1 x12.2.2) rfl h; replace h : M_planfile_step_L1 z12 (k52 + 1) x12.2.1 x12.2.2 = some o10 := h; rw [M_planfile_step_L1] at h; refine aSq ?_; refine aRg ?_; intro _; refine dr ?_; refine aSq ?_; refine aCd ?_; intro _; refine spl h (fun c14 h => ?_) (fun c14 h => ?_)
            · refine aSk ?_; refine aSq ?_; refine aBk ?_; refine aSq ?_; refine aRg ?_; intro _; refine dr ?_; refine aSq ?_; refine aRg ?_; intro _; obtain ⟨y53, w15, h⟩ := ixn_ok h; refine Exists.intro (cS y53) (And.intro (by first | exact map_at' w15 | (have w := map_at' (f := cS) w15; simpa [cS] using w)) ?_); intro _; obtain ⟨z54, u16, h⟩ := ob1_ok h; refine cl rfl (A_lower y53 u16) ?_; intro _; obtain ⟨y55, w17, h⟩ := ixn_ok h; refine Exists.intro (cS y55) (And.intro (by first | exact map_at' w17 | (have w := map_at' (f := cS) w17; simpa [cS] using w)) ?_); intro _; obtain ⟨q18, h⟩ := grd_ok h; obtain ⟨q19, h⟩ := grd_ok h; refine pr ?_; refine pr ?_; refine pr ?_; refine pr ?_; refine dr ?_; refine aSq ?_; refine aRg ?_; intro _; obtain ⟨y56, w20, h⟩ := ixn_ok h; refine Exists.intro (cS y56) (And.intro (by first | exact map_at' w20 | (have w := map_at' (f := cS) w20; simpa [cS] using w)) ?_); intro _; obtain ⟨z57, u21, h⟩ := ob1_ok h; refine cl rfl (A_formula_Name y56 u21) ?_; intro _; refine pr ?_; refine pr ?_; refine dr ?_; refine aCd ?_; intro _; refine spl h (fun c22 h => ?_) (fun c22 h => ?_)
              · refine aSq ?_; refine aRg ?_; intro _; refine dr ?_; refine aRt ?_; have j23 := Option.some.inj h; subst j23; replace h := (osum_r hK11); intro _; obtain ⟨rfl, rfl⟩ := inj2 h; exact ca_0
              · refine aSk ?_; refine aRg ?_; intro _; refine dr ?_; refine ⟨(k52, (IntKind.i64.wrap (x12.2.1 + 1)), (x12.2.2.set ((x12.2.1).toNat) z54)), h, ltS m13, ?_⟩; exact ca_0
            · refine aEx ?_; refine ⟨x12.2.2, (Option.some.inj h).symm, ?_⟩; exact ca_0
        · rintro v34 ho; have ho := ho.symm; subst ho; intro _; replace h := (osum_l hK11); refine aSq ?_; refine aRg ?_; intro _; obtain ⟨y58, w24, h⟩ := ixn_ok h; refine Exists.intro (cS y58) (And.intro (by first | exact map_at' w24 | (have w := map_at' (f := cS) w24; simpa [cS] using w)) ?_); intro _; obtain ⟨z59, u25, h⟩ := ob1_ok h; refine cl rfl (A_strings_Clone y58 u25) ?_; intro _; obtain ⟨q26, h⟩ := grd_ok h; obtain ⟨q27, h⟩ := grd_ok h; obtain ⟨z60, u28, h⟩ := ob1_ok h; refine clf [(28, ⟨1, none⟩)] rfl rfl (A_cloneS ((v34.drop 1).take (v34.length - 1)) u28) ?_; intro _; obtain ⟨q29, h⟩ := grd_ok h; obtain ⟨q30, h⟩ := grd_ok h; refine pr ?_; refine pr ?_; refine pr ?_; refine pr ?_; refine pr ?_; refine dr ?_; refine aRt ?_; intro _; obtain ⟨rfl, rfl⟩ := inj2 h; exact ca_0
def M_planfile_Parse_L1 (a1 : Bool) (z1 : List ByteArray) : Nat → Int → (List GStep) → Option ((List GStep) × Int × Er)
  | 0, _, _ => none
  | k18 + 1, v16, v17 =>
    sel (decide (v16 < ((z1.map cS).length : Int)))
     (ix z1 v16 (fun y19 =>
       ob1 (M_strings_Trim y19 (⟨#[32, 9, 13]⟩ : ByteArray)) (fun z20 =>
        ob1 (sel (z20.toList == (⟨#[]⟩ : ByteArray).toList)
          (some (.inr ()))
          (grd (0 < (z20.size : Int)) (sel ((byt z20 0) == 59)
            (some (.inr ()))
            (some (.inl ())))) : Option (Unit ⊕ Unit))
         (osum
         (fun _ => ob2 (M_planfile_step z20 a1) (fun z22 z23 =>
            erM z23
             (grd ((v17.length + 1) * 48 ≤ 140737488355328) (M_planfile_Parse_L1 a1 z1 k18 (IntKind.i64.wrap (v16 + 1)) (v17 ++ [z22])))
             (fun e24 => some ([], (IntKind.i64.wrap (v16 + 1)), (Er.no e24)))))
         (fun _ => M_planfile_Parse_L1 a1 z1 k18 (IntKind.i64.wrap (v16 + 1)) v17)))))
     (grd (v17.length ≤ 140737488355328) (some (v17, 0, Er.nil)))
def M_planfile_Parse (a0 : ByteArray) (a1 : Bool) : Option ((List GStep) × Int × Er) :=
  sel (decide ((a0.size : Int) > 65536))
   (some ([], 0, (Er.no 5)))
   (ob1 (M_strings_Split a0 (⟨#[10]⟩ : ByteArray)) (fun z1 =>
     M_planfile_Parse_L1 a1 z1 ((((z1.map cS).length : Int)).toNat + 1) 0 []))
set_option maxHeartbeats 16000000 in
set_option maxRecDepth 100000 in
theorem A_planfile_Parse (a0 : ByteArray) (a1 : Bool) {r1 : List GStep} {r2 : Int} {r3 : Er} (h : M_planfile_Parse a0 a1 = some (r1, r2, r3)) : ACall cx 11 [.c (.string a0), .c (.bool a1)] (.tup [.sl 3 (r1.map cGStep), .c (.int .i64 r2), eA r3]) := by
  refine aOf Tryd.func11 rfl (by decide) rfl (Nat.le_of_ble_eq_true rfl) ?_; intro _; unfold M_planfile_Parse at h; refine aSq ?_; refine aRg ?_; intro _; refine dr ?_; refine aSq ?_; refine aSq ?_; refine aRg ?_; intro _; refine dr ?_; refine aCd ?_; intro _; refine spl h (fun c1 h => ?_) (fun c1 h => ?_)
  · refine aSq ?_; refine aRg ?_; intro _; refine dr ?_; refine aRt ?_; intro _; obtain ⟨rfl, rfl, rfl⟩ := inj3 h; exact ca_0
  · refine aSk ?_; refine aSq ?_; refine aRg ?_; intro _; refine dr ?_; refine aSq ?_; refine aSq ?_; refine aRg ?_; intro _; obtain ⟨z1, u2, h⟩ := ob1_ok h; refine cl rfl (A_strings_Split a0 (⟨#[10]⟩ : ByteArray) u2) ?_; intro _; refine dr ?_; refine aBk ?_; refine awp_loop (α := Nat × Int × (List GStep)) (fun x => mkS 50 [(1, .c (.bool a1)), (7, .own 47 0 0 x.2.2.length), (17, .sl 1 (z1.map cS)), (18, .c (.int .i64 ((z1.map cS).length : Int))), (19, .c (.int .i64 x.2.1))] [(47, ⟨37, 3, false, x.2.2.map cGStep⟩)]) (fun x => M_planfile_Parse_L1 a1 z1 x.1 x.2.1 x.2.2 = some (r1, r2, r3)) (fun x => x.1) ((((z1.map cS).length : Int)).toNat + 1, 0, []) h ?_ ?_
    · exact ca_0
    · intro x3 h; intro _; obtain ⟨k18, m4, h⟩ := succ_of (f := fun n => M_planfile_Parse_L1 a1 z1 n x3.2.1 x3.2.2) rfl h; replace h : M_planfile_Parse_L1 a1 z1 (k18 + 1) x3.2.1 x3.2.2 = some (r1, r2, r3) := h; rw [M_planfile_Parse_L1] at h; refine aSq ?_; refine aRg ?_; intro _; refine dr ?_; refine aSq ?_; refine aCd ?_; intro _; refine spl h (fun c5 h => ?_) (fun c5 h => ?_)
      · refine aSk ?_; refine aSq ?_; refine aBk ?_; refine aSq ?_; refine aRg ?_; intro _; obtain ⟨y19, w6, q7, h⟩ := ix_ok h; refine Exists.intro (cS y19) (And.intro (map_at' w6) ?_); intro _; refine pr ?_; refine dr ?_; refine aSq ?_; refine aRg ?_; intro _; obtain ⟨z20, u8, h⟩ := ob1_ok h; refine cl rfl (A_strings_Trim y19 (⟨#[32, 9, 13]⟩ : ByteArray) u8) ?_; intro _; refine dr ?_; obtain ⟨o9, h, hK10⟩ := ob1_ok h; refine awp_cut (α := Unit) (fun _ => mkS 50 [(1, .c (.bool a1)), (7, .own 47 0 0 x3.2.2.length), (8, .c (.int .i64 x3.2.1)), (9, .c (.string z20)), (17, .sl 1 (z1.map cS)), (18, .c (.int .i64 ((z1.map cS).length : Int))), (19, .c (.int .i64 x3.2.1)), (29, .c (.string z20)), (30, .c (.int .u8 (byt z20 0))), (31, .c (.bool ((byt z20 0) == 59)))] [(47, ⟨37, 3, false, x3.2.2.map cGStep⟩)]) (fun v => o9 = (.inl v)) ?_ ?_
        · refine aSq ?_; refine aRg ?_; intro _; refine spf h (fun c11 h => ?_) (fun c11 h => ?_)
          · intro _; obtain ⟨q12, h⟩ := grd_ok h; refine pr ?_; refine pr ?_; refine dr ?_; refine aCd ?_; intro _; refine spl h (fun c13 h => ?_) (fun c13 h => ?_)
            · refine aEx ?_; have j14 := Option.some.inj h; subst j14; replace h := (osum_r hK10); refine aRg ?_; intro _; refine dr ?_; refine ⟨(k18, (IntKind.i64.wrap (x3.2.1 + 1)), x3.2.2), h, ltS m4, ?_⟩; exact ca_0
            · refine aSk ?_; refine ⟨(), (Option.some.inj h).symm, ?_⟩; exact ca_0
          · intro _; refine dr ?_; refine aCd ?_; intro _; refine litT ?_; refine aEx ?_; have j15 := Option.some.inj h; subst j15; replace h := (osum_r hK10); refine aRg ?_; intro _; refine dr ?_; refine ⟨(k18, (IntKind.i64.wrap (x3.2.1 + 1)), x3.2.2), h, ltS m4, ?_⟩; exact ca_0
        · rintro _ ho; have ho := ho.symm; subst ho; intro _; replace h := (osum_l hK10); refine aSq ?_; refine aRg ?_; intro _; obtain ⟨z22, z23, u16, h⟩ := ob2_ok h; refine cl rfl (A_planfile_step z20 a1 u16) ?_; intro _; refine dr ?_; refine aSq ?_; refine aSq ?_; rcases z23 with _ | e24
          · replace h := erM_nil h; refine aRg ?_; intro _; refine dr ?_; refine aCd ?_; intro _; refine litF ?_; refine aSk ?_; refine aRg ?_; intro _; obtain ⟨q17, h⟩ := grd_ok h; refine pl ?_; refine pl ?_; refine And.intro (by first | with_reducible assumption | (show (x3.2.2.length + 1) * 48 ≤ 140737488355328; with_reducible assumption) | omega | (simp; omega)) ?_; refine pe ?_; refine dr ?_; refine aRg ?_; intro _; refine dr ?_; refine ⟨(k18, (IntKind.i64.wrap (x3.2.1 + 1)), (x3.2.2 ++ [z22])), h, ltS m4, ?_⟩; exact ca_0
          · replace h := erM_no h; refine aRg ?_; intro _; refine dr ?_; refine aCd ?_; intro _; refine litT ?_; refine aSq ?_; refine aRg ?_; intro _; refine dr ?_; refine aRt ?_; intro _; obtain ⟨rfl, rfl, rfl⟩ := inj3 h; exact ca_0
      · refine aEx ?_; refine aSq ?_; refine aRg ?_; intro _; refine dr ?_; refine aRt ?_; obtain ⟨q18, h⟩ := grd_ok h; intro _; obtain ⟨rfl, rfl, rfl⟩ := inj3 h; exact ca_0
def M_b_Texts_L1 (a0 : List ByteArray) (a1 : List ByteArray) : Nat → Int → Option (Bool)
  | 0, _ => none
  | k7 + 1, v6 =>
    sel (decide (v6 < ((a0.map cS).length : Int)))
     (ix a0 v6 (fun y8 =>
       ix a1 v6 (fun y9 =>
        sel (!(y8.toList == y9.toList))
         (some false)
         (M_b_Texts_L1 a0 a1 k7 (IntKind.i64.wrap (v6 + 1))))))
     (some true)
def M_b_Texts (a0 : List ByteArray) (a1 : List ByteArray) : Option (Bool) :=
  sel (((a0.map cS).length : Int) != ((a1.map cS).length : Int))
   (some false)
   (M_b_Texts_L1 a0 a1 ((((a0.map cS).length : Int)).toNat + 1) 0)
set_option maxHeartbeats 16000000 in
set_option maxRecDepth 100000 in
theorem A_b_Texts (a0 : List ByteArray) (a1 : List ByteArray) {r1 : Bool} (h : M_b_Texts a0 a1 = some r1) : ACall cx 22 [.sl 1 (a0.map cS), .sl 1 (a1.map cS)] (.c (.bool r1)) := by
  refine aOf Tryd.func22 rfl (by decide) rfl (Nat.le_of_ble_eq_true rfl) ?_; intro _; unfold M_b_Texts at h; refine aSq ?_; refine aRg ?_; intro _; refine dr ?_; refine aSq ?_; refine aSq ?_; refine aRg ?_; intro _; refine dr ?_; refine aCd ?_; intro _; refine spl h (fun c1 h => ?_) (fun c1 h => ?_)
  · refine aSq ?_; refine aRg ?_; intro _; refine dr ?_; refine aRt ?_; intro _; obtain rfl := inj1 h; exact ca_0
  · refine aSk ?_; refine aSq ?_; refine aSq ?_; refine aRg ?_; intro _; refine dr ?_; refine aBk ?_; refine awp_loop (α := Nat × Int) (fun x => mkS 26 [(0, .sl 1 (a0.map cS)), (1, .sl 1 (a1.map cS)), (12, .c (.int .i64 ((a0.map cS).length : Int))), (13, .c (.int .i64 x.2))] []) (fun x => M_b_Texts_L1 a0 a1 x.1 x.2 = some r1) (fun x => x.1) ((((a0.map cS).length : Int)).toNat + 1, 0) h ?_ ?_
    · exact ca_0
    · intro x2 h; intro _; obtain ⟨k7, m3, h⟩ := succ_of (f := fun n => M_b_Texts_L1 a0 a1 n x2.2) rfl h; replace h : M_b_Texts_L1 a0 a1 (k7 + 1) x2.2 = some r1 := h; rw [M_b_Texts_L1] at h; refine aSq ?_; refine aRg ?_; intro _; refine dr ?_; refine aSq ?_; refine aCd ?_; intro _; refine spl h (fun c4 h => ?_) (fun c4 h => ?_)
      · refine aSk ?_; refine aSq ?_; refine aBk ?_; refine aSq ?_; refine aRg ?_; intro _; refine dr ?_; refine aSq ?_; refine aRg ?_; intro _; obtain ⟨y8, w5, q6, h⟩ := ix_ok h; refine Exists.intro (cS y8) (And.intro (map_at' w5) ?_); intro _; obtain ⟨y9, w7, q8, h⟩ := ix_ok h; refine Exists.intro (cS y9) (And.intro (map_at' w7) ?_); intro _; refine pr ?_; refine pr ?_; refine dr ?_; refine aCd ?_; intro _; refine spl h (fun c9 h => ?_) (fun c9 h => ?_)
        · refine aSq ?_; refine aRg ?_; intro _; refine dr ?_; refine aRt ?_; intro _; obtain rfl := inj1 h; exact ca_0
        · refine aSk ?_; refine aRg ?_; intro _; refine dr ?_; refine ⟨(k7, (IntKind.i64.wrap (x2.2 + 1))), h, ltS m3, ?_⟩; exact ca_0
      · refine aEx ?_; refine aSq ?_; refine aRg ?_; intro _; refine dr ?_; refine aRt ?_; intro _; obtain rfl := inj1 h; exact ca_0
def M_l13_awake : Option (Bool) :=
  ob3 (M_planfile_Parse (⟨#[40, 109, 111, 118, 101, 32, 97, 32, 98, 41]⟩ : ByteArray) false) (fun z1 _ z3 =>
   erM z3
    (sel (((z1.map cGStep).length : Int) == 1)
      (ix z1 0 (fun y5 =>
        sel (y5.Name.toList == (⟨#[109, 111, 118, 101]⟩ : ByteArray).toList)
         (ix z1 0 (fun y6 =>
           ob1 (M_b_Texts y6.Args [(⟨#[97]⟩ : ByteArray), (⟨#[98]⟩ : ByteArray)]) (fun z7 =>
            some z7)))
         (some false)))
      (some false))
    (fun _ => some false))
set_option maxHeartbeats 16000000 in
set_option maxRecDepth 100000 in
theorem A_l13_awake {r1 : Bool} (h : M_l13_awake = some r1) : ACall cx 10 [] (.c (.bool r1)) := by
  refine aOf Tryd.func10 rfl (by decide) rfl (Nat.le_of_ble_eq_true rfl) ?_; intro _; unfold M_l13_awake at h; refine aSq ?_; refine aRg ?_; intro _; refine dr ?_; refine aSq ?_; refine aRg ?_; intro _; obtain ⟨z1, z2, z3, u1, h⟩ := ob3_ok h; refine cl rfl (A_planfile_Parse (⟨#[40, 109, 111, 118, 101, 32, 97, 32, 98, 41]⟩ : ByteArray) false u1) ?_; intro _; refine dr ?_; refine aSq ?_; rcases z3 with _ | e4
  · replace h := erM_nil h; refine aRg ?_; intro _; refine litT ?_; intro _; refine spl h (fun c2 h => ?_) (fun c2 h => ?_)
    · intro _; obtain ⟨y5, w3, q4, h⟩ := ix_ok h; refine Exists.intro (cGStep y5) (And.intro (map_at' w3) ?_); intro _; refine spl h (fun c5 h => ?_) (fun c5 h => ?_)
      · intro _; obtain ⟨y6, w6, q7, h⟩ := ix_ok h; refine Exists.intro (cGStep y6) (And.intro (map_at' w6) ?_); intro _; obtain ⟨z7, u8, h⟩ := ob1_ok h; refine clb [28] rfl rfl (A_b_Texts y6.Args [(⟨#[97]⟩ : ByteArray), (⟨#[98]⟩ : ByteArray)] u8) ?_; intro _; refine pr ?_; refine pr ?_; refine dr ?_; refine aRt ?_; intro _; obtain rfl := inj1 h; exact ca_0
      · intro _; refine pr ?_; refine dr ?_; refine aRt ?_; intro _; obtain rfl := inj1 h; exact ca_0
    · intro _; refine dr ?_; refine aRt ?_; intro _; obtain rfl := inj1 h; exact ca_0
  · replace h := erM_no h; refine aRg ?_; intro _; refine litF ?_; intro _; refine dr ?_; refine aRt ?_; intro _; obtain rfl := inj1 h; exact ca_0
def M_r13_lines_L1 (a0 : ByteArray) : Nat → Int → Int → (List ByteArray) → Option (List ByteArray)
  | 0, _, _, _ => none
  | k11 + 1, v8, v9, v10 =>
    sel (decide (v9 ≤ (a0.size : Int)))
     (ob1 (sel (v9 == (a0.size : Int))
        (some true)
        (grd (0 ≤ v9) (grd (v9 < (a0.size : Int)) (some ((byt a0 v9) == 10)))) : Option (Bool))
       (fun v12 => sel v12
          (grd (0 ≤ v8) (grd (0 ≤ v9) (grd (v8.toNat ≤ v9.toNat) (grd (v9.toNat ≤ a0.size) (grd ((v10.length + 1) * 16 ≤ 140737488355328) (M_r13_lines_L1 a0 k11 (IntKind.i64.wrap (v9 + 1)) (IntKind.i64.wrap (v9 + 1)) (v10 ++ [(a0.extract v8.toNat v9.toNat)])))))))
          (M_r13_lines_L1 a0 k11 v8 (IntKind.i64.wrap (v9 + 1)) v10)))
     (grd (v10.length ≤ 140737488355328) (some v10))
def M_r13_lines (g : Nat) (a0 : ByteArray) : Option (List ByteArray) :=
  M_r13_lines_L1 a0 g 0 0 []
set_option maxHeartbeats 16000000 in
set_option maxRecDepth 100000 in
theorem A_r13_lines (g : Nat) (a0 : ByteArray) {r1 : List ByteArray} (h : M_r13_lines g a0 = some r1) : ACall cx 26 [.c (.string a0)] (.sl 1 (r1.map cS)) := by
  refine aOf Tryd.func26 rfl (by decide) rfl (Nat.le_of_ble_eq_true rfl) ?_; intro _; unfold M_r13_lines at h; refine aSq ?_; refine aRg ?_; intro _; refine dr ?_; refine aSq ?_; refine aRg ?_; intro _; refine dr ?_; refine aSq ?_; refine aRg ?_; intro _; refine dr ?_; refine aSq ?_; refine aSq ?_; refine aRg ?_; intro _; refine dr ?_; refine aBk ?_; refine awp_loop (α := Nat × Int × Int × (List ByteArray)) (fun x => mkS 33 [(0, .c (.string a0)), (3, .own 6 0 0 x.2.2.2.length), (4, .c (.int .i64 x.2.1)), (5, .c (.int .i64 x.2.2.1))] [(6, ⟨9, 1, false, x.2.2.2.map cS⟩)]) (fun x => M_r13_lines_L1 a0 x.1 x.2.1 x.2.2.1 x.2.2.2 = some r1) (fun x => x.1) (g, 0, 0, []) h ?_ ?_
  · exact ca_0
  · intro x1 h; intro _; obtain ⟨k11, m2, h⟩ := succ_of (f := fun n => M_r13_lines_L1 a0 n x1.2.1 x1.2.2.1 x1.2.2.2) rfl h; replace h : M_r13_lines_L1 a0 (k11 + 1) x1.2.1 x1.2.2.1 x1.2.2.2 = some r1 := h; rw [M_r13_lines_L1] at h; refine aSq ?_; refine aSq ?_; refine aRg ?_; intro _; refine dr ?_; refine aCd ?_; intro _; refine spl h (fun c3 h => ?_) (fun c3 h => ?_)
    · refine aSk ?_; refine aSq ?_; refine aBk ?_; obtain ⟨o4, h, hK5⟩ := ob1_ok h; refine awp_cut (α := Bool) (fun v12 => mkS 33 [(0, .c (.string a0)), (3, .own 6 0 0 x1.2.2.2.length), (4, .c (.int .i64 x1.2.1)), (5, .c (.int .i64 x1.2.2.1)), (22, .c (.bool v12))] [(6, ⟨9, 1, false, x1.2.2.2.map cS⟩)]) (fun v => o4 = v) ?_ ?_
      · refine aRg ?_; intro _; refine spf h (fun c6 h => ?_) (fun c6 h => ?_)
        · intro _; obtain ⟨q7, h⟩ := grd_ok h; obtain ⟨q8, h⟩ := grd_ok h; refine pr ?_; refine pr ?_; refine dr ?_; refine ⟨((byt a0 x1.2.2.1) == 10), (Option.some.inj h).symm, ?_⟩; exact ca_0
        · intro _; refine dr ?_; refine ⟨true, (Option.some.inj h).symm, ?_⟩; exact ca_0
      · rintro v12 ho; have ho := ho.symm; subst ho; intro _; replace h := hK5; refine aCd ?_; intro _; refine spl h (fun c9 h => ?_) (fun c9 h => ?_)
        · refine aSq ?_; refine aRg ?_; intro _; obtain ⟨q10, h⟩ := grd_ok h; obtain ⟨q11, h⟩ := grd_ok h; obtain ⟨q12, h⟩ := grd_ok h; obtain ⟨q13, h⟩ := grd_ok h; obtain ⟨q14, h⟩ := grd_ok h; refine pr ?_; refine pr ?_; refine pr ?_; refine pr ?_; refine pl ?_; refine pl ?_; refine And.intro (by first | with_reducible assumption | (show (x1.2.2.2.length + 1) * 16 ≤ 140737488355328; with_reducible assumption) | omega | (simp; omega)) ?_; refine pe ?_; refine dr ?_; refine aRg ?_; intro _; refine dr ?_; refine aRg ?_; intro _; refine dr ?_; refine ⟨(k11, (IntKind.i64.wrap (x1.2.2.1 + 1)), (IntKind.i64.wrap (x1.2.2.1 + 1)), (x1.2.2.2 ++ [(a0.extract x1.2.1.toNat x1.2.2.1.toNat)])), h, ltS m2, ?_⟩; exact ca_0
        · refine aSk ?_; refine aRg ?_; intro _; refine dr ?_; refine ⟨(k11, x1.2.1, (IntKind.i64.wrap (x1.2.2.1 + 1)), x1.2.2.2), h, ltS m2, ?_⟩; exact ca_0
    · refine aEx ?_; refine aSq ?_; refine aRg ?_; intro _; refine dr ?_; refine aRt ?_; obtain ⟨q15, h⟩ := grd_ok h; intro _; obtain rfl := inj1 h; exact ca_0
def M_r13_blank (a0 : Int) : Option (Bool) :=
  sel (a0 == 32)
   (some true)
   (sel (a0 == 9)
     (some true)
     (some (a0 == 13)))
set_option maxHeartbeats 16000000 in
set_option maxRecDepth 100000 in
theorem A_r13_blank (a0 : Int) {r1 : Bool} (h : M_r13_blank a0 = some r1) : ACall cx 56 [.c (.int .u8 a0)] (.c (.bool r1)) := by
  refine aOf Tryd.func56 rfl (by decide) rfl (Nat.le_of_ble_eq_true rfl) ?_; intro _; unfold M_r13_blank at h; refine aSq ?_; refine aRg ?_; intro _; refine dr ?_; refine aSq ?_; refine aRg ?_; intro _; refine spf h (fun c1 h => ?_) (fun c1 h => ?_)
  · intro _; refine spf h (fun c2 h => ?_) (fun c2 h => ?_)
    · intro _; refine dr ?_; refine aRt ?_; intro _; obtain rfl := inj1 h; exact ca_0
    · intro _; refine dr ?_; refine aRt ?_; intro _; obtain rfl := inj1 h; exact ca_0
  · intro _; refine dr ?_; refine aRt ?_; intro _; obtain rfl := inj1 h; exact ca_0
def M_r13_trim_L1 (a0 : ByteArray) : Nat → Int → Option (Int)
  | 0, _ => none
  | k13 + 1, v12 =>
    sel (decide (v12 < (a0.size : Int)))
     (ob1 (M_r13_blank (byt a0 v12)) (fun z14 =>
       grd (0 ≤ v12) (grd (v12 < (a0.size : Int)) (sel z14
        (M_r13_trim_L1 a0 k13 (IntKind.i64.wrap (v12 + 1)))
        (some v12)))))
     (some v12)
def M_r13_trim_L2 (a0 : ByteArray) (v7 : Int) : Nat → Int → Option (ByteArray)
  | 0, _ => none
  | k19 + 1, v18 =>
    sel (decide (v7 < v18))
     (ob1 (M_r13_blank (byt a0 (IntKind.i64.wrap (v18 - 1)))) (fun z20 =>
       grd (0 ≤ (IntKind.i64.wrap (v18 - 1))) (grd ((IntKind.i64.wrap (v18 - 1)) < (a0.size : Int)) (sel z20
        (M_r13_trim_L2 a0 v7 k19 (IntKind.i64.wrap (v18 - 1)))
        (grd (0 ≤ v7) (grd (0 ≤ v18) (grd (v7.toNat ≤ v18.toNat) (grd (v18.toNat ≤ a0.size) (some (a0.extract v7.toNat v18.toNat))))))))))
     (grd (0 ≤ v7) (grd (0 ≤ v18) (grd (v7.toNat ≤ v18.toNat) (grd (v18.toNat ≤ a0.size) (some (a0.extract v7.toNat v18.toNat))))))
def M_r13_trim (g : Nat) (a0 : ByteArray) : Option (ByteArray) :=
  ob1 (M_r13_trim_L1 a0 g 0 : Option (Int))
   (fun v7 => M_r13_trim_L2 a0 v7 g (a0.size : Int))
set_option maxHeartbeats 16000000 in
set_option maxRecDepth 100000 in
theorem A_r13_trim (g : Nat) (a0 : ByteArray) {r1 : ByteArray} (h : M_r13_trim g a0 = some r1) : ACall cx 27 [.c (.string a0)] (.c (.string r1)) := by
  refine aOf Tryd.func27 rfl (by decide) rfl (Nat.le_of_ble_eq_true rfl) ?_; intro _; unfold M_r13_trim at h; refine aSq ?_; refine aRg ?_; intro _; refine dr ?_; refine aSq ?_; refine aRg ?_; intro _; refine dr ?_; obtain ⟨o1, h, hK2⟩ := ob1_ok h; refine awp_cut (α := Int) (fun v7 => mkS 34 [(0, .c (.string a0)), (3, .c (.int .i64 v7)), (4, .c (.int .i64 (a0.size : Int)))] []) (fun v => o1 = v) ?_ ?_
  · refine aBk ?_; refine awp_loop (α := Nat × Int) (fun x => mkS 34 [(0, .c (.string a0)), (3, .c (.int .i64 x.2)), (4, .c (.int .i64 (a0.size : Int)))] []) (fun x => M_r13_trim_L1 a0 x.1 x.2 = some o1) (fun x => x.1) (g, 0) h ?_ ?_
    · exact ca_0
    · intro x3 h; intro _; obtain ⟨k13, m4, h⟩ := succ_of (f := fun n => M_r13_trim_L1 a0 n x3.2) rfl h; replace h : M_r13_trim_L1 a0 (k13 + 1) x3.2 = some o1 := h; rw [M_r13_trim_L1] at h; refine aSq ?_; refine aSq ?_; refine aRg ?_; intro _; refine spl h (fun c5 h => ?_) (fun c5 h => ?_)
      · intro _; obtain ⟨z14, u6, h⟩ := ob1_ok h; refine cl rfl (A_r13_blank (byt a0 x3.2) u6) ?_; intro _; obtain ⟨q7, h⟩ := grd_ok h; obtain ⟨q8, h⟩ := grd_ok h; refine pr ?_; refine pr ?_; refine dr ?_; refine aCd ?_; intro _; refine spl h (fun c9 h => ?_) (fun c9 h => ?_)
        · refine aSk ?_; refine aBk ?_; refine aRg ?_; intro _; refine dr ?_; refine ⟨(k13, (IntKind.i64.wrap (x3.2 + 1))), h, ltS m4, ?_⟩; exact ca_0
        · refine aEx ?_; refine ⟨x3.2, (Option.some.inj h).symm, ?_⟩; exact ca_0
      · intro _; refine dr ?_; refine aCd ?_; intro _; refine litF ?_; refine aEx ?_; refine ⟨x3.2, (Option.some.inj h).symm, ?_⟩; exact ca_0
  · rintro v7 ho; have ho := ho.symm; subst ho; intro _; replace h := hK2; refine aSq ?_; refine aBk ?_; refine awp_loop (α := Nat × Int) (fun x => mkS 34 [(0, .c (.string a0)), (3, .c (.int .i64 v7)), (4, .c (.int .i64 x.2))] []) (fun x => M_r13_trim_L2 a0 v7 x.1 x.2 = some r1) (fun x => x.1) (g, (a0.size : Int)) h ?_ ?_
    · exact ca_0
    · intro x10 h; intro _; obtain ⟨k19, m11, h⟩ := succ_of (f := fun n => M_r13_trim_L2 a0 v7 n x10.2) rfl h; replace h : M_r13_trim_L2 a0 v7 (k19 + 1) x10.2 = some r1 := h; rw [M_r13_trim_L2] at h; refine aSq ?_; refine aSq ?_; refine aRg ?_; intro _; refine spl h (fun c12 h => ?_) (fun c12 h => ?_)
      · intro _; obtain ⟨z20, u13, h⟩ := ob1_ok h; refine cl rfl (A_r13_blank (byt a0 (IntKind.i64.wrap (x10.2 - 1))) u13) ?_; intro _; obtain ⟨q14, h⟩ := grd_ok h; obtain ⟨q15, h⟩ := grd_ok h; refine pr ?_; refine pr ?_; refine dr ?_; refine aCd ?_; intro _; refine spl h (fun c16 h => ?_) (fun c16 h => ?_)
        · refine aSk ?_; refine aBk ?_; refine aRg ?_; intro _; refine dr ?_; refine ⟨(k19, (IntKind.i64.wrap (x10.2 - 1))), h, ltS m11, ?_⟩; exact ca_0
        · refine aEx ?_; refine aSq ?_; refine aRg ?_; intro _; obtain ⟨q17, h⟩ := grd_ok h; obtain ⟨q18, h⟩ := grd_ok h; obtain ⟨q19, h⟩ := grd_ok h; obtain ⟨q20, h⟩ := grd_ok h; refine pr ?_; refine pr ?_; refine pr ?_; refine pr ?_; refine dr ?_; refine aRt ?_; intro _; obtain rfl := inj1 h; exact ca_0
      · intro _; refine dr ?_; refine aCd ?_; intro _; refine litF ?_; refine aEx ?_; refine aSq ?_; refine aRg ?_; intro _; obtain ⟨q21, h⟩ := grd_ok h; obtain ⟨q22, h⟩ := grd_ok h; obtain ⟨q23, h⟩ := grd_ok h; obtain ⟨q24, h⟩ := grd_ok h; refine pr ?_; refine pr ?_; refine pr ?_; refine pr ?_; refine dr ?_; refine aRt ?_; intro _; obtain rfl := inj1 h; exact ca_0
def M_r13_time_L1 (a0 : ByteArray) : Nat → Int → Int → Option (Int × Bool)
  | 0, _, _ => none
  | k5 + 1, v3, v4 =>
    sel (decide (v4 < (a0.size : Int)))
     (sel (decide ((byt a0 v4) < 48))
       (grd (0 ≤ v4) (grd (v4 < (a0.size : Int)) (some (0, false))))
       (sel (decide ((byt a0 v4) > 57))
         (grd (0 ≤ v4) (grd (v4 < (a0.size : Int)) (some (0, false))))
         (grd (0 ≤ v4) (grd (v4 < (a0.size : Int)) (sel (v4 == 9)
           (some (0, false))
           (M_r13_time_L1 a0 k5 (IntKind.i64.wrap ((IntKind.i64.wrap (10 * v3)) + (IntKind.i64.wrap (IntKind.u8.wrap ((byt a0 v4) - 48))))) (IntKind.i64.wrap (v4 + 1))))))))
     (some (v3, (!(a0.toList == (⟨#[]⟩ : ByteArray).toList))))
def M_r13_time (a0 : ByteArray) : Option (Int × Bool) :=
  M_r13_time_L1 a0 (((a0.size : Int)).toNat + 1) 0 0
set_option maxHeartbeats 16000000 in
set_option maxRecDepth 100000 in
theorem A_r13_time (a0 : ByteArray) {r1 : Int} {r2 : Bool} (h : M_r13_time a0 = some (r1, r2)) : ACall cx 57 [.c (.string a0)] (.tup [.c (.int .i64 r1), .c (.bool r2)]) := by
  refine aOf Tryd.func57 rfl (by decide) rfl (Nat.le_of_ble_eq_true rfl) ?_; intro _; unfold M_r13_time at h; refine aSq ?_; refine aRg ?_; intro _; refine dr ?_; refine aSq ?_; refine aRg ?_; intro _; refine dr ?_; refine aSq ?_; refine aSq ?_; refine aRg ?_; intro _; refine dr ?_; refine aBk ?_; refine awp_loop (α := Nat × Int × Int) (fun x => mkS 37 [(0, .c (.string a0)), (4, .c (.int .i64 x.2.1)), (7, .c (.int .i64 (a0.size : Int))), (8, .c (.int .i64 x.2.2))] []) (fun x => M_r13_time_L1 a0 x.1 x.2.1 x.2.2 = some (r1, r2)) (fun x => x.1) (((a0.size : Int)).toNat + 1, 0, 0) h ?_ ?_
  · exact ca_0
  · intro x1 h; intro _; obtain ⟨k5, m2, h⟩ := succ_of (f := fun n => M_r13_time_L1 a0 n x1.2.1 x1.2.2) rfl h; replace h : M_r13_time_L1 a0 (k5 + 1) x1.2.1 x1.2.2 = some (r1, r2) := h; rw [M_r13_time_L1] at h; refine aSq ?_; refine aRg ?_; intro _; refine dr ?_; refine aSq ?_; refine aCd ?_; intro _; refine spl h (fun c3 h => ?_) (fun c3 h => ?_)
    · refine aSk ?_; refine aSq ?_; refine aBk ?_; refine aSq ?_; refine aRg ?_; intro _; refine dr ?_; refine aSq ?_; refine aSq ?_; refine aRg ?_; intro _; refine spf h (fun c4 h => ?_) (fun c4 h => ?_)
      · intro _; refine spf h (fun c5 h => ?_) (fun c5 h => ?_)
        · intro _; obtain ⟨q6, h⟩ := grd_ok h; obtain ⟨q7, h⟩ := grd_ok h; refine pr ?_; refine pr ?_; refine pr ?_; refine pr ?_; refine dr ?_; refine aCd ?_; intro _; refine spl h (fun c8 h => ?_) (fun c8 h => ?_)
          · refine aSq ?_; refine aRg ?_; intro _; refine dr ?_; refine aRt ?_; intro _; obtain ⟨rfl, rfl⟩ := inj2 h; exact ca_0
          · refine aSk ?_; refine aRg ?_; intro _; refine pr ?_; refine pr ?_; refine dr ?_; refine aRg ?_; intro _; refine dr ?_; refine ⟨(k5, (IntKind.i64.wrap ((IntKind.i64.wrap (10 * x1.2.1)) + (IntKind.i64.wrap (IntKind.u8.wrap ((byt a0 x1.2.2) - 48))))), (IntKind.i64.wrap (x1.2.2 + 1))), h, ltS m2, ?_⟩; exact ca_0
        · intro _; obtain ⟨q9, h⟩ := grd_ok h; obtain ⟨q10, h⟩ := grd_ok h; refine pr ?_; refine pr ?_; refine pr ?_; refine pr ?_; refine dr ?_; refine aCd ?_; intro _; refine litT ?_; refine aSq ?_; refine aRg ?_; intro _; refine dr ?_; refine aRt ?_; intro _; obtain ⟨rfl, rfl⟩ := inj2 h; exact ca_0
      · intro _; obtain ⟨q11, h⟩ := grd_ok h; obtain ⟨q12, h⟩ := grd_ok h; refine pr ?_; refine pr ?_; refine dr ?_; refine aCd ?_; intro _; refine litT ?_; refine aSq ?_; refine aRg ?_; intro _; refine dr ?_; refine aRt ?_; intro _; obtain ⟨rfl, rfl⟩ := inj2 h; exact ca_0
    · refine aEx ?_; refine aSq ?_; refine aRg ?_; intro _; refine dr ?_; refine aRt ?_; intro _; obtain ⟨rfl, rfl⟩ := inj2 h; exact ca_0
def M_r13_words_L1 (a0 : ByteArray) : Nat → Int → Int → (List ByteArray) → Option ((List ByteArray) × Bool)
  | 0, _, _, _ => none
  | k30 + 1, v27, v28, v29 =>
    sel (decide (v28 ≤ (a0.size : Int)))
     (ob1 (ob1 (sel (decide (v28 < (a0.size : Int)))
         (sel ((byt a0 v28) != 32)
           (grd (0 ≤ v28) (grd (v28 < (a0.size : Int)) (some ((byt a0 v28) != 9))))
           (grd (0 ≤ v28) (grd (v28 < (a0.size : Int)) (some false))))
         (some false) : Option (Bool))
        (fun v36 => sel v36
           (sel (decide ((byt a0 v28) < 32))
             (grd (0 ≤ v28) (grd (v28 < (a0.size : Int)) (some (.inr (.inl ([], false))))))
             (sel ((byt a0 v28) == 127)
               (grd (0 ≤ v28) (grd (v28 < (a0.size : Int)) (some (.inr (.inl ([], false))))))
               (sel ((byt a0 v28) == 40)
                 (grd (0 ≤ v28) (grd (v28 < (a0.size : Int)) (some (.inr (.inl ([], false))))))
                 (grd (0 ≤ v28) (grd (v28 < (a0.size : Int)) (sel ((byt a0 v28) == 41)
                   (some (.inr (.inl ([], false))))
                   (some (.inr (.inr ())))))))))
           (some (.inl ()))) : Option (Unit ⊕ (((List ByteArray) × Bool) ⊕ Unit)))
       (osum
       (fun _ => sel (decide (v28 > v27))
          (grd (0 ≤ v27) (grd (0 ≤ v28) (grd (v27.toNat ≤ v28.toNat) (grd (v28.toNat ≤ a0.size) (grd ((v29.length + 1) * 16 ≤ 140737488355328) (M_r13_words_L1 a0 k30 (IntKind.i64.wrap (v28 + 1)) (IntKind.i64.wrap (v28 + 1)) (v29 ++ [(a0.extract v27.toNat v28.toNat)])))))))
          (M_r13_words_L1 a0 k30 (IntKind.i64.wrap (v28 + 1)) (IntKind.i64.wrap (v28 + 1)) v29))
       (osum
        (fun (r33, r34) => some (r33, r34))
        (fun _ => M_r13_words_L1 a0 k30 v27 (IntKind.i64.wrap (v28 + 1)) v29))))
     (some (v29, true))
def M_r13_words (g : Nat) (a0 : ByteArray) : Option ((List ByteArray) × Bool) :=
  M_r13_words_L1 a0 g 0 0 []
set_option maxHeartbeats 16000000 in
set_option maxRecDepth 100000 in
theorem A_r13_words (g : Nat) (a0 : ByteArray) {r1 : List ByteArray} {r2 : Bool} (h : M_r13_words g a0 = some (r1, r2)) : ACallG cx 58 [.c (.string a0)] [] [] (.tup [.own 0 0 0 r1.length, .c (.bool r2)]) [(0, ⟨9, 1, false, r1.map cS⟩)] := by
  refine acallg_of 65 Tryd.func58 rfl (by decide) rfl (Nat.le_of_ble_eq_true rfl) rfl rfl ?_; intro _; unfold M_r13_words at h; refine aSq ?_; refine aRg ?_; intro _; refine dr ?_; refine aSq ?_; refine aRg ?_; intro _; refine dr ?_; refine aSq ?_; refine aRg ?_; intro _; refine dr ?_; refine aSq ?_; refine aSq ?_; refine aRg ?_; intro _; refine dr ?_; refine aBk ?_; refine awp_loop (α := Nat × Int × Int × (List ByteArray)) (fun x => mkG 64 65 [(0, .c (.string a0)), (4, .own 60 0 0 x.2.2.2.length), (5, .c (.int .i64 x.2.1)), (6, .c (.int .i64 x.2.2.1))] [(60, ⟨9, 1, false, x.2.2.2.map cS⟩)]) (fun x => M_r13_words_L1 a0 x.1 x.2.1 x.2.2.1 x.2.2.2 = some (r1, r2)) (fun x => x.1) (g, 0, 0, []) h ?_ ?_
  · exact ca_0
  · intro x1 h; intro _; obtain ⟨k30, m2, h⟩ := succ_of (f := fun n => M_r13_words_L1 a0 n x1.2.1 x1.2.2.1 x1.2.2.2) rfl h; replace h : M_r13_words_L1 a0 (k30 + 1) x1.2.1 x1.2.2.1 x1.2.2.2 = some (r1, r2) := h; rw [M_r13_words_L1] at h; refine aSq ?_; refine aSq ?_; refine aRg ?_; intro _; refine dr ?_; refine aCd ?_; intro _; refine spl h (fun c3 h => ?_) (fun c3 h => ?_)
    · refine aSk ?_; refine aSq ?_; refine aBk ?_; obtain ⟨o4, h, hK5⟩ := ob1_ok h; refine awp_cut (α := Unit) (fun _ => mkG 64 65 [(0, .c (.string a0)), (4, .own 60 0 0 x1.2.2.2.length), (5, .c (.int .i64 x1.2.1)), (6, .c (.int .i64 x1.2.2.1))] [(60, ⟨9, 1, false, x1.2.2.2.map cS⟩)]) (fun v => o4 = (.inl v)) ?_ ?_
      · obtain ⟨o6, h, hK7⟩ := ob1_ok h; refine awp_cut (α := Bool) (fun v36 => mkG 64 65 [(0, .c (.string a0)), (4, .own 60 0 0 x1.2.2.2.length), (5, .c (.int .i64 x1.2.1)), (6, .c (.int .i64 x1.2.2.1)), (28, .c (.bool v36))] [(60, ⟨9, 1, false, x1.2.2.2.map cS⟩)]) (fun v => o6 = v) ?_ ?_
        · refine aRg ?_; intro _; refine spl h (fun c8 h => ?_) (fun c8 h => ?_)
          · intro _; refine spl h (fun c9 h => ?_) (fun c9 h => ?_)
            · intro _; obtain ⟨q10, h⟩ := grd_ok h; obtain ⟨q11, h⟩ := grd_ok h; refine pr ?_; refine pr ?_; refine pr ?_; refine pr ?_; refine dr ?_; refine ⟨((byt a0 x1.2.2.1) != 9), (Option.some.inj h).symm, ?_⟩; exact ca_0
            · intro _; obtain ⟨q12, h⟩ := grd_ok h; obtain ⟨q13, h⟩ := grd_ok h; refine pr ?_; refine pr ?_; refine dr ?_; refine ⟨false, (Option.some.inj h).symm, ?_⟩; exact ca_0
          · intro _; refine dr ?_; refine ⟨false, (Option.some.inj h).symm, ?_⟩; exact ca_0
        · rintro v36 ho; have ho := ho.symm; subst ho; intro _; replace h := hK7; refine aCd ?_; intro _; refine spl h (fun c14 h => ?_) (fun c14 h => ?_)
          · refine aSq ?_; refine aSq ?_; refine aRg ?_; intro _; refine spf h (fun c15 h => ?_) (fun c15 h => ?_)
            · intro _; refine spf h (fun c16 h => ?_) (fun c16 h => ?_)
              · intro _; refine spf h (fun c17 h => ?_) (fun c17 h => ?_)
                · intro _; obtain ⟨q18, h⟩ := grd_ok h; obtain ⟨q19, h⟩ := grd_ok h; refine pr ?_; refine pr ?_; refine pr ?_; refine pr ?_; refine pr ?_; refine pr ?_; refine pr ?_; refine pr ?_; refine dr ?_; refine aCd ?_; intro _; refine spl h (fun c20 h => ?_) (fun c20 h => ?_)
                  · refine aSq ?_; refine aRg ?_; intro _; refine dr ?_; refine aRt ?_; have j21 := Option.some.inj h; subst j21; replace h := (osum_l (osum_r hK5)); intro _; obtain ⟨rfl, rfl⟩ := inj2 h; all_goals (refine Exists.intro [(0, 9000)] (And.intro rfl (And.intro ?_ ?_))); all_goals (exact zg_0)
                  · refine aSk ?_; refine aEx ?_; have j22 := Option.some.inj h; subst j22; replace h := (osum_r (osum_r hK5)); refine aRg ?_; intro _; refine dr ?_; refine ⟨(k30, x1.2.1, (IntKind.i64.wrap (x1.2.2.1 + 1)), x1.2.2.2), h, ltS m2, ?_⟩; exact ca_0
                · intro _; obtain ⟨q23, h⟩ := grd_ok h; obtain ⟨q24, h⟩ := grd_ok h; refine pr ?_; refine pr ?_; refine pr ?_; refine pr ?_; refine pr ?_; refine pr ?_; refine dr ?_; refine aCd ?_; intro _; refine litT ?_; refine aSq ?_; refine aRg ?_; intro _; refine dr ?_; refine aRt ?_; have j25 := Option.some.inj h; subst j25; replace h := (osum_l (osum_r hK5)); intro _; obtain ⟨rfl, rfl⟩ := inj2 h; all_goals (refine Exists.intro [(0, 9000)] (And.intro rfl (And.intro ?_ ?_))); all_goals (exact zg_0)
              · intro _; obtain ⟨q26, h⟩ := grd_ok h; obtain ⟨q27, h⟩ := grd_ok h; refine pr ?_; refine pr ?_; refine pr ?_; refine pr ?_; refine dr ?_; refine aCd ?_; intro _; refine litT ?_; refine aSq ?_; refine aRg ?_; intro _; refine dr ?_; refine aRt ?_; have j28 := Option.some.inj h; subst j28; replace h := (osum_l (osum_r hK5)); intro _; obtain ⟨rfl, rfl⟩ := inj2 h; all_goals (refine Exists.intro [(0, 9000)] (And.intro rfl (And.intro ?_ ?_))); all_goals (exact zg_0)
            · intro _; obtain ⟨q29, h⟩ := grd_ok h; obtain ⟨q30, h⟩ := grd_ok h; refine pr ?_; refine pr ?_; refine dr ?_; refine aCd ?_; intro _; refine litT ?_; refine aSq ?_; refine aRg ?_; intro _; refine dr ?_; refine aRt ?_; have j31 := Option.some.inj h; subst j31; replace h := (osum_l (osum_r hK5)); intro _; obtain ⟨rfl, rfl⟩ := inj2 h; all_goals (refine Exists.intro [(0, 9000)] (And.intro rfl (And.intro ?_ ?_))); all_goals (exact zg_0)
          · refine aSk ?_; refine ⟨(), (Option.some.inj h).symm, ?_⟩; exact ca_0
      · rintro _ ho; have ho := ho.symm; subst ho; intro _; replace h := (osum_l hK5); refine aSq ?_; refine aSq ?_; refine aRg ?_; intro _; refine dr ?_; refine aCd ?_; intro _; refine spl h (fun c32 h => ?_) (fun c32 h => ?_)
        · refine aRg ?_; intro _; obtain ⟨q33, h⟩ := grd_ok h; obtain ⟨q34, h⟩ := grd_ok h; obtain ⟨q35, h⟩ := grd_ok h; obtain ⟨q36, h⟩ := grd_ok h; obtain ⟨q37, h⟩ := grd_ok h; refine pr ?_; refine pr ?_; refine pr ?_; refine pr ?_; refine pl ?_; refine pl ?_; refine And.intro (by first | with_reducible assumption | (show (x1.2.2.2.length + 1) * 16 ≤ 140737488355328; with_reducible assumption) | omega | (simp; omega)) ?_; refine pe ?_; refine dr ?_; refine aRg ?_; intro _; refine dr ?_; refine aRg ?_; intro _; refine dr ?_; refine ⟨(k30, (IntKind.i64.wrap (x1.2.2.1 + 1)), (IntKind.i64.wrap (x1.2.2.1 + 1)), (x1.2.2.2 ++ [(a0.extract x1.2.1.toNat x1.2.2.1.toNat)])), h, ltS m2, ?_⟩; exact ca_0
        · refine aSk ?_; refine aRg ?_; intro _; refine dr ?_; refine aRg ?_; intro _; refine dr ?_; refine ⟨(k30, (IntKind.i64.wrap (x1.2.2.1 + 1)), (IntKind.i64.wrap (x1.2.2.1 + 1)), x1.2.2.2), h, ltS m2, ?_⟩; exact ca_0
    · refine aEx ?_; refine aSq ?_; refine aRg ?_; intro _; refine dr ?_; refine aRt ?_; intro _; obtain ⟨rfl, rfl⟩ := inj2 h; all_goals (refine Exists.intro [(0, 60)] (And.intro rfl (And.intro ?_ ?_))); all_goals (exact zg_0)
def M_r07_Reserved_L1 (a0 : ByteArray) : Nat → Int → Option (Bool)
  | 0, _ => none
  | k5 + 1, v4 =>
    sel (decide (v4 < ((11 : Nat) : Int)))
     (ixn [(⟨#[97, 110, 100]⟩ : ByteArray), (⟨#[111, 114]⟩ : ByteArray), (⟨#[110, 111, 116]⟩ : ByteArray), (⟨#[105, 109, 112, 108, 121]⟩ : ByteArray), (⟨#[102, 111, 114, 97, 108, 108]⟩ : ByteArray), (⟨#[101, 120, 105, 115, 116, 115]⟩ : ByteArray), (⟨#[119, 104, 101, 110]⟩ : ByteArray), (⟨#[97, 115, 115, 105, 103, 110]⟩ : ByteArray), (⟨#[105, 110, 99, 114, 101, 97, 115, 101]⟩ : ByteArray), (⟨#[100, 101, 99, 114, 101, 97, 115, 101]⟩ : ByteArray), (⟨#[111, 98, 106, 101, 99, 116]⟩ : ByteArray)] ((v4).toNat) (fun y6 =>
       grd (0 ≤ v4) (grd (v4 < ((11 : Nat) : Int)) (sel (y6.toList == a0.toList)
        (some true)
        (M_r07_Reserved_L1 a0 k5 (IntKind.i64.wrap (v4 + 1)))))))
     (some false)
def M_r07_Reserved (g : Nat) (a0 : ByteArray) : Option (Bool) :=
  M_r07_Reserved_L1 a0 g 0
set_option maxHeartbeats 16000000 in
set_option maxRecDepth 100000 in
theorem A_r07_Reserved (g : Nat) (a0 : ByteArray) {r1 : Bool} (h : M_r07_Reserved g a0 = some r1) : ACall cx 66 [.c (.string a0)] (.c (.bool r1)) := by
  refine aOf Tryd.func66 rfl (by decide) rfl (Nat.le_of_ble_eq_true rfl) ?_; intro _; unfold M_r07_Reserved at h; refine aSq ?_; refine aRg ?_; intro _; refine dr ?_; refine aSq ?_; refine aRg ?_; intro _; refine dr ?_; refine aSq ?_; refine aSq ?_; refine aRg ?_; intro _; refine dr ?_; refine aBk ?_; refine awp_loop (α := Nat × Int) (fun x => mkS 18 [(0, .c (.string a0)), (3, .own 5 0 0 11), (4, .c (.int .i64 x.2))] [(5, ⟨9, 1, false, [(⟨#[97, 110, 100]⟩ : ByteArray), (⟨#[111, 114]⟩ : ByteArray), (⟨#[110, 111, 116]⟩ : ByteArray), (⟨#[105, 109, 112, 108, 121]⟩ : ByteArray), (⟨#[102, 111, 114, 97, 108, 108]⟩ : ByteArray), (⟨#[101, 120, 105, 115, 116, 115]⟩ : ByteArray), (⟨#[119, 104, 101, 110]⟩ : ByteArray), (⟨#[97, 115, 115, 105, 103, 110]⟩ : ByteArray), (⟨#[105, 110, 99, 114, 101, 97, 115, 101]⟩ : ByteArray), (⟨#[100, 101, 99, 114, 101, 97, 115, 101]⟩ : ByteArray), (⟨#[111, 98, 106, 101, 99, 116]⟩ : ByteArray)].map cS⟩)]) (fun x => M_r07_Reserved_L1 a0 x.1 x.2 = some r1) (fun x => x.1) (g, 0) h ?_ ?_
  · exact ca_0
  · intro x1 h; intro _; obtain ⟨k5, m2, h⟩ := succ_of (f := fun n => M_r07_Reserved_L1 a0 n x1.2) rfl h; replace h : M_r07_Reserved_L1 a0 (k5 + 1) x1.2 = some r1 := h; rw [M_r07_Reserved_L1] at h; refine aSq ?_; refine aSq ?_; refine aRg ?_; intro _; refine dr ?_; refine aCd ?_; intro _; refine spl h (fun c3 h => ?_) (fun c3 h => ?_)
    · refine aSk ?_; refine aSq ?_; refine aBk ?_; refine aSq ?_; refine aRg ?_; intro _; obtain ⟨y6, w4, h⟩ := ixn_ok h; refine Exists.intro (cS y6) (And.intro (by first | exact map_at' w4 | (have w := map_at' (f := cS) w4; simpa [cS] using w)) ?_); intro _; obtain ⟨q5, h⟩ := grd_ok h; obtain ⟨q6, h⟩ := grd_ok h; refine pr ?_; refine pr ?_; refine dr ?_; refine aCd ?_; intro _; refine spl h (fun c7 h => ?_) (fun c7 h => ?_)
      · refine aSq ?_; refine aRg ?_; intro _; refine dr ?_; refine aRt ?_; intro _; obtain rfl := inj1 h; exact ca_0
      · refine aSk ?_; refine aRg ?_; intro _; refine dr ?_; refine ⟨(k5, (IntKind.i64.wrap (x1.2 + 1))), h, ltS m2, ?_⟩; exact ca_0
    · refine aEx ?_; refine aSq ?_; refine aRg ?_; intro _; refine dr ?_; refine aRt ?_; intro _; obtain rfl := inj1 h; exact ca_0
def M_r07_Name_L1 (a0 : ByteArray) : Nat → Int → Option (Bool)
  | 0, _ => none
  | k7 + 1, v6 =>
    sel (decide (v6 < (a0.size : Int)))
     (grd (0 ≤ v6) (grd (v6 < (a0.size : Int)) (sel (decide ((byt a0 v6) < 97))
       (sel (decide ((byt a0 v6) < 48))
         (sel ((byt a0 v6) != 45)
           (sel ((byt a0 v6) != 95)
             (some false)
             (M_r07_Name_L1 a0 k7 (IntKind.i64.wrap (v6 + 1))))
           (M_r07_Name_L1 a0 k7 (IntKind.i64.wrap (v6 + 1))))
         (sel (decide ((byt a0 v6) > 57))
           (sel ((byt a0 v6) != 45)
             (sel ((byt a0 v6) != 95)
               (some false)
               (M_r07_Name_L1 a0 k7 (IntKind.i64.wrap (v6 + 1))))
             (M_r07_Name_L1 a0 k7 (IntKind.i64.wrap (v6 + 1))))
           (M_r07_Name_L1 a0 k7 (IntKind.i64.wrap (v6 + 1)))))
       (sel (decide ((byt a0 v6) > 122))
         (sel (decide ((byt a0 v6) < 48))
           (sel ((byt a0 v6) != 45)
             (sel ((byt a0 v6) != 95)
               (some false)
               (M_r07_Name_L1 a0 k7 (IntKind.i64.wrap (v6 + 1))))
             (M_r07_Name_L1 a0 k7 (IntKind.i64.wrap (v6 + 1))))
           (sel (decide ((byt a0 v6) > 57))
             (sel ((byt a0 v6) != 45)
               (sel ((byt a0 v6) != 95)
                 (some false)
                 (M_r07_Name_L1 a0 k7 (IntKind.i64.wrap (v6 + 1))))
               (M_r07_Name_L1 a0 k7 (IntKind.i64.wrap (v6 + 1))))
             (M_r07_Name_L1 a0 k7 (IntKind.i64.wrap (v6 + 1)))))
         (M_r07_Name_L1 a0 k7 (IntKind.i64.wrap (v6 + 1)))))))
     (some true)
def M_r07_Name (g : Nat) (a0 : ByteArray) : Option (Bool) :=
  ob1 (sel (decide ((a0.size : Int) < 1))
    (some (.inr false))
    (sel (decide ((a0.size : Int) > 32))
      (some (.inr false))
      (sel (decide ((byt a0 0) < 97))
        (grd (0 < (a0.size : Int)) (some (.inr false)))
        (sel (decide ((byt a0 0) > 122))
          (grd (0 < (a0.size : Int)) (some (.inr false)))
          (ob1 (M_r07_Reserved g a0) (fun z4 =>
            grd (0 < (a0.size : Int)) (sel z4
             (some (.inr false))
             (some (.inl ())))))))) : Option (Unit ⊕ Bool))
   (osum
   (fun _ => M_r07_Name_L1 a0 g 0)
   (fun r2 => some r2))
set_option maxHeartbeats 16000000 in
set_option maxRecDepth 100000 in
theorem A_r07_Name (g : Nat) (a0 : ByteArray) {r1 : Bool} (h : M_r07_Name g a0 = some r1) : ACall cx 42 [.c (.string a0)] (.c (.bool r1)) := by
  refine aOf Tryd.func42 rfl (by decide) rfl (Nat.le_of_ble_eq_true rfl) ?_; intro _; unfold M_r07_Name at h; refine aSq ?_; refine aRg ?_; intro _; refine dr ?_; obtain ⟨o1, h, hK2⟩ := ob1_ok h; refine awp_cut (α := Unit) (fun _ => mkS 58 [(0, .c (.string a0))] []) (fun v => o1 = (.inl v)) ?_ ?_
  · refine aSq ?_; refine aRg ?_; intro _; refine spf h (fun c3 h => ?_) (fun c3 h => ?_)
    · intro _; refine spf h (fun c4 h => ?_) (fun c4 h => ?_)
      · intro _; refine spf h (fun c5 h => ?_) (fun c5 h => ?_)
        · intro _; refine spf h (fun c6 h => ?_) (fun c6 h => ?_)
          · intro _; obtain ⟨z4, u7, h⟩ := ob1_ok h; refine cl rfl (A_r07_Reserved g a0 u7) ?_; intro _; obtain ⟨q8, h⟩ := grd_ok h; refine pr ?_; refine pr ?_; refine pr ?_; refine pr ?_; refine dr ?_; refine aCd ?_; intro _; refine spl h (fun c9 h => ?_) (fun c9 h => ?_)
            · refine aSq ?_; refine aRg ?_; intro _; refine dr ?_; refine aRt ?_; have j10 := Option.some.inj h; subst j10; replace h := (osum_r hK2); intro _; obtain rfl := inj1 h; exact ca_0
            · refine aSk ?_; refine ⟨(), (Option.some.inj h).symm, ?_⟩; exact ca_0
          · intro _; obtain ⟨q11, h⟩ := grd_ok h; refine pr ?_; refine pr ?_; refine pr ?_; refine pr ?_; refine dr ?_; refine aCd ?_; intro _; refine litT ?_; refine aSq ?_; refine aRg ?_; intro _; refine dr ?_; refine aRt ?_; have j12 := Option.some.inj h; subst j12; replace h := (osum_r hK2); intro _; obtain rfl := inj1 h; exact ca_0
        · intro _; obtain ⟨q13, h⟩ := grd_ok h; refine pr ?_; refine pr ?_; refine dr ?_; refine aCd ?_; intro _; refine litT ?_; refine aSq ?_; refine aRg ?_; intro _; refine dr ?_; refine aRt ?_; have j14 := Option.some.inj h; subst j14; replace h := (osum_r hK2); intro _; obtain rfl := inj1 h; exact ca_0
      · intro _; refine dr ?_; refine aCd ?_; intro _; refine litT ?_; refine aSq ?_; refine aRg ?_; intro _; refine dr ?_; refine aRt ?_; have j15 := Option.some.inj h; subst j15; replace h := (osum_r hK2); intro _; obtain rfl := inj1 h; exact ca_0
    · intro _; refine dr ?_; refine aCd ?_; intro _; refine litT ?_; refine aSq ?_; refine aRg ?_; intro _; refine dr ?_; refine aRt ?_; have j16 := Option.some.inj h; subst j16; replace h := (osum_r hK2); intro _; obtain rfl := inj1 h; exact ca_0
  · rintro _ ho; have ho := ho.symm; subst ho; intro _; replace h := (osum_l hK2); refine aSq ?_; refine aSq ?_; refine aRg ?_; intro _; refine dr ?_; refine aBk ?_; refine awp_loop (α := Nat × Int) (fun x => mkS 58 [(0, .c (.string a0)), (3, .c (.int .i64 x.2))] []) (fun x => M_r07_Name_L1 a0 x.1 x.2 = some r1) (fun x => x.1) (g, 0) h ?_ ?_
    · exact ca_0
    · intro x17 h; intro _; obtain ⟨k7, m18, h⟩ := succ_of (f := fun n => M_r07_Name_L1 a0 n x17.2) rfl h; replace h : M_r07_Name_L1 a0 (k7 + 1) x17.2 = some r1 := h; rw [M_r07_Name_L1] at h; refine aSq ?_; refine aSq ?_; refine aRg ?_; intro _; refine dr ?_; refine aCd ?_; intro _; refine spl h (fun c19 h => ?_) (fun c19 h => ?_)
      · refine aSk ?_; refine aSq ?_; refine aBk ?_; refine aSq ?_; refine aRg ?_; intro _; obtain ⟨q20, h⟩ := grd_ok h; obtain ⟨q21, h⟩ := grd_ok h; refine pr ?_; refine pr ?_; refine dr ?_; refine aSq ?_; refine aRg ?_; intro _; refine spf h (fun c22 h => ?_) (fun c22 h => ?_)
        · intro _; refine spl h (fun c23 h => ?_) (fun c23 h => ?_)
          · intro _; refine spf h (fun c24 h => ?_) (fun c24 h => ?_)
            · intro _; refine spl h (fun c25 h => ?_) (fun c25 h => ?_)
              · intro _; refine spl h (fun c26 h => ?_) (fun c26 h => ?_)
                · intro _; refine dr ?_; refine aCd ?_; intro _; refine spl h (fun c27 h => ?_) (fun c27 h => ?_)
                  · refine aSq ?_; refine aRg ?_; intro _; refine dr ?_; refine aRt ?_; intro _; obtain rfl := inj1 h; exact ca_0
                  · refine aSk ?_; refine aRg ?_; intro _; refine dr ?_; refine ⟨(k7, (IntKind.i64.wrap (x17.2 + 1))), h, ltS m18, ?_⟩; exact ca_0
                · intro _; refine dr ?_; refine aCd ?_; intro _; refine litF ?_; refine aSk ?_; refine aRg ?_; intro _; refine dr ?_; refine ⟨(k7, (IntKind.i64.wrap (x17.2 + 1))), h, ltS m18, ?_⟩; exact ca_0
              · intro _; refine dr ?_; refine aCd ?_; intro _; refine litF ?_; refine aSk ?_; refine aRg ?_; intro _; refine dr ?_; refine ⟨(k7, (IntKind.i64.wrap (x17.2 + 1))), h, ltS m18, ?_⟩; exact ca_0
            · intro _; refine spl h (fun c28 h => ?_) (fun c28 h => ?_)
              · intro _; refine dr ?_; refine aCd ?_; intro _; refine spl h (fun c29 h => ?_) (fun c29 h => ?_)
                · refine aSq ?_; refine aRg ?_; intro _; refine dr ?_; refine aRt ?_; intro _; obtain rfl := inj1 h; exact ca_0
                · refine aSk ?_; refine aRg ?_; intro _; refine dr ?_; refine ⟨(k7, (IntKind.i64.wrap (x17.2 + 1))), h, ltS m18, ?_⟩; exact ca_0
              · intro _; refine dr ?_; refine aCd ?_; intro _; refine litF ?_; refine aSk ?_; refine aRg ?_; intro _; refine dr ?_; refine ⟨(k7, (IntKind.i64.wrap (x17.2 + 1))), h, ltS m18, ?_⟩; exact ca_0
          · intro _; refine dr ?_; refine aCd ?_; intro _; refine litF ?_; refine aSk ?_; refine aRg ?_; intro _; refine dr ?_; refine ⟨(k7, (IntKind.i64.wrap (x17.2 + 1))), h, ltS m18, ?_⟩; exact ca_0
        · intro _; refine spf h (fun c30 h => ?_) (fun c30 h => ?_)
          · intro _; refine spl h (fun c31 h => ?_) (fun c31 h => ?_)
            · intro _; refine spl h (fun c32 h => ?_) (fun c32 h => ?_)
              · intro _; refine dr ?_; refine aCd ?_; intro _; refine spl h (fun c33 h => ?_) (fun c33 h => ?_)
                · refine aSq ?_; refine aRg ?_; intro _; refine dr ?_; refine aRt ?_; intro _; obtain rfl := inj1 h; exact ca_0
                · refine aSk ?_; refine aRg ?_; intro _; refine dr ?_; refine ⟨(k7, (IntKind.i64.wrap (x17.2 + 1))), h, ltS m18, ?_⟩; exact ca_0
              · intro _; refine dr ?_; refine aCd ?_; intro _; refine litF ?_; refine aSk ?_; refine aRg ?_; intro _; refine dr ?_; refine ⟨(k7, (IntKind.i64.wrap (x17.2 + 1))), h, ltS m18, ?_⟩; exact ca_0
            · intro _; refine dr ?_; refine aCd ?_; intro _; refine litF ?_; refine aSk ?_; refine aRg ?_; intro _; refine dr ?_; refine ⟨(k7, (IntKind.i64.wrap (x17.2 + 1))), h, ltS m18, ?_⟩; exact ca_0
          · intro _; refine spl h (fun c34 h => ?_) (fun c34 h => ?_)
            · intro _; refine dr ?_; refine aCd ?_; intro _; refine spl h (fun c35 h => ?_) (fun c35 h => ?_)
              · refine aSq ?_; refine aRg ?_; intro _; refine dr ?_; refine aRt ?_; intro _; obtain rfl := inj1 h; exact ca_0
              · refine aSk ?_; refine aRg ?_; intro _; refine dr ?_; refine ⟨(k7, (IntKind.i64.wrap (x17.2 + 1))), h, ltS m18, ?_⟩; exact ca_0
            · intro _; refine dr ?_; refine aCd ?_; intro _; refine litF ?_; refine aSk ?_; refine aRg ?_; intro _; refine dr ?_; refine ⟨(k7, (IntKind.i64.wrap (x17.2 + 1))), h, ltS m18, ?_⟩; exact ca_0
      · refine aEx ?_; refine aSq ?_; refine aRg ?_; intro _; refine dr ?_; refine aRt ?_; intro _; obtain rfl := inj1 h; exact ca_0
def M_r08_Name (g : Nat) (a0 : ByteArray) : Option (Bool) :=
  ob1 (M_r07_Name g a0) (fun z1 =>
   some z1)
set_option maxHeartbeats 16000000 in
set_option maxRecDepth 100000 in
theorem A_r08_Name (g : Nat) (a0 : ByteArray) {r1 : Bool} (h : M_r08_Name g a0 = some r1) : ACall cx 21 [.c (.string a0)] (.c (.bool r1)) := by
  refine aOf Tryd.func21 rfl (by decide) rfl (Nat.le_of_ble_eq_true rfl) ?_; intro _; unfold M_r08_Name at h; refine aSq ?_; refine aRg ?_; intro _; refine dr ?_; refine aSq ?_; refine aRg ?_; intro _; obtain ⟨z1, u1, h⟩ := ob1_ok h; refine cl rfl (A_r07_Name g a0 u1) ?_; intro _; refine dr ?_; refine aRt ?_; intro _; obtain rfl := inj1 h; exact ca_0
def M_r13_step_L1 (a0 : ByteArray) : Nat → Int → Int → Option (Int)
  | 0, _, _ => none
  | k33 + 1, v31, v32 =>
    sel (decide (v32 ≥ 0))
     (grd (0 ≤ v32) (grd (v32 < (a0.size : Int)) (sel ((byt a0 v32) == 58)
       (M_r13_step_L1 a0 k33 v32 (IntKind.i64.wrap (v32 - 1)))
       (M_r13_step_L1 a0 k33 v31 (IntKind.i64.wrap (v32 - 1))))))
     (some v31)
def M_r13_step_L2 (g : Nat) (z41 : List ByteArray) : Nat → Int → (List ByteArray) → Option ((List ByteArray) ⊕ (GStep × Int))
  | 0, _, _ => none
  | k84 + 1, v82, v83 =>
    sel (decide (v82 < ((z41.length : Nat) : Int)))
     (ixn v83 ((v82).toNat) (fun y85 =>
       ob1 (M_lower y85) (fun z86 =>
        ixn v83 ((v82).toNat) (fun _ =>
         grd (0 ≤ v82) (grd (v82 < ((v83.length : Nat) : Int)) (ixn (v83.set ((v82).toNat) z86) ((v82).toNat) (fun y88 =>
          ob1 (M_r08_Name g y88) (fun z89 =>
           sel (!z89)
            (some (.inr ({ At := 0, Name := (⟨#[]⟩ : ByteArray), Args := [] : GStep }, 8)))
            (M_r13_step_L2 g z41 k84 (IntKind.i64.wrap (v82 + 1)) (v83.set ((v82).toNat) z86))))))))))
     (some (.inl v83))
def M_r13_step (g : Nat) (a0 : ByteArray) (a1 : Bool) : Option (GStep × Int) :=
  ob1 (sel a1
    (ob1 (M_r13_step_L1 a0 g (-1) (IntKind.i64.wrap ((a0.size : Int) - 1)) : Option (Int))
      (fun v27 => sel (decide (v27 < 0))
         (some (.inr ({ At := 0, Name := (⟨#[]⟩ : ByteArray), Args := [] : GStep }, 2)))
         (ob1 (M_r13_trim g (a0.extract 0 v27.toNat)) (fun z34 =>
           ob2 (M_r13_time z34) (fun z35 z36 =>
            grd (0 ≤ v27) (grd (v27.toNat ≤ a0.size) (sel (!z36)
             (some (.inr ({ At := 0, Name := (⟨#[]⟩ : ByteArray), Args := [] : GStep }, 2)))
             (ob1 (M_r13_trim g (a0.extract ((IntKind.i64.wrap (v27 + 1)).toNat) a0.size)) (fun z37 =>
               grd (0 ≤ (IntKind.i64.wrap (v27 + 1))) (grd ((IntKind.i64.wrap (v27 + 1)).toNat ≤ a0.size) (some (.inl (z37, z35)))))))))))))
    (some (.inl (a0, 0))) : Option ((ByteArray × Int) ⊕ (GStep × Int)))
   (osum
   (fun (v17, v18) => ob1 (sel (decide ((v17.size : Int) < 2))
       (some (.inr ({ At := 0, Name := (⟨#[]⟩ : ByteArray), Args := [] : GStep }, 2)))
       (sel ((byt v17 0) != 40)
         (grd (0 < (v17.size : Int)) (some (.inr ({ At := 0, Name := (⟨#[]⟩ : ByteArray), Args := [] : GStep }, 2))))
         (grd (0 < (v17.size : Int)) (grd (0 ≤ (IntKind.i64.wrap ((v17.size : Int) - 1))) (grd ((IntKind.i64.wrap ((v17.size : Int) - 1)) < (v17.size : Int)) (sel ((byt v17 (IntKind.i64.wrap ((v17.size : Int) - 1))) != 41)
           (some (.inr ({ At := 0, Name := (⟨#[]⟩ : ByteArray), Args := [] : GStep }, 2)))
           (some (.inl ()))))))) : Option (Unit ⊕ (GStep × Int)))
      (osum
      (fun _ => ob2 (M_r13_words g (v17.extract 1 ((IntKind.i64.wrap ((v17.size : Int) - 1)).toNat))) (fun z41 z42 =>
         grd (0 ≤ (IntKind.i64.wrap ((v17.size : Int) - 1))) (grd (1 ≤ (IntKind.i64.wrap ((v17.size : Int) - 1)).toNat) (grd ((IntKind.i64.wrap ((v17.size : Int) - 1)).toNat ≤ v17.size) (ob1 (sel (!z42)
           (some (.inr ({ At := 0, Name := (⟨#[]⟩ : ByteArray), Args := [] : GStep }, 2)))
           (sel (((z41.length : Nat) : Int) == 0)
             (some (.inr ({ At := 0, Name := (⟨#[]⟩ : ByteArray), Args := [] : GStep }, 2)))
             (some (.inl ()))) : Option (Unit ⊕ (GStep × Int)))
          (osum
          (fun _ => sel (decide (v18 > 1048576))
             (some ({ At := 0, Name := (⟨#[]⟩ : ByteArray), Args := [] : GStep }, 1))
             (ob1 (M_r13_step_L2 g z41 ((((z41.length : Nat) : Int)).toNat + 1) 0 z41 : Option ((List ByteArray) ⊕ (GStep × Int)))
               (osum
               (fun v66 => ixn v66 0 (fun y90 =>
                  grd (0 < ((v66.length : Nat) : Int)) (grd (1 ≤ v66.length) (grd (v66.length - 1 ≤ 140737488355328) (some ({ At := v18, Name := y90, Args := ((v66.drop 1).take (v66.length - 1)) : GStep }, 0))))))
               (fun (r67, r68) => some (r67, r68)))))
          (fun (r43, r44) => some (r43, r44))))))))
      (fun (r38, r39) => some (r38, r39))))
   (fun (r19, r20) => some (r19, r20)))
set_option maxHeartbeats 16000000 in
set_option maxRecDepth 100000 in
theorem A_r13_step (g : Nat) (a0 : ByteArray) (a1 : Bool) {r1 : GStep} {r2 : Int} (h : M_r13_step g a0 a1 = some (r1, r2)) : ACall cx 28 [.c (.string a0), .c (.bool a1)] (.tup [.agg [.c (.int .i64 r1.At), .c (.string r1.Name), .sl 1 (r1.Args.map cS)], .c (.int .i64 r2)]) := by
  refine aOf Tryd.func28 rfl (by decide) rfl (Nat.le_of_ble_eq_true rfl) ?_; intro _; unfold M_r13_step at h; refine aSq ?_; refine aRg ?_; intro _; refine dr ?_; refine aSq ?_; refine aRg ?_; intro _; refine dr ?_; obtain ⟨o1, h, hK2⟩ := ob1_ok h; refine awp_cut (α := ByteArray × Int) (fun (v17, v18) => mkS 112 [(0, .c (.string v17)), (4, .ptr 4 0 0 0), (6, .c (.int .i64 v18))] [(4, ⟨37, 3, true, [[.c (.int .i64 0), .c (.string (⟨#[]⟩ : ByteArray)), .c (.slice none 0 0)]]⟩)]) (fun v => o1 = (.inl v)) ?_ ?_
  · refine aSq ?_; refine aRg ?_; intro _; refine dr ?_; refine aCd ?_; intro _; refine spl h (fun c3 h => ?_) (fun c3 h => ?_)
    · refine aSq ?_; refine aRg ?_; intro _; refine dr ?_; obtain ⟨o4, h, hK5⟩ := ob1_ok h; refine awp_cut (α := Int) (fun v27 => mkS 112 [(0, .c (.string a0)), (4, .ptr 4 0 0 0), (7, .c (.int .i64 v27))] [(4, ⟨37, 3, true, [[.c (.int .i64 0), .c (.string (⟨#[]⟩ : ByteArray)), .c (.slice none 0 0)]]⟩)]) (fun v => o4 = v) ?_ ?_
      · refine aSq ?_; refine aRg ?_; intro _; refine dr ?_; refine aBk ?_; refine awp_loop (α := Nat × Int × Int) (fun x => mkS 112 [(0, .c (.string a0)), (4, .ptr 4 0 0 0), (7, .c (.int .i64 x.2.1)), (8, .c (.int .i64 x.2.2))] [(4, ⟨37, 3, true, [[.c (.int .i64 0), .c (.string (⟨#[]⟩ : ByteArray)), .c (.slice none 0 0)]]⟩)]) (fun x => M_r13_step_L1 a0 x.1 x.2.1 x.2.2 = some o4) (fun x => x.1) (g, (-1), (IntKind.i64.wrap ((a0.size : Int) - 1))) h ?_ ?_
        · exact ca_0
        · intro x6 h; intro _; obtain ⟨k33, m7, h⟩ := succ_of (f := fun n => M_r13_step_L1 a0 n x6.2.1 x6.2.2) rfl h; replace h : M_r13_step_L1 a0 (k33 + 1) x6.2.1 x6.2.2 = some o4 := h; rw [M_r13_step_L1] at h; refine aSq ?_; refine aSq ?_; refine aRg ?_; intro _; refine dr ?_; refine aCd ?_; intro _; refine spl h (fun c8 h => ?_) (fun c8 h => ?_)
          · refine aSk ?_; refine aSq ?_; refine aBk ?_; refine aSq ?_; refine aRg ?_; intro _; obtain ⟨q9, h⟩ := grd_ok h; obtain ⟨q10, h⟩ := grd_ok h; refine pr ?_; refine pr ?_; refine dr ?_; refine aCd ?_; intro _; refine spl h (fun c11 h => ?_) (fun c11 h => ?_)
            · refine aRg ?_; intro _; refine dr ?_; refine aRg ?_; intro _; refine dr ?_; refine ⟨(k33, x6.2.2, (IntKind.i64.wrap (x6.2.2 - 1))), h, ltS m7, ?_⟩; exact ca_0
            · refine aSk ?_; refine aRg ?_; intro _; refine dr ?_; refine ⟨(k33, x6.2.1, (IntKind.i64.wrap (x6.2.2 - 1))), h, ltS m7, ?_⟩; exact ca_0
          · refine aEx ?_; refine ⟨x6.2.1, (Option.some.inj h).symm, ?_⟩; exact ca_0
      · rintro v27 ho; have ho := ho.symm; subst ho; intro _; replace h := hK5; refine aSq ?_; refine aSq ?_; refine aRg ?_; intro _; refine dr ?_; refine aCd ?_; intro _; refine spl h (fun c12 h => ?_) (fun c12 h => ?_)
        · refine aSq ?_; refine aRg ?_; intro _; refine dr ?_; refine aRt ?_; have j13 := Option.some.inj h; subst j13; replace h := (osum_r hK2); intro _; obtain ⟨rfl, rfl⟩ := inj2 h; exact ca_0
        · refine aSk ?_; refine aSq ?_; refine aRg ?_; intro _; obtain ⟨z34, u14, h⟩ := ob1_ok h; refine cl rfl (A_r13_trim g (a0.extract 0 v27.toNat) u14) ?_; intro _; obtain ⟨z35, z36, u15, h⟩ := ob2_ok h; refine cl rfl (A_r13_time z34 u15) ?_; intro _; obtain ⟨q16, h⟩ := grd_ok h; obtain ⟨q17, h⟩ := grd_ok h; refine pr ?_; refine pr ?_; refine pr ?_; refine dr ?_; refine aSq ?_; refine aSq ?_; refine aRg ?_; intro _; refine dr ?_; refine aCd ?_; intro _; refine spl h (fun c18 h => ?_) (fun c18 h => ?_)
          · refine aSq ?_; refine aRg ?_; intro _; refine dr ?_; refine aRt ?_; have j19 := Option.some.inj h; subst j19; replace h := (osum_r hK2); intro _; obtain ⟨rfl, rfl⟩ := inj2 h; exact ca_0
          · refine aSk ?_; refine aRg ?_; intro _; obtain ⟨z37, u20, h⟩ := ob1_ok h; refine cl rfl (A_r13_trim g (a0.extract ((IntKind.i64.wrap (v27 + 1)).toNat) a0.size) u20) ?_; intro _; obtain ⟨q21, h⟩ := grd_ok h; obtain ⟨q22, h⟩ := grd_ok h; refine pr ?_; refine pr ?_; refine pr ?_; refine dr ?_; refine ⟨(z37, z35), (Option.some.inj h).symm, ?_⟩; exact ca_0
    · refine aSk ?_; refine ⟨(a0, 0), (Option.some.inj h).symm, ?_⟩; exact ca_0
  · rintro ⟨v17, v18⟩ ho; have ho := ho.symm; subst ho; intro _; replace h := (osum_l hK2); obtain ⟨o23, h, hK24⟩ := ob1_ok h; refine awp_cut (α := Unit) (fun _ => mkS 112 [(0, .c (.string v17)), (4, .ptr 4 0 0 0), (6, .c (.int .i64 v18))] [(4, ⟨37, 3, true, [[.c (.int .i64 0), .c (.string (⟨#[]⟩ : ByteArray)), .c (.slice none 0 0)]]⟩)]) (fun v => o23 = (.inl v)) ?_ ?_
    · refine aSq ?_; refine aRg ?_; intro _; refine spf h (fun c25 h => ?_) (fun c25 h => ?_)
      · intro _; refine spf h (fun c26 h => ?_) (fun c26 h => ?_)
        · intro _; obtain ⟨q27, h⟩ := grd_ok h; obtain ⟨q28, h⟩ := grd_ok h; obtain ⟨q29, h⟩ := grd_ok h; refine pr ?_; refine pr ?_; refine pr ?_; refine pr ?_; refine dr ?_; refine aCd ?_; intro _; refine spl h (fun c30 h => ?_) (fun c30 h => ?_)
          · refine aSq ?_; refine aRg ?_; intro _; refine dr ?_; refine aRt ?_; have j31 := Option.some.inj h; subst j31; replace h := (osum_r hK24); intro _; obtain ⟨rfl, rfl⟩ := inj2 h; exact ca_0
          · refine aSk ?_; refine ⟨(), (Option.some.inj h).symm, ?_⟩; exact ca_0
        · intro _; obtain ⟨q32, h⟩ := grd_ok h; refine pr ?_; refine pr ?_; refine dr ?_; refine aCd ?_; intro _; refine litT ?_; refine aSq ?_; refine aRg ?_; intro _; refine dr ?_; refine aRt ?_; have j33 := Option.some.inj h; subst j33; replace h := (osum_r hK24); intro _; obtain ⟨rfl, rfl⟩ := inj2 h; exact ca_0
      · intro _; refine dr ?_; refine aCd ?_; intro _; refine litT ?_; refine aSq ?_; refine aRg ?_; intro _; refine dr ?_; refine aRt ?_; have j34 := Option.some.inj h; subst j34; replace h := (osum_r hK24); intro _; obtain ⟨rfl, rfl⟩ := inj2 h; exact ca_0
    · rintro _ ho; have ho := ho.symm; subst ho; intro _; replace h := (osum_l hK24); refine aSq ?_; refine aRg ?_; intro _; obtain ⟨z41, z42, u35, h⟩ := ob2_ok h; refine clg [(0, 70)] [] [] [(70, ⟨2, some ⟨9, 1, false, z41.map cS⟩⟩)] (.tup [.own 70 2 0 z41.length, .c (.bool z42)]) rfl rfl (A_r13_words g (v17.extract 1 ((IntKind.i64.wrap ((v17.size : Int) - 1)).toNat)) u35) ?_; intro _; obtain ⟨q36, h⟩ := grd_ok h; obtain ⟨q37, h⟩ := grd_ok h; obtain ⟨q38, h⟩ := grd_ok h; refine pr ?_; refine pr ?_; refine pr ?_; refine pr ?_; refine dr ?_; obtain ⟨o39, h, hK40⟩ := ob1_ok h; refine awp_cut (α := Unit) (fun _ => mkS 112 [(4, .ptr 4 0 0 0), (6, .c (.int .i64 v18)), (11, .own 70 0 0 z41.length)] [(4, ⟨37, 3, true, [[.c (.int .i64 0), .c (.string (⟨#[]⟩ : ByteArray)), .c (.slice none 0 0)]]⟩), (70, ⟨9, 1, false, z41.map cS⟩)]) (fun v => o39 = (.inl v)) ?_ ?_
      · refine aSq ?_; refine aRg ?_; intro _; refine spf h (fun c41 h => ?_) (fun c41 h => ?_)
        · intro _; refine dr ?_; refine aCd ?_; intro _; refine spl h (fun c42 h => ?_) (fun c42 h => ?_)
          · refine aSq ?_; refine aRg ?_; intro _; refine dr ?_; refine aRt ?_; have j43 := Option.some.inj h; subst j43; replace h := (osum_r hK40); intro _; obtain ⟨rfl, rfl⟩ := inj2 h; exact ca_0
          · refine aSk ?_; refine ⟨(), (Option.some.inj h).symm, ?_⟩; exact ca_0
        · intro _; refine dr ?_; refine aCd ?_; intro _; refine litT ?_; refine aSq ?_; refine aRg ?_; intro _; refine dr ?_; refine aRt ?_; have j44 := Option.some.inj h; subst j44; replace h := (osum_r hK40); intro _; obtain ⟨rfl, rfl⟩ := inj2 h; exact ca_0
      · rintro _ ho; have ho := ho.symm; subst ho; intro _; replace h := (osum_l hK40); refine aSq ?_; refine aSq ?_; refine aRg ?_; intro _; refine dr ?_; refine aCd ?_; intro _; refine spl h (fun c45 h => ?_) (fun c45 h => ?_)
        · refine aSq ?_; refine aRg ?_; intro _; refine dr ?_; refine aRt ?_; intro _; obtain ⟨rfl, rfl⟩ := inj2 h; exact ca_0
        · refine aSk ?_; obtain ⟨o46, h, hK47⟩ := ob1_ok h; refine awp_cut (α := List ByteArray) (fun v66 => mkS 112 [(4, .ptr 4 0 0 0), (6, .c (.int .i64 v18)), (11, .own 70 0 0 v66.length)] [(4, ⟨37, 3, true, [[.c (.int .i64 0), .c (.string (⟨#[]⟩ : ByteArray)), .c (.slice none 0 0)]]⟩), (70, ⟨9, 1, false, v66.map cS⟩)]) (fun v => o46 = (.inl v)) ?_ ?_
          · refine aSq ?_; refine aRg ?_; intro _; refine dr ?_; refine aBk ?_; refine awp_loop (α := Nat × Int × (List ByteArray)) (fun x => mkS 112 [(4, .ptr 4 0 0 0), (6, .c (.int .i64 v18)), (11, .own 70 0 0 x.2.2.length), (85, .c (.int .i64 ((z41.length : Nat) : Int))), (86, .c (.int .i64 x.2.1))] [(4, ⟨37, 3, true, [[.c (.int .i64 0), .c (.string (⟨#[]⟩ : ByteArray)), .c (.slice none 0 0)]]⟩), (70, ⟨9, 1, false, x.2.2.map cS⟩)]) (fun x => M_r13_step_L2 g z41 x.1 x.2.1 x.2.2 = some o46) (fun x => x.1) ((((z41.length : Nat) : Int)).toNat + 1, 0, z41) h ?_ ?_
            · exact ca_0
            · intro x48 h; intro _; obtain ⟨k84, m49, h⟩ := succ_of (f := fun n => M_r13_step_L2 g z41 n x48.2.1 x48.2.2) rfl h; replace h : M_r13_step_L2 g z41 (k84 + 1) x48.2.1 x48.2.2 = some o46 := h; rw [M_r13_step_L2] at h; refine aSq ?_; refine aRg ?_; intro _; refine dr ?_; refine aSq ?_; refine aCd ?_; intro _; refine spl h (fun c50 h => ?_) (fun c50 h => ?_)
              · refine aSk ?_; refine aSq ?_; refine aBk ?_; refine aSq ?_; refine aRg ?_; intro _; refine dr ?_; refine aSq ?_; refine aRg ?_; intro _; obtain ⟨y85, w51, h⟩ := ixn_ok h; refine Exists.intro (cS y85) (And.intro (by first | exact map_at' w51 | (have w := map_at' (f := cS) w51; simpa [cS] using w)) ?_); intro _; obtain ⟨z86, u52, h⟩ := ob1_ok h; refine cl rfl (A_Lower y85 u52) ?_; intro _; obtain ⟨y87, w53, h⟩ := ixn_ok h; refine Exists.intro (cS y87) (And.intro (by first | exact map_at' w53 | (have w := map_at' (f := cS) w53; simpa [cS] using w)) ?_); intro _; obtain ⟨q54, h⟩ := grd_ok h; obtain ⟨q55, h⟩ := grd_ok h; refine pr ?_; refine pr ?_; refine pr ?_; refine pr ?_; refine dr ?_; refine aSq ?_; refine aRg ?_; intro _; obtain ⟨y88, w56, h⟩ := ixn_ok h; refine Exists.intro (cS y88) (And.intro (by first | exact map_at' w56 | (have w := map_at' (f := cS) w56; simpa [cS] using w)) ?_); intro _; obtain ⟨z89, u57, h⟩ := ob1_ok h; refine cl rfl (A_r08_Name g y88 u57) ?_; intro _; refine pr ?_; refine pr ?_; refine dr ?_; refine aCd ?_; intro _; refine spl h (fun c58 h => ?_) (fun c58 h => ?_)
                · refine aSq ?_; refine aRg ?_; intro _; refine dr ?_; refine aRt ?_; have j59 := Option.some.inj h; subst j59; replace h := (osum_r hK47); intro _; obtain ⟨rfl, rfl⟩ := inj2 h; exact ca_0
                · refine aSk ?_; refine aRg ?_; intro _; refine dr ?_; refine ⟨(k84, (IntKind.i64.wrap (x48.2.1 + 1)), (x48.2.2.set ((x48.2.1).toNat) z86)), h, ltS m49, ?_⟩; exact ca_0
              · refine aEx ?_; refine ⟨x48.2.2, (Option.some.inj h).symm, ?_⟩; exact ca_0
          · rintro v66 ho; have ho := ho.symm; subst ho; intro _; replace h := (osum_l hK47); refine aSq ?_; refine aRg ?_; intro _; obtain ⟨y90, w60, h⟩ := ixn_ok h; refine Exists.intro (cS y90) (And.intro (by first | exact map_at' w60 | (have w := map_at' (f := cS) w60; simpa [cS] using w)) ?_); intro _; obtain ⟨q61, h⟩ := grd_ok h; obtain ⟨q62, h⟩ := grd_ok h; refine pr ?_; refine pr ?_; refine pr ?_; refine pr ?_; refine pr ?_; refine dr ?_; refine aRt ?_; obtain ⟨q63, h⟩ := grd_ok h; intro _; obtain ⟨rfl, rfl⟩ := inj2 h; exact ca_0
def M_r13_Parse_L1 (a1 : Bool) (g : Nat) (z1 : List ByteArray) : Nat → Int → (List GStep) → Option ((List GStep) × Int × Int)
  | 0, _, _ => none
  | k16 + 1, v14, v15 =>
    sel (decide (v14 < ((z1.map cS).length : Int)))
     (ix z1 v14 (fun y17 =>
       ob1 (M_r13_trim g y17) (fun z18 =>
        ob1 (sel (z18.toList == (⟨#[]⟩ : ByteArray).toList)
          (some (.inr ()))
          (grd (0 < (z18.size : Int)) (sel ((byt z18 0) == 59)
            (some (.inr ()))
            (some (.inl ())))) : Option (Unit ⊕ Unit))
         (osum
         (fun _ => ob2 (M_r13_step g z18 a1) (fun z20 z21 =>
            sel (z21 != 0)
             (some ([], (IntKind.i64.wrap (v14 + 1)), z21))
             (grd ((v15.length + 1) * 48 ≤ 140737488355328) (M_r13_Parse_L1 a1 g z1 k16 (IntKind.i64.wrap (v14 + 1)) (v15 ++ [z20])))))
         (fun _ => M_r13_Parse_L1 a1 g z1 k16 (IntKind.i64.wrap (v14 + 1)) v15)))))
     (grd (v15.length ≤ 140737488355328) (some (v15, 0, 0)))
def M_r13_Parse (g : Nat) (a0 : ByteArray) (a1 : Bool) : Option ((List GStep) × Int × Int) :=
  sel (decide ((a0.size : Int) > 65536))
   (some ([], 0, 5))
   (ob1 (M_r13_lines g a0) (fun z1 =>
     M_r13_Parse_L1 a1 g z1 ((((z1.map cS).length : Int)).toNat + 1) 0 []))
set_option maxHeartbeats 16000000 in
set_option maxRecDepth 100000 in
theorem A_r13_Parse (g : Nat) (a0 : ByteArray) (a1 : Bool) {r1 : List GStep} {r2 : Int} {r3 : Int} (h : M_r13_Parse g a0 a1 = some (r1, r2, r3)) : ACall cx 12 [.c (.string a0), .c (.bool a1)] (.tup [.sl 3 (r1.map cGStep), .c (.int .i64 r2), .c (.int .i64 r3)]) := by
  refine aOf Tryd.func12 rfl (by decide) rfl (Nat.le_of_ble_eq_true rfl) ?_; intro _; unfold M_r13_Parse at h; refine aSq ?_; refine aRg ?_; intro _; refine dr ?_; refine aSq ?_; refine aSq ?_; refine aRg ?_; intro _; refine dr ?_; refine aCd ?_; intro _; refine spl h (fun c1 h => ?_) (fun c1 h => ?_)
  · refine aSq ?_; refine aRg ?_; intro _; refine dr ?_; refine aRt ?_; intro _; obtain ⟨rfl, rfl, rfl⟩ := inj3 h; exact ca_0
  · refine aSk ?_; refine aSq ?_; refine aRg ?_; intro _; refine dr ?_; refine aSq ?_; refine aSq ?_; refine aRg ?_; intro _; obtain ⟨z1, u2, h⟩ := ob1_ok h; refine cl rfl (A_r13_lines g a0 u2) ?_; intro _; refine dr ?_; refine aBk ?_; refine awp_loop (α := Nat × Int × (List GStep)) (fun x => mkS 49 [(1, .c (.bool a1)), (7, .own 46 0 0 x.2.2.length), (16, .sl 1 (z1.map cS)), (17, .c (.int .i64 ((z1.map cS).length : Int))), (18, .c (.int .i64 x.2.1))] [(46, ⟨37, 3, false, x.2.2.map cGStep⟩)]) (fun x => M_r13_Parse_L1 a1 g z1 x.1 x.2.1 x.2.2 = some (r1, r2, r3)) (fun x => x.1) ((((z1.map cS).length : Int)).toNat + 1, 0, []) h ?_ ?_
    · exact ca_0
    · intro x3 h; intro _; obtain ⟨k16, m4, h⟩ := succ_of (f := fun n => M_r13_Parse_L1 a1 g z1 n x3.2.1 x3.2.2) rfl h; replace h : M_r13_Parse_L1 a1 g z1 (k16 + 1) x3.2.1 x3.2.2 = some (r1, r2, r3) := h; rw [M_r13_Parse_L1] at h; refine aSq ?_; refine aRg ?_; intro _; refine dr ?_; refine aSq ?_; refine aCd ?_; intro _; refine spl h (fun c5 h => ?_) (fun c5 h => ?_)
      · refine aSk ?_; refine aSq ?_; refine aBk ?_; refine aSq ?_; refine aRg ?_; intro _; obtain ⟨y17, w6, q7, h⟩ := ix_ok h; refine Exists.intro (cS y17) (And.intro (map_at' w6) ?_); intro _; refine pr ?_; refine dr ?_; refine aSq ?_; refine aRg ?_; intro _; obtain ⟨z18, u8, h⟩ := ob1_ok h; refine cl rfl (A_r13_trim g y17 u8) ?_; intro _; refine dr ?_; obtain ⟨o9, h, hK10⟩ := ob1_ok h; refine awp_cut (α := Unit) (fun _ => mkS 49 [(1, .c (.bool a1)), (7, .own 46 0 0 x3.2.2.length), (8, .c (.int .i64 x3.2.1)), (9, .c (.string z18)), (16, .sl 1 (z1.map cS)), (17, .c (.int .i64 ((z1.map cS).length : Int))), (18, .c (.int .i64 x3.2.1)), (28, .c (.string z18)), (29, .c (.int .u8 (byt z18 0))), (30, .c (.bool ((byt z18 0) == 59)))] [(46, ⟨37, 3, false, x3.2.2.map cGStep⟩)]) (fun v => o9 = (.inl v)) ?_ ?_
        · refine aSq ?_; refine aRg ?_; intro _; refine spf h (fun c11 h => ?_) (fun c11 h => ?_)
          · intro _; obtain ⟨q12, h⟩ := grd_ok h; refine pr ?_; refine pr ?_; refine dr ?_; refine aCd ?_; intro _; refine spl h (fun c13 h => ?_) (fun c13 h => ?_)
            · refine aEx ?_; have j14 := Option.some.inj h; subst j14; replace h := (osum_r hK10); refine aRg ?_; intro _; refine dr ?_; refine ⟨(k16, (IntKind.i64.wrap (x3.2.1 + 1)), x3.2.2), h, ltS m4, ?_⟩; exact ca_0
            · refine aSk ?_; refine ⟨(), (Option.some.inj h).symm, ?_⟩; exact ca_0
          · intro _; refine dr ?_; refine aCd ?_; intro _; refine litT ?_; refine aEx ?_; have j15 := Option.some.inj h; subst j15; replace h := (osum_r hK10); refine aRg ?_; intro _; refine dr ?_; refine ⟨(k16, (IntKind.i64.wrap (x3.2.1 + 1)), x3.2.2), h, ltS m4, ?_⟩; exact ca_0
        · rintro _ ho; have ho := ho.symm; subst ho; intro _; replace h := (osum_l hK10); refine aSq ?_; refine aRg ?_; intro _; obtain ⟨z20, z21, u16, h⟩ := ob2_ok h; refine cl rfl (A_r13_step g z18 a1 u16) ?_; intro _; refine dr ?_; refine aSq ?_; refine aSq ?_; refine aRg ?_; intro _; refine dr ?_; refine aCd ?_; intro _; refine spl h (fun c17 h => ?_) (fun c17 h => ?_)
          · refine aSq ?_; refine aRg ?_; intro _; refine dr ?_; refine aRt ?_; intro _; obtain ⟨rfl, rfl, rfl⟩ := inj3 h; exact ca_0
          · refine aSk ?_; refine aRg ?_; intro _; obtain ⟨q18, h⟩ := grd_ok h; refine pl ?_; refine pl ?_; refine And.intro (by first | with_reducible assumption | (show (x3.2.2.length + 1) * 48 ≤ 140737488355328; with_reducible assumption) | omega | (simp; omega)) ?_; refine pe ?_; refine dr ?_; refine aRg ?_; intro _; refine dr ?_; refine ⟨(k16, (IntKind.i64.wrap (x3.2.1 + 1)), (x3.2.2 ++ [z20])), h, ltS m4, ?_⟩; exact ca_0
      · refine aEx ?_; refine aSq ?_; refine aRg ?_; intro _; refine dr ?_; refine aRt ?_; obtain ⟨q19, h⟩ := grd_ok h; intro _; obtain ⟨rfl, rfl, rfl⟩ := inj3 h; exact ca_0
def M_b_Num (a0 : Er) : Option (Int) :=
  erM a0
   (some 0)
   (fun e1 => some e1)
set_option maxHeartbeats 16000000 in
set_option maxRecDepth 100000 in
theorem A_b_Num (a0 : Er) {r1 : Int} (h : M_b_Num a0 = some r1) : ACall cx 13 [eA a0] (.c (.int .i64 r1)) := by
  refine aOf Tryd.func13 rfl (by decide) rfl (Nat.le_of_ble_eq_true rfl) ?_; intro _; unfold M_b_Num at h; refine aSq ?_; refine aRg ?_; intro _; refine dr ?_; refine aSq ?_; refine aSq ?_; rcases a0 with _ | e1
  · replace h := erM_nil h; refine aRg ?_; intro _; refine dr ?_; refine aCd ?_; intro _; refine litT ?_; refine aSq ?_; refine aRg ?_; intro _; refine dr ?_; refine aRt ?_; intro _; obtain rfl := inj1 h; exact ca_0
  · replace h := erM_no h; refine aRg ?_; intro _; refine dr ?_; refine aCd ?_; intro _; refine litF ?_; refine aSk ?_; refine aSq ?_; refine aSq ?_; refine aRg ?_; intro _; refine ⟨_, lf_assert rfl (Nat.le_of_ble_eq_true rfl) rfl asErrno, ?_⟩; intro _; refine dr ?_; refine aSq ?_; refine aRg ?_; intro _; refine dr ?_; refine aCd ?_; intro _; refine litT ?_; refine aSq ?_; refine aRg ?_; intro _; refine dr ?_; refine aRt ?_; intro _; obtain rfl := inj1 h; exact ca_0
def M_l13_Same_L1 (a0 : List GStep) (a1 : List GStep) : Nat → Int → Option (Bool)
  | 0, _ => none
  | k17 + 1, v16 =>
    sel (decide (v16 < ((a0.map cGStep).length : Int)))
     (ix a0 v16 (fun y18 =>
       ix a1 v16 (fun y19 =>
        sel (y18.At != y19.At)
         (some false)
         (ix a0 v16 (fun y20 =>
           ix a1 v16 (fun y21 =>
            sel (!(y20.Name.toList == y21.Name.toList))
             (some false)
             (ix a0 v16 (fun y22 =>
               ix a1 v16 (fun y23 =>
                ob1 (M_b_Texts y22.Args y23.Args) (fun z24 =>
                 sel (!z24)
                  (some false)
                  (M_l13_Same_L1 a0 a1 k17 (IntKind.i64.wrap (v16 + 1)))))))))))))
     (some true)
def M_l13_Same (a0 : List GStep) (a1 : List GStep) : Option (Bool) :=
  sel (((a0.map cGStep).length : Int) != ((a1.map cGStep).length : Int))
   (some false)
   (M_l13_Same_L1 a0 a1 ((((a0.map cGStep).length : Int)).toNat + 1) 0)
set_option maxHeartbeats 16000000 in
set_option maxRecDepth 100000 in
theorem A_l13_Same (a0 : List GStep) (a1 : List GStep) {r1 : Bool} (h : M_l13_Same a0 a1 = some r1) : ACall cx 14 [.sl 3 (a0.map cGStep), .sl 3 (a1.map cGStep)] (.c (.bool r1)) := by
  refine aOf Tryd.func14 rfl (by decide) rfl (Nat.le_of_ble_eq_true rfl) ?_; intro _; unfold M_l13_Same at h; refine aSq ?_; refine aRg ?_; intro _; refine dr ?_; refine aSq ?_; refine aSq ?_; refine aRg ?_; intro _; refine dr ?_; refine aCd ?_; intro _; refine spl h (fun c1 h => ?_) (fun c1 h => ?_)
  · refine aSq ?_; refine aRg ?_; intro _; refine dr ?_; refine aRt ?_; intro _; obtain rfl := inj1 h; exact ca_0
  · refine aSk ?_; refine aSq ?_; refine aSq ?_; refine aRg ?_; intro _; refine dr ?_; refine aBk ?_; refine awp_loop (α := Nat × Int) (fun x => mkS 55 [(0, .sl 3 (a0.map cGStep)), (1, .sl 3 (a1.map cGStep)), (12, .c (.int .i64 ((a0.map cGStep).length : Int))), (13, .c (.int .i64 x.2))] []) (fun x => M_l13_Same_L1 a0 a1 x.1 x.2 = some r1) (fun x => x.1) ((((a0.map cGStep).length : Int)).toNat + 1, 0) h ?_ ?_
    · exact ca_0
    · intro x2 h; intro _; obtain ⟨k17, m3, h⟩ := succ_of (f := fun n => M_l13_Same_L1 a0 a1 n x2.2) rfl h; replace h : M_l13_Same_L1 a0 a1 (k17 + 1) x2.2 = some r1 := h; rw [M_l13_Same_L1] at h; refine aSq ?_; refine aRg ?_; intro _; refine dr ?_; refine aSq ?_; refine aCd ?_; intro _; refine spl h (fun c4 h => ?_) (fun c4 h => ?_)
      · refine aSk ?_; refine aSq ?_; refine aBk ?_; refine aSq ?_; refine aRg ?_; intro _; refine dr ?_; refine aSq ?_; refine aRg ?_; intro _; obtain ⟨y18, w5, q6, h⟩ := ix_ok h; refine Exists.intro (cGStep y18) (And.intro (map_at' w5) ?_); intro _; obtain ⟨y19, w7, q8, h⟩ := ix_ok h; refine Exists.intro (cGStep y19) (And.intro (map_at' w7) ?_); intro _; refine spf h (fun c9 h => ?_) (fun c9 h => ?_)
        · intro _; obtain ⟨y20, w10, q11, h⟩ := ix_ok h; refine Exists.intro (cGStep y20) (And.intro (map_at' w10) ?_); intro _; obtain ⟨y21, w12, q13, h⟩ := ix_ok h; refine Exists.intro (cGStep y21) (And.intro (map_at' w12) ?_); intro _; refine spf h (fun c14 h => ?_) (fun c14 h => ?_)
          · intro _; obtain ⟨y22, w15, q16, h⟩ := ix_ok h; refine Exists.intro (cGStep y22) (And.intro (map_at' w15) ?_); intro _; obtain ⟨y23, w17, q18, h⟩ := ix_ok h; refine Exists.intro (cGStep y23) (And.intro (map_at' w17) ?_); intro _; obtain ⟨z24, u19, h⟩ := ob1_ok h; refine cl rfl (A_b_Texts y22.Args y23.Args u19) ?_; intro _; refine pr ?_; refine pr ?_; refine pr ?_; refine pr ?_; refine pr ?_; refine pr ?_; refine dr ?_; refine aCd ?_; intro _; refine spl h (fun c20 h => ?_) (fun c20 h => ?_)
            · refine aSq ?_; refine aRg ?_; intro _; refine dr ?_; refine aRt ?_; intro _; obtain rfl := inj1 h; exact ca_0
            · refine aSk ?_; refine aRg ?_; intro _; refine dr ?_; refine ⟨(k17, (IntKind.i64.wrap (x2.2 + 1))), h, ltS m3, ?_⟩; exact ca_0
          · intro _; refine pr ?_; refine pr ?_; refine pr ?_; refine pr ?_; refine dr ?_; refine aCd ?_; intro _; refine litT ?_; refine aSq ?_; refine aRg ?_; intro _; refine dr ?_; refine aRt ?_; intro _; obtain rfl := inj1 h; exact ca_0
        · intro _; refine pr ?_; refine pr ?_; refine dr ?_; refine aCd ?_; intro _; refine litT ?_; refine aSq ?_; refine aRg ?_; intro _; refine dr ?_; refine aRt ?_; intro _; obtain rfl := inj1 h; exact ca_0
      · refine aEx ?_; refine aSq ?_; refine aRg ?_; intro _; refine dr ?_; refine aRt ?_; intro _; obtain rfl := inj1 h; exact ca_0
def M_l13_PlanfileParses (g : Nat) (a0 : ByteArray) (a1 : Bool) : Option (Bool) :=
  ob1 (sel (decide ((a0.size : Int) > 3000))
    (ob1 (M_l13_awake) (fun z8 =>
      some (.inr z8)))
    (ob1 (M_l13_awake) (fun z6 =>
      sel (!z6)
       (ob1 (M_l13_awake) (fun z7 =>
         some (.inr z7)))
       (some (.inl ())))) : Option (Unit ⊕ Bool))
   (osum
   (fun _ => ob3 (M_planfile_Parse a0 a1) (fun z9 z10 z11 =>
      ob3 (M_r13_Parse g a0 a1) (fun z12 z13 z14 =>
       ob1 (M_b_Num z11) (fun z15 =>
        sel (z15 == z14)
         (sel (z10 == z13)
           (ob1 (M_l13_Same z9 z12) (fun z16 =>
             some z16))
           (some false))
         (some false)))))
   (fun r4 => some r4))
set_option maxHeartbeats 16000000 in
set_option maxRecDepth 100000 in
theorem A_l13_PlanfileParses (g : Nat) (a0 : ByteArray) (a1 : Bool) {r1 : Bool} (h : M_l13_PlanfileParses g a0 a1 = some r1) : ACall cx 3 [.c (.string a0), .c (.bool a1)] (.c (.bool r1)) := by
  refine aOf Tryd.func3 rfl (by decide) rfl (Nat.le_of_ble_eq_true rfl) ?_; intro _; unfold M_l13_PlanfileParses at h; refine aSq ?_; refine aRg ?_; intro _; refine dr ?_; obtain ⟨o1, h, hK2⟩ := ob1_ok h; refine awp_cut (α := Unit) (fun _ => mkS 47 [(0, .c (.string a0)), (1, .c (.bool a1))] []) (fun v => o1 = (.inl v)) ?_ ?_
  · refine aSq ?_; refine aRg ?_; intro _; refine spf h (fun c3 h => ?_) (fun c3 h => ?_)
    · intro _; obtain ⟨z6, u4, h⟩ := ob1_ok h; refine cl rfl (A_l13_awake u4) ?_; intro _; refine dr ?_; refine aCd ?_; intro _; refine spl h (fun c5 h => ?_) (fun c5 h => ?_)
      · refine aSq ?_; refine aRg ?_; intro _; obtain ⟨z7, u6, h⟩ := ob1_ok h; refine cl rfl (A_l13_awake u6) ?_; intro _; refine dr ?_; refine aRt ?_; have j7 := Option.some.inj h; subst j7; replace h := (osum_r hK2); intro _; obtain rfl := inj1 h; exact ca_0
      · refine aSk ?_; refine ⟨(), (Option.some.inj h).symm, ?_⟩; exact ca_0
    · intro _; refine dr ?_; refine aCd ?_; intro _; refine litT ?_; refine aSq ?_; refine aRg ?_; intro _; obtain ⟨z8, u8, h⟩ := ob1_ok h; refine cl rfl (A_l13_awake u8) ?_; intro _; refine dr ?_; refine aRt ?_; have j9 := Option.some.inj h; subst j9; replace h := (osum_r hK2); intro _; obtain rfl := inj1 h; exact ca_0
  · rintro _ ho; have ho := ho.symm; subst ho; intro _; replace h := (osum_l hK2); refine aSq ?_; refine aRg ?_; intro _; obtain ⟨z9, z10, z11, u10, h⟩ := ob3_ok h; refine cl rfl (A_planfile_Parse a0 a1 u10) ?_; intro _; refine dr ?_; refine aSq ?_; refine aRg ?_; intro _; obtain ⟨z12, z13, z14, u11, h⟩ := ob3_ok h; refine cl rfl (A_r13_Parse g a0 a1 u11) ?_; intro _; refine dr ?_; refine aSq ?_; refine aRg ?_; intro _; obtain ⟨z15, u12, h⟩ := ob1_ok h; refine cl rfl (A_b_Num z11 u12) ?_; intro _; refine spl h (fun c13 h => ?_) (fun c13 h => ?_)
    · intro _; refine spl h (fun c14 h => ?_) (fun c14 h => ?_)
      · intro _; obtain ⟨z16, u15, h⟩ := ob1_ok h; refine cl rfl (A_l13_Same z9 z12 u15) ?_; intro _; refine dr ?_; refine aRt ?_; intro _; obtain rfl := inj1 h; exact ca_0
      · intro _; refine dr ?_; refine aRt ?_; intro _; obtain rfl := inj1 h; exact ca_0
    · intro _; refine dr ?_; refine aRt ?_; intro _; obtain rfl := inj1 h; exact ca_0
end Go.Proofs.YtljekaadbabhkaaDoor.Am
