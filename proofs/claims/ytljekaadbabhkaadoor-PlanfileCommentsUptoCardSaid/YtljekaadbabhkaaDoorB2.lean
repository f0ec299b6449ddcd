/- Texts of the proof, part 2 of 4. -/
import Derived.Test.YtljekaadbabhkaaDoorB1
import Derived.Test.YtljekaadbabhkaaDoorChecked
import Derived.WalkKit
import Derived.Laws.StructEq
import Derived.Laws.IdiomStrings
import Derived.Lib.Strings
import Derived.Laws.Cover3
import Derived.Lib.SmallJoins
import Derived.Lib.ItoaNum
import Derived.Lib.ConvBytes
import Derived.Lib.SlBytesRow
import Derived.Below
import Derived.Shelf.Strings.Builder1
import Derived.Shelf.Strings.Builder2
import Derived.Shelf.Strings.OnBuilder
import Derived.Shelf.Strings.Trim
import Derived.Shelf.Small.Utf8
import Derived.Shelf.Small.Strs
import Derived.Shelf.Strconv.Itoa0
import Derived.Shelf.Strconv.Itoa1
import Derived.Shelf.LaysM
import Derived.Shelf.Strconv.Itoa2
import Derived.Shelf.Strconv.Itoa3
import Derived.Shelf.Strconv.Clone
import Derived.Shelf.Strings.Search1
import Derived.Shelf.Strings.Search2
import Derived.Shelf.Strings.Search3
import Derived.Shelf.Strings.Cut
import Derived.Shelf.Strings.Count
import Derived.Shelf.Strings.Shaped
import Derived.Shelf.Strings.Split
import Derived.Shelf.Strings.SplitShaped
import Derived.Shelf.Strings.Runes
import Derived.Shelf.Strings.AsciiSet
import Derived.Shelf.Unicode.DecodeSlow
import Derived.Shelf.Strings.FieldsFuncAny
import Derived.Ground.Names2Prog
import Derived.Shelf.Slices.Clone
import Derived.Test.YtljekaadbabhkaaDoorProg
/- What the abstract machine knows of the types of the program. -/
namespace Go.Proofs.YtljekaadbabhkaaDoor.Am
open Go.RowKit

theorem ty_1 : TyOk Tryd.prog 1 ⟨1, 8, .nilFunc, .other⟩ := ⟨by kernel_rfl, ⟨_, Tryd.underlying1, (fun h => h)⟩, rfl⟩
theorem ty_2 : TyOk Tryd.prog 2 ⟨1, 8, .int .i64 0, .int .i64⟩ := ⟨by kernel_rfl, ⟨_, Tryd.underlying2, rfl⟩, rfl⟩
theorem ty_3 : TyOk Tryd.prog 3 ⟨1, 8, .int .i64 0, .int .i64⟩ := ⟨by kernel_rfl, ⟨_, Tryd.underlying3, rfl⟩, rfl⟩
theorem ty_4 : TyOk Tryd.prog 4 ⟨1, 1, .bool false, .bool⟩ := ⟨by kernel_rfl, ⟨_, Tryd.underlying4, trivial⟩, rfl⟩
theorem ty_5 : TyOk Tryd.prog 5 ⟨1, 1, .int .u8 0, .int .u8⟩ := ⟨by kernel_rfl, ⟨_, Tryd.underlying5, rfl⟩, rfl⟩
theorem ty_6 : TyOk Tryd.prog 6 ⟨1, 1, .int .u8 0, .int .u8⟩ := ⟨by kernel_rfl, ⟨_, Tryd.underlying6, rfl⟩, rfl⟩
theorem ty_7 : TyOk Tryd.prog 7 ⟨4, 24, .agg #[.int .i64 0, .int .i64 0, .bool false, .int .u8 0], .struct [(0, 2), (1, 3), (2, 4), (3, 6)]⟩ := ⟨by kernel_rfl, ⟨_, Tryd.underlying7, rfl⟩, rfl⟩
theorem ty_8 : TyOk Tryd.prog 8 ⟨4, 24, .agg #[.int .i64 0, .int .i64 0, .bool false, .int .u8 0], .struct [(0, 2), (1, 3), (2, 4), (3, 6)]⟩ := ⟨by kernel_rfl, ⟨_, Tryd.underlying8, rfl⟩, rfl⟩
theorem ty_9 : TyOk Tryd.prog 9 ⟨1, 16, .string .empty, .str⟩ := ⟨by kernel_rfl, ⟨_, Tryd.underlying9, trivial⟩, rfl⟩
theorem ty_10 : TyOk Tryd.prog 10 ⟨1, 16, .string .empty, .str⟩ := ⟨by kernel_rfl, ⟨_, Tryd.underlying10, trivial⟩, rfl⟩
theorem ty_11 : TyOk Tryd.prog 11 ⟨1, 16, .string .empty, .str⟩ := ⟨by kernel_rfl, ⟨_, Tryd.underlying11, trivial⟩, rfl⟩
theorem ty_12 : TyOk Tryd.prog 12 ⟨1, 8, .int .u64 0, .int .u64⟩ := ⟨by kernel_rfl, ⟨_, Tryd.underlying12, rfl⟩, rfl⟩
theorem ty_13 : TyOk Tryd.prog 13 ⟨2, 24, .agg #[.string .empty, .int .u64 0], .struct [(0, 9), (1, 12)]⟩ := ⟨by kernel_rfl, ⟨_, Tryd.underlying13, rfl⟩, rfl⟩
theorem ty_14 : TyOk Tryd.prog 14 ⟨2, 24, .agg #[.string .empty, .int .u64 0], .struct [(0, 9), (1, 12)]⟩ := ⟨by kernel_rfl, ⟨_, Tryd.underlying14, rfl⟩, rfl⟩
theorem ty_15 : TyOk Tryd.prog 15 ⟨1, 8, .pointer none, .ptr⟩ := ⟨by kernel_rfl, ⟨_, Tryd.underlying15, trivial⟩, rfl⟩
theorem ty_16 : TyOk Tryd.prog 16 ⟨1, 8, .pointer none, .ptr⟩ := ⟨by kernel_rfl, ⟨_, Tryd.underlying16, trivial⟩, rfl⟩
theorem ty_17 : TyOk Tryd.prog 17 ⟨1, 8, .pointer none, .ptr⟩ := ⟨by kernel_rfl, ⟨_, Tryd.underlying17, trivial⟩, rfl⟩
theorem ty_18 : TyOk Tryd.prog 18 ⟨1, 8, .agg #[.pointer none], .struct [(0, 17)]⟩ := ⟨by kernel_rfl, ⟨_, Tryd.underlying18, rfl⟩, rfl⟩
theorem ty_19 : TyOk Tryd.prog 19 ⟨1, 8, .agg #[.pointer none], .struct [(0, 17)]⟩ := ⟨by kernel_rfl, ⟨_, Tryd.underlying19, rfl⟩, rfl⟩
theorem ty_20 : TyOk Tryd.prog 20 ⟨1, 16, .nilIface, .iface⟩ := ⟨by kernel_rfl, ⟨_, Tryd.underlying20, trivial⟩, rfl⟩
theorem ty_21 : TyOk Tryd.prog 21 ⟨1, 4, .int .i32 0, .int .i32⟩ := ⟨by kernel_rfl, ⟨_, Tryd.underlying21, rfl⟩, rfl⟩
theorem ty_22 : TyOk Tryd.prog 22 ⟨1, 8, .nilFunc, .other⟩ := ⟨by kernel_rfl, ⟨_, Tryd.underlying22, (fun h => h)⟩, rfl⟩
theorem ty_23 : TyOk Tryd.prog 23 ⟨1, 24, .slice none 0 0, .slice 37⟩ := ⟨by kernel_rfl, ⟨_, Tryd.underlying23, rfl⟩, rfl⟩
theorem ty_24 : TyOk Tryd.prog 24 ⟨1, 16, .nilIface, .iface⟩ := ⟨by kernel_rfl, ⟨_, Tryd.underlying24, trivial⟩, rfl⟩
theorem ty_25 : TyOk Tryd.prog 25 ⟨1, 16, .nilIface, .iface⟩ := ⟨by kernel_rfl, ⟨_, Tryd.underlying25, trivial⟩, rfl⟩
theorem ty_27 : TyOk Tryd.prog 27 ⟨1, 8, .nilFunc, .other⟩ := ⟨by kernel_rfl, ⟨_, Tryd.underlying27, (fun h => h)⟩, rfl⟩
theorem ty_29 : TyOk Tryd.prog 29 ⟨1, 8, .nilFunc, .other⟩ := ⟨by kernel_rfl, ⟨_, Tryd.underlying29, (fun h => h)⟩, rfl⟩
theorem ty_30 : TyOk Tryd.prog 30 ⟨1, 8, .nilFunc, .other⟩ := ⟨by kernel_rfl, ⟨_, Tryd.underlying30, (fun h => h)⟩, rfl⟩
theorem ty_31 : TyOk Tryd.prog 31 ⟨1, 8, .nilFunc, .other⟩ := ⟨by kernel_rfl, ⟨_, Tryd.underlying31, (fun h => h)⟩, rfl⟩
theorem ty_32 : TyOk Tryd.prog 32 ⟨1, 8, .nilFunc, .other⟩ := ⟨by kernel_rfl, ⟨_, Tryd.underlying32, (fun h => h)⟩, rfl⟩
theorem ty_33 : TyOk Tryd.prog 33 ⟨1, 8, .nilFunc, .other⟩ := ⟨by kernel_rfl, ⟨_, Tryd.underlying33, (fun h => h)⟩, rfl⟩
theorem ty_34 : TyOk Tryd.prog 34 ⟨1, 8, .nilFunc, .other⟩ := ⟨by kernel_rfl, ⟨_, Tryd.underlying34, (fun h => h)⟩, rfl⟩
theorem ty_35 : TyOk Tryd.prog 35 ⟨1, 24, .slice none 0 0, .slice 9⟩ := ⟨by kernel_rfl, ⟨_, Tryd.underlying35, rfl⟩, rfl⟩
theorem ty_36 : TyOk Tryd.prog 36 ⟨3, 48, .agg #[.int .i64 0, .string .empty, .slice none 0 0], .struct [(0, 3), (1, 9), (2, 35)]⟩ := ⟨by kernel_rfl, ⟨_, Tryd.underlying36, rfl⟩, rfl⟩
theorem ty_37 : TyOk Tryd.prog 37 ⟨3, 48, .agg #[.int .i64 0, .string .empty, .slice none 0 0], .struct [(0, 3), (1, 9), (2, 35)]⟩ := ⟨by kernel_rfl, ⟨_, Tryd.underlying37, rfl⟩, rfl⟩
theorem ty_39 : TyOk Tryd.prog 39 ⟨1, 8, .nilFunc, .other⟩ := ⟨by kernel_rfl, ⟨_, Tryd.underlying39, (fun h => h)⟩, rfl⟩
theorem ty_41 : TyOk Tryd.prog 41 ⟨1, 8, .nilFunc, .other⟩ := ⟨by kernel_rfl, ⟨_, Tryd.underlying41, (fun h => h)⟩, rfl⟩
theorem ty_42 : TyOk Tryd.prog 42 ⟨1, 8, .nilFunc, .other⟩ := ⟨by kernel_rfl, ⟨_, Tryd.underlying42, (fun h => h)⟩, rfl⟩
theorem ty_43 : TyOk Tryd.prog 43 ⟨1, 24, .slice none 0 0, .slice 5⟩ := ⟨by kernel_rfl, ⟨_, Tryd.underlying43, rfl⟩, rfl⟩
theorem ty_44 : TyOk Tryd.prog 44 ⟨1, 8, .nilFunc, .other⟩ := ⟨by kernel_rfl, ⟨_, Tryd.underlying44, (fun h => h)⟩, rfl⟩
theorem ty_45 : TyOk Tryd.prog 45 ⟨1, 8, .nilFunc, .other⟩ := ⟨by kernel_rfl, ⟨_, Tryd.underlying45, (fun h => h)⟩, rfl⟩
theorem ty_46 : TyOk Tryd.prog 46 ⟨1, 8, .int .i64 0, .int .i64⟩ := ⟨by kernel_rfl, ⟨_, Tryd.underlying46, rfl⟩, rfl⟩
theorem ty_47 : TyOk Tryd.prog 47 ⟨1, 8, .nilFunc, .other⟩ := ⟨by kernel_rfl, ⟨_, Tryd.underlying47, (fun h => h)⟩, rfl⟩
theorem ty_48 : TyOk Tryd.prog 48 ⟨1, 8, .nilFunc, .other⟩ := ⟨by kernel_rfl, ⟨_, Tryd.underlying48, (fun h => h)⟩, rfl⟩
theorem ty_49 : TyOk Tryd.prog 49 ⟨1, 8, .nilFunc, .other⟩ := ⟨by kernel_rfl, ⟨_, Tryd.underlying49, (fun h => h)⟩, rfl⟩
theorem ty_50 : TyOk Tryd.prog 50 ⟨1, 8, .nilFunc, .other⟩ := ⟨by kernel_rfl, ⟨_, Tryd.underlying50, (fun h => h)⟩, rfl⟩
theorem ty_51 : TyOk Tryd.prog 51 ⟨1, 8, .nilFunc, .other⟩ := ⟨by kernel_rfl, ⟨_, Tryd.underlying51, (fun h => h)⟩, rfl⟩
theorem ty_53 : TyOk Tryd.prog 53 ⟨1, 8, .nilFunc, .other⟩ := ⟨by kernel_rfl, ⟨_, Tryd.underlying53, (fun h => h)⟩, rfl⟩
theorem ty_54 : TyOk Tryd.prog 54 ⟨1, 8, .nilFunc, .other⟩ := ⟨by kernel_rfl, ⟨_, Tryd.underlying54, (fun h => h)⟩, rfl⟩
theorem ty_55 : TyOk Tryd.prog 55 ⟨1, 8, .nilFunc, .other⟩ := ⟨by kernel_rfl, ⟨_, Tryd.underlying55, (fun h => h)⟩, rfl⟩
theorem ty_57 : TyOk Tryd.prog 57 ⟨1, 8, .nilFunc, .other⟩ := ⟨by kernel_rfl, ⟨_, Tryd.underlying57, (fun h => h)⟩, rfl⟩
theorem ty_59 : TyOk Tryd.prog 59 ⟨1, 8, .nilFunc, .other⟩ := ⟨by kernel_rfl, ⟨_, Tryd.underlying59, (fun h => h)⟩, rfl⟩
theorem ty_60 : TyOk Tryd.prog 60 ⟨1, 8, .nilFunc, .other⟩ := ⟨by kernel_rfl, ⟨_, Tryd.underlying60, (fun h => h)⟩, rfl⟩
theorem ty_61 : TyOk Tryd.prog 61 ⟨1, 8, .nilFunc, .other⟩ := ⟨by kernel_rfl, ⟨_, Tryd.underlying61, (fun h => h)⟩, rfl⟩
theorem ty_62 : TyOk Tryd.prog 62 ⟨1, 8, .nilFunc, .other⟩ := ⟨by kernel_rfl, ⟨_, Tryd.underlying62, (fun h => h)⟩, rfl⟩
theorem ty_63 : TyOk Tryd.prog 63 ⟨1, 8, .nilFunc, .other⟩ := ⟨by kernel_rfl, ⟨_, Tryd.underlying63, (fun h => h)⟩, rfl⟩
theorem ty_64 : TyOk Tryd.prog 64 ⟨1, 8, .nilFunc, .other⟩ := ⟨by kernel_rfl, ⟨_, Tryd.underlying64, (fun h => h)⟩, rfl⟩
theorem ty_65 : TyOk Tryd.prog 65 ⟨1, 8, .nilFunc, .other⟩ := ⟨by kernel_rfl, ⟨_, Tryd.underlying65, (fun h => h)⟩, rfl⟩
theorem ty_66 : TyOk Tryd.prog 66 ⟨1, 8, .pointer none, .ptr⟩ := ⟨by kernel_rfl, ⟨_, Tryd.underlying66, trivial⟩, rfl⟩
theorem ty_67 : TyOk Tryd.prog 67 ⟨2, 32, .agg #[.pointer none, .slice none 0 0], .struct [(0, 66), (1, 43)]⟩ := ⟨by kernel_rfl, ⟨_, Tryd.underlying67, rfl⟩, rfl⟩
theorem ty_68 : TyOk Tryd.prog 68 ⟨2, 32, .agg #[.pointer none, .slice none 0 0], .struct [(0, 66), (1, 43)]⟩ := ⟨by kernel_rfl, ⟨_, Tryd.underlying68, rfl⟩, rfl⟩
theorem ty_70 : TyOk Tryd.prog 70 ⟨1, 8, .nilFunc, .other⟩ := ⟨by kernel_rfl, ⟨_, Tryd.underlying70, (fun h => h)⟩, rfl⟩
theorem ty_71 : TyOk Tryd.prog 71 ⟨1, 8, .nilFunc, .other⟩ := ⟨by kernel_rfl, ⟨_, Tryd.underlying71, (fun h => h)⟩, rfl⟩
theorem ty_72 : TyOk Tryd.prog 72 ⟨1, 8, .nilFunc, .other⟩ := ⟨by kernel_rfl, ⟨_, Tryd.underlying72, (fun h => h)⟩, rfl⟩
theorem ty_73 : TyOk Tryd.prog 73 ⟨1, 8, .nilFunc, .other⟩ := ⟨by kernel_rfl, ⟨_, Tryd.underlying73, (fun h => h)⟩, rfl⟩
theorem ty_74 : TyOk Tryd.prog 74 ⟨1, 8, .nilFunc, .other⟩ := ⟨by kernel_rfl, ⟨_, Tryd.underlying74, (fun h => h)⟩, rfl⟩
theorem ty_75 : TyOk Tryd.prog 75 ⟨1, 8, .nilFunc, .other⟩ := ⟨by kernel_rfl, ⟨_, Tryd.underlying75, (fun h => h)⟩, rfl⟩
theorem ty_76 : TyOk Tryd.prog 76 ⟨1, 8, .nilFunc, .other⟩ := ⟨by kernel_rfl, ⟨_, Tryd.underlying76, (fun h => h)⟩, rfl⟩
theorem ty_80 : TyOk Tryd.prog 80 ⟨1, 8, .nilFunc, .other⟩ := ⟨by kernel_rfl, ⟨_, Tryd.underlying80, (fun h => h)⟩, rfl⟩
theorem ty_81 : TyOk Tryd.prog 81 ⟨1, 8, .nilFunc, .other⟩ := ⟨by kernel_rfl, ⟨_, Tryd.underlying81, (fun h => h)⟩, rfl⟩
theorem ty_82 : TyOk Tryd.prog 82 ⟨1, 8, .pointer none, .ptr⟩ := ⟨by kernel_rfl, ⟨_, Tryd.underlying82, trivial⟩, rfl⟩
theorem ty_84 : TyOk Tryd.prog 84 ⟨1, 8, .nilFunc, .other⟩ := ⟨by kernel_rfl, ⟨_, Tryd.underlying84, (fun h => h)⟩, rfl⟩
theorem ty_86 : TyOk Tryd.prog 86 ⟨1, 8, .nilFunc, .other⟩ := ⟨by kernel_rfl, ⟨_, Tryd.underlying86, (fun h => h)⟩, rfl⟩
theorem ty_87 : TyOk Tryd.prog 87 ⟨1, 8, .nilFunc, .other⟩ := ⟨by kernel_rfl, ⟨_, Tryd.underlying87, (fun h => h)⟩, rfl⟩
theorem ty_89 : TyOk Tryd.prog 89 ⟨1, 8, .nilFunc, .other⟩ := ⟨by kernel_rfl, ⟨_, Tryd.underlying89, (fun h => h)⟩, rfl⟩
theorem ty_90 : TyOk Tryd.prog 90 ⟨1, 8, .nilFunc, .other⟩ := ⟨by kernel_rfl, ⟨_, Tryd.underlying90, (fun h => h)⟩, rfl⟩
theorem ty_91 : TyOk Tryd.prog 91 ⟨1, 8, .nilFunc, .other⟩ := ⟨by kernel_rfl, ⟨_, Tryd.underlying91, (fun h => h)⟩, rfl⟩
theorem ty_92 : TyOk Tryd.prog 92 ⟨1, 8, .pointer none, .ptr⟩ := ⟨by kernel_rfl, ⟨_, Tryd.underlying92, trivial⟩, rfl⟩
theorem ty_93 : TyOk Tryd.prog 93 ⟨1, 8, .nilFunc, .other⟩ := ⟨by kernel_rfl, ⟨_, Tryd.underlying93, (fun h => h)⟩, rfl⟩
theorem ty_95 : TyOk Tryd.prog 95 ⟨1, 8, .nilFunc, .other⟩ := ⟨by kernel_rfl, ⟨_, Tryd.underlying95, (fun h => h)⟩, rfl⟩
theorem ty_96 : TyOk Tryd.prog 96 ⟨1, 8, .nilFunc, .other⟩ := ⟨by kernel_rfl, ⟨_, Tryd.underlying96, (fun h => h)⟩, rfl⟩
theorem ty_98 : TyOk Tryd.prog 98 ⟨1, 8, .nilFunc, .other⟩ := ⟨by kernel_rfl, ⟨_, Tryd.underlying98, (fun h => h)⟩, rfl⟩
theorem ty_99 : TyOk Tryd.prog 99 ⟨1, 8, .nilFunc, .other⟩ := ⟨by kernel_rfl, ⟨_, Tryd.underlying99, (fun h => h)⟩, rfl⟩
theorem ty_100 : TyOk Tryd.prog 100 ⟨1, 8, .nilFunc, .other⟩ := ⟨by kernel_rfl, ⟨_, Tryd.underlying100, (fun h => h)⟩, rfl⟩
theorem ty_101 : TyOk Tryd.prog 101 ⟨1, 8, .nilFunc, .other⟩ := ⟨by kernel_rfl, ⟨_, Tryd.underlying101, (fun h => h)⟩, rfl⟩
theorem ty_102 : TyOk Tryd.prog 102 ⟨1, 8, .nilFunc, .other⟩ := ⟨by kernel_rfl, ⟨_, Tryd.underlying102, (fun h => h)⟩, rfl⟩
theorem ty_103 : TyOk Tryd.prog 103 ⟨1, 8, .nilFunc, .other⟩ := ⟨by kernel_rfl, ⟨_, Tryd.underlying103, (fun h => h)⟩, rfl⟩
theorem ty_104 : TyOk Tryd.prog 104 ⟨1, 8, .nilFunc, .other⟩ := ⟨by kernel_rfl, ⟨_, Tryd.underlying104, (fun h => h)⟩, rfl⟩
theorem ty_106 : TyOk Tryd.prog 106 ⟨1, 8, .nilFunc, .other⟩ := ⟨by kernel_rfl, ⟨_, Tryd.underlying106, (fun h => h)⟩, rfl⟩
theorem ty_107 : TyOk Tryd.prog 107 ⟨1, 8, .nilFunc, .other⟩ := ⟨by kernel_rfl, ⟨_, Tryd.underlying107, (fun h => h)⟩, rfl⟩
theorem ty_108 : TyOk Tryd.prog 108 ⟨1, 8, .nilFunc, .other⟩ := ⟨by kernel_rfl, ⟨_, Tryd.underlying108, (fun h => h)⟩, rfl⟩
theorem ty_109 : TyOk Tryd.prog 109 ⟨1, 8, .nilFunc, .other⟩ := ⟨by kernel_rfl, ⟨_, Tryd.underlying109, (fun h => h)⟩, rfl⟩
theorem ty_110 : TyOk Tryd.prog 110 ⟨1, 8, .nilFunc, .other⟩ := ⟨by kernel_rfl, ⟨_, Tryd.underlying110, (fun h => h)⟩, rfl⟩
theorem ty_111 : TyOk Tryd.prog 111 ⟨1, 24, .slice none 0 0, .slice 113⟩ := ⟨by kernel_rfl, ⟨_, Tryd.underlying111, rfl⟩, rfl⟩
theorem ty_112 : TyOk Tryd.prog 112 ⟨2, 16, .agg #[.int .i64 0, .int .i64 0], .struct [(0, 3), (1, 3)]⟩ := ⟨by kernel_rfl, ⟨_, Tryd.underlying112, rfl⟩, rfl⟩
theorem ty_113 : TyOk Tryd.prog 113 ⟨2, 16, .agg #[.int .i64 0, .int .i64 0], .struct [(0, 3), (1, 3)]⟩ := ⟨by kernel_rfl, ⟨_, Tryd.underlying113, rfl⟩, rfl⟩
theorem ty_114 : TyOk Tryd.prog 114 ⟨1, 8, .nilFunc, .other⟩ := ⟨by kernel_rfl, ⟨_, Tryd.underlying114, (fun h => h)⟩, rfl⟩
theorem ty_115 : TyOk Tryd.prog 115 ⟨1, 8, .int .u64 0, .int .u64⟩ := ⟨by kernel_rfl, ⟨_, Tryd.underlying115, rfl⟩, rfl⟩
theorem ty_116 : TyOk Tryd.prog 116 ⟨24, 24, .agg #[.int .u8 0, .int .u8 0, .int .u8 0, .int .u8 0, .int .u8 0, .int .u8 0, .int .u8 0, .int .u8 0, .int .u8 0, .int .u8 0, .int .u8 0, .int .u8 0, .int .u8 0, .int .u8 0, .int .u8 0, .int .u8 0, .int .u8 0, .int .u8 0, .int .u8 0, .int .u8 0, .int .u8 0, .int .u8 0, .int .u8 0, .int .u8 0], .array 24 5⟩ := ⟨by kernel_rfl, ⟨_, Tryd.underlying116, ⟨rfl, rfl⟩⟩, rfl⟩
theorem ty_117 : TyOk Tryd.prog 117 ⟨1, 8, .int .u64 0, .int .u64⟩ := ⟨by kernel_rfl, ⟨_, Tryd.underlying117, rfl⟩, rfl⟩
theorem ty_118 : TyOk Tryd.prog 118 ⟨1, 8, .nilFunc, .other⟩ := ⟨by kernel_rfl, ⟨_, Tryd.underlying118, (fun h => h)⟩, rfl⟩
theorem ty_119 : TyOk Tryd.prog 119 ⟨1, 8, .nilFunc, .other⟩ := ⟨by kernel_rfl, ⟨_, Tryd.underlying119, (fun h => h)⟩, rfl⟩
theorem ty_121 : TyOk Tryd.prog 121 ⟨1, 8, .nilFunc, .other⟩ := ⟨by kernel_rfl, ⟨_, Tryd.underlying121, (fun h => h)⟩, rfl⟩
theorem ty_122 : TyOk Tryd.prog 122 ⟨1, 8, .nilFunc, .other⟩ := ⟨by kernel_rfl, ⟨_, Tryd.underlying122, (fun h => h)⟩, rfl⟩
theorem ty_123 : TyOk Tryd.prog 123 ⟨1, 8, .nilFunc, .other⟩ := ⟨by kernel_rfl, ⟨_, Tryd.underlying123, (fun h => h)⟩, rfl⟩
theorem ty_125 : TyOk Tryd.prog 125 ⟨2, 2, .agg #[.int .u8 0, .int .u8 0], .struct [(0, 5), (1, 5)]⟩ := ⟨by kernel_rfl, ⟨_, Tryd.underlying125, rfl⟩, rfl⟩
theorem ty_126 : TyOk Tryd.prog 126 ⟨2, 2, .agg #[.int .u8 0, .int .u8 0], .struct [(0, 5), (1, 5)]⟩ := ⟨by kernel_rfl, ⟨_, Tryd.underlying126, rfl⟩, rfl⟩
theorem ty_127 : TyOk Tryd.prog 127 ⟨32, 32, .agg #[.int .u8 0, .int .u8 0, .int .u8 0, .int .u8 0, .int .u8 0, .int .u8 0, .int .u8 0, .int .u8 0, .int .u8 0, .int .u8 0, .int .u8 0, .int .u8 0, .int .u8 0, .int .u8 0, .int .u8 0, .int .u8 0, .int .u8 0, .int .u8 0, .int .u8 0, .int .u8 0, .int .u8 0, .int .u8 0, .int .u8 0, .int .u8 0, .int .u8 0, .int .u8 0, .int .u8 0, .int .u8 0, .int .u8 0, .int .u8 0, .int .u8 0, .int .u8 0], .array 16 126⟩ := ⟨by kernel_rfl, ⟨_, Tryd.underlying127, ⟨rfl, rfl⟩⟩, rfl⟩
theorem ty_128 : TyOk Tryd.prog 128 ⟨1, 8, .nilFunc, .other⟩ := ⟨by kernel_rfl, ⟨_, Tryd.underlying128, (fun h => h)⟩, rfl⟩
theorem ty_129 : TyOk Tryd.prog 129 ⟨20, 160, .agg #[.int .u64 0, .int .u64 0, .int .u64 0, .int .u64 0, .int .u64 0, .int .u64 0, .int .u64 0, .int .u64 0, .int .u64 0, .int .u64 0, .int .u64 0, .int .u64 0, .int .u64 0, .int .u64 0, .int .u64 0, .int .u64 0, .int .u64 0, .int .u64 0, .int .u64 0, .int .u64 0], .array 20 117⟩ := ⟨by kernel_rfl, ⟨_, Tryd.underlying129, ⟨rfl, rfl⟩⟩, rfl⟩
theorem ty_130 : TyOk Tryd.prog 130 ⟨1, 4, .int .u32 0, .int .u32⟩ := ⟨by kernel_rfl, ⟨_, Tryd.underlying130, rfl⟩, rfl⟩
theorem ty_132 : TyOk Tryd.prog 132 ⟨1, 8, .nilFunc, .other⟩ := ⟨by kernel_rfl, ⟨_, Tryd.underlying132, (fun h => h)⟩, rfl⟩
theorem ty_133 : TyOk Tryd.prog 133 ⟨1, 8, .nilFunc, .other⟩ := ⟨by kernel_rfl, ⟨_, Tryd.underlying133, (fun h => h)⟩, rfl⟩
theorem ty_135 : TyOk Tryd.prog 135 ⟨1, 8, .nilFunc, .other⟩ := ⟨by kernel_rfl, ⟨_, Tryd.underlying135, (fun h => h)⟩, rfl⟩
theorem ty_136 : TyOk Tryd.prog 136 ⟨1, 8, .nilFunc, .other⟩ := ⟨by kernel_rfl, ⟨_, Tryd.underlying136, (fun h => h)⟩, rfl⟩
theorem ty_137 : TyOk Tryd.prog 137 ⟨32, 32, .agg #[.int .u8 0, .int .u8 0, .int .u8 0, .int .u8 0, .int .u8 0, .int .u8 0, .int .u8 0, .int .u8 0, .int .u8 0, .int .u8 0, .int .u8 0, .int .u8 0, .int .u8 0, .int .u8 0, .int .u8 0, .int .u8 0, .int .u8 0, .int .u8 0, .int .u8 0, .int .u8 0, .int .u8 0, .int .u8 0, .int .u8 0, .int .u8 0, .int .u8 0, .int .u8 0, .int .u8 0, .int .u8 0, .int .u8 0, .int .u8 0, .int .u8 0, .int .u8 0], .array 32 5⟩ := ⟨by kernel_rfl, ⟨_, Tryd.underlying137, ⟨rfl, rfl⟩⟩, rfl⟩
theorem ty_139 : TyOk Tryd.prog 139 ⟨4, 40, .agg #[.pointer none, .pointer none, .pointer none, .string .empty], .struct [(0, 17), (1, 17), (2, 17), (3, 9)]⟩ := ⟨by kernel_rfl, ⟨_, Tryd.underlying139, rfl⟩, rfl⟩
theorem ty_140 : TyOk Tryd.prog 140 ⟨4, 40, .agg #[.pointer none, .pointer none, .pointer none, .string .empty], .struct [(0, 17), (1, 17), (2, 17), (3, 9)]⟩ := ⟨by kernel_rfl, ⟨_, Tryd.underlying140, rfl⟩, rfl⟩
theorem ty_141 : TyOk Tryd.prog 141 ⟨0, 0, .agg #[], .array 0 16⟩ := ⟨by kernel_rfl, ⟨_, Tryd.underlying141, ⟨rfl, rfl⟩⟩, rfl⟩
theorem ty_142 : TyOk Tryd.prog 142 ⟨0, 0, .agg #[], .struct [(0, 141)]⟩ := ⟨by kernel_rfl, ⟨_, Tryd.underlying142, rfl⟩, rfl⟩
theorem ty_143 : TyOk Tryd.prog 143 ⟨0, 0, .agg #[], .struct [(0, 141)]⟩ := ⟨by kernel_rfl, ⟨_, Tryd.underlying143, rfl⟩, rfl⟩
theorem ty_144 : TyOk Tryd.prog 144 ⟨1, 1, .int .u8 0, .int .u8⟩ := ⟨by kernel_rfl, ⟨_, Tryd.underlying144, rfl⟩, rfl⟩
theorem ty_145 : TyOk Tryd.prog 145 ⟨1, 1, .int .u8 0, .int .u8⟩ := ⟨by kernel_rfl, ⟨_, Tryd.underlying145, rfl⟩, rfl⟩
theorem ty_146 : TyOk Tryd.prog 146 ⟨1, 8, .nilFunc, .other⟩ := ⟨by kernel_rfl, ⟨_, Tryd.underlying146, (fun h => h)⟩, rfl⟩
theorem ty_147 : TyOk Tryd.prog 147 ⟨1, 4, .int .i32 0, .int .i32⟩ := ⟨by kernel_rfl, ⟨_, Tryd.underlying147, rfl⟩, rfl⟩
theorem ty_148 : TyOk Tryd.prog 148 ⟨1, 4, .int .i32 0, .int .i32⟩ := ⟨by kernel_rfl, ⟨_, Tryd.underlying148, rfl⟩, rfl⟩
theorem ty_149 : TyOk Tryd.prog 149 ⟨11, 48, .agg #[.int .u64 0, .int .u64 0, .int .u32 0, .int .u8 0, .int .u8 0, .int .u8 0, .int .u8 0, .nilFunc, .pointer none, .int .i32 0, .int .i32 0], .struct [(0, 12), (1, 12), (2, 130), (3, 144), (4, 5), (5, 5), (6, 145), (7, 146), (8, 92), (9, 147), (10, 148)]⟩ := ⟨by kernel_rfl, ⟨_, Tryd.underlying149, rfl⟩, rfl⟩
theorem ty_150 : TyOk Tryd.prog 150 ⟨11, 48, .agg #[.int .u64 0, .int .u64 0, .int .u32 0, .int .u8 0, .int .u8 0, .int .u8 0, .int .u8 0, .nilFunc, .pointer none, .int .i32 0, .int .i32 0], .struct [(0, 12), (1, 12), (2, 130), (3, 144), (4, 5), (5, 5), (6, 145), (7, 146), (8, 92), (9, 147), (10, 148)]⟩ := ⟨by kernel_rfl, ⟨_, Tryd.underlying150, rfl⟩, rfl⟩
def allTy (P : Program) : Nat → List (Option TI) → Prop
  | _, [] => True
  | k, none :: r => allTy P (k + 1) r
  | k, some ti :: r => TyOk P k ti ∧ allTy P (k + 1) r
theorem allTy_at {P : Program} : ∀ {l : List (Option TI)} {k : Nat}, allTy P k l → ∀ (t : Nat) (ti : TI), l[t]? = some (some ti) → TyOk P (k + t) ti
  | [], _, _, t, ti, h => by simp at h
  | none :: r, k, ha, t, ti, h => by
    cases t with
    | zero => simp at h
    | succ t =>
      have := allTy_at (l := r) (k := k + 1) ha t ti (by simpa using h)
      rw [show k + (t + 1) = k + 1 + t from by omega]
      exact this
  | some x :: r, k, ha, t, ti, h => by
    cases t with
    | zero => simp at h; subst h; exact ha.1
    | succ t =>
      have := allTy_at (l := r) (k := k + 1) ha.2 t ti (by simpa using h)
      rw [show k + (t + 1) = k + 1 + t from by omega]
      exact this
def tyTab : List (Option TI) := [none,
  some ⟨1, 8, .nilFunc, .other⟩,
  some ⟨1, 8, .int .i64 0, .int .i64⟩,
  some ⟨1, 8, .int .i64 0, .int .i64⟩,
  some ⟨1, 1, .bool false, .bool⟩,
  some ⟨1, 1, .int .u8 0, .int .u8⟩,
  some ⟨1, 1, .int .u8 0, .int .u8⟩,
  some ⟨4, 24, .agg #[.int .i64 0, .int .i64 0, .bool false, .int .u8 0], .struct [(0, 2), (1, 3), (2, 4), (3, 6)]⟩,
  some ⟨4, 24, .agg #[.int .i64 0, .int .i64 0, .bool false, .int .u8 0], .struct [(0, 2), (1, 3), (2, 4), (3, 6)]⟩,
  some ⟨1, 16, .string .empty, .str⟩,
  some ⟨1, 16, .string .empty, .str⟩,
  some ⟨1, 16, .string .empty, .str⟩,
  some ⟨1, 8, .int .u64 0, .int .u64⟩,
  some ⟨2, 24, .agg #[.string .empty, .int .u64 0], .struct [(0, 9), (1, 12)]⟩,
  some ⟨2, 24, .agg #[.string .empty, .int .u64 0], .struct [(0, 9), (1, 12)]⟩,
  some ⟨1, 8, .pointer none, .ptr⟩,
  some ⟨1, 8, .pointer none, .ptr⟩,
  some ⟨1, 8, .pointer none, .ptr⟩,
  some ⟨1, 8, .agg #[.pointer none], .struct [(0, 17)]⟩,
  some ⟨1, 8, .agg #[.pointer none], .struct [(0, 17)]⟩,
  some ⟨1, 16, .nilIface, .iface⟩,
  some ⟨1, 4, .int .i32 0, .int .i32⟩,
  some ⟨1, 8, .nilFunc, .other⟩,
  some ⟨1, 24, .slice none 0 0, .slice 37⟩,
  some ⟨1, 16, .nilIface, .iface⟩,
  some ⟨1, 16, .nilIface, .iface⟩,
  none,
  some ⟨1, 8, .nilFunc, .other⟩,
  none,
  some ⟨1, 8, .nilFunc, .other⟩,
  some ⟨1, 8, .nilFunc, .other⟩,
  some ⟨1, 8, .nilFunc, .other⟩,
  some ⟨1, 8, .nilFunc, .other⟩,
  some ⟨1, 8, .nilFunc, .other⟩,
  some ⟨1, 8, .nilFunc, .other⟩,
  some ⟨1, 24, .slice none 0 0, .slice 9⟩,
  some ⟨3, 48, .agg #[.int .i64 0, .string .empty, .slice none 0 0], .struct [(0, 3), (1, 9), (2, 35)]⟩,
  some ⟨3, 48, .agg #[.int .i64 0, .string .empty, .slice none 0 0], .struct [(0, 3), (1, 9), (2, 35)]⟩,
  none,
  some ⟨1, 8, .nilFunc, .other⟩,
  none,
  some ⟨1, 8, .nilFunc, .other⟩,
  some ⟨1, 8, .nilFunc, .other⟩,
  some ⟨1, 24, .slice none 0 0, .slice 5⟩,
  some ⟨1, 8, .nilFunc, .other⟩,
  some ⟨1, 8, .nilFunc, .other⟩,
  some ⟨1, 8, .int .i64 0, .int .i64⟩,
  some ⟨1, 8, .nilFunc, .other⟩,
  some ⟨1, 8, .nilFunc, .other⟩,
  some ⟨1, 8, .nilFunc, .other⟩,
  some ⟨1, 8, .nilFunc, .other⟩,
  some ⟨1, 8, .nilFunc, .other⟩,
  none,
  some ⟨1, 8, .nilFunc, .other⟩,
  some ⟨1, 8, .nilFunc, .other⟩,
  some ⟨1, 8, .nilFunc, .other⟩,
  none,
  some ⟨1, 8, .nilFunc, .other⟩,
  none,
  some ⟨1, 8, .nilFunc, .other⟩,
  some ⟨1, 8, .nilFunc, .other⟩,
  some ⟨1, 8, .nilFunc, .other⟩,
  some ⟨1, 8, .nilFunc, .other⟩,
  some ⟨1, 8, .nilFunc, .other⟩,
  some ⟨1, 8, .nilFunc, .other⟩,
  some ⟨1, 8, .nilFunc, .other⟩,
  some ⟨1, 8, .pointer none, .ptr⟩,
  some ⟨2, 32, .agg #[.pointer none, .slice none 0 0], .struct [(0, 66), (1, 43)]⟩,
  some ⟨2, 32, .agg #[.pointer none, .slice none 0 0], .struct [(0, 66), (1, 43)]⟩,
  none,
  some ⟨1, 8, .nilFunc, .other⟩,
  some ⟨1, 8, .nilFunc, .other⟩,
  some ⟨1, 8, .nilFunc, .other⟩,
  some ⟨1, 8, .nilFunc, .other⟩,
  some ⟨1, 8, .nilFunc, .other⟩,
  some ⟨1, 8, .nilFunc, .other⟩,
  some ⟨1, 8, .nilFunc, .other⟩,
  none,
  none,
  none,
  some ⟨1, 8, .nilFunc, .other⟩,
  some ⟨1, 8, .nilFunc, .other⟩,
  some ⟨1, 8, .pointer none, .ptr⟩,
  none,
  some ⟨1, 8, .nilFunc, .other⟩,
  none,
  some ⟨1, 8, .nilFunc, .other⟩,
  some ⟨1, 8, .nilFunc, .other⟩,
  none,
  some ⟨1, 8, .nilFunc, .other⟩,
  some ⟨1, 8, .nilFunc, .other⟩,
  some ⟨1, 8, .nilFunc, .other⟩,
  some ⟨1, 8, .pointer none, .ptr⟩,
  some ⟨1, 8, .nilFunc, .other⟩,
  none,
  some ⟨1, 8, .nilFunc, .other⟩,
  some ⟨1, 8, .nilFunc, .other⟩,
  none,
  some ⟨1, 8, .nilFunc, .other⟩,
  some ⟨1, 8, .nilFunc, .other⟩,
  some ⟨1, 8, .nilFunc, .other⟩,
  some ⟨1, 8, .nilFunc, .other⟩,
  some ⟨1, 8, .nilFunc, .other⟩,
  some ⟨1, 8, .nilFunc, .other⟩,
  some ⟨1, 8, .nilFunc, .other⟩,
  none,
  some ⟨1, 8, .nilFunc, .other⟩,
  some ⟨1, 8, .nilFunc, .other⟩,
  some ⟨1, 8, .nilFunc, .other⟩,
  some ⟨1, 8, .nilFunc, .other⟩,
  some ⟨1, 8, .nilFunc, .other⟩,
  some ⟨1, 24, .slice none 0 0, .slice 113⟩,
  some ⟨2, 16, .agg #[.int .i64 0, .int .i64 0], .struct [(0, 3), (1, 3)]⟩,
  some ⟨2, 16, .agg #[.int .i64 0, .int .i64 0], .struct [(0, 3), (1, 3)]⟩,
  some ⟨1, 8, .nilFunc, .other⟩,
  some ⟨1, 8, .int .u64 0, .int .u64⟩,
  some ⟨24, 24, .agg #[.int .u8 0, .int .u8 0, .int .u8 0, .int .u8 0, .int .u8 0, .int .u8 0, .int .u8 0, .int .u8 0, .int .u8 0, .int .u8 0, .int .u8 0, .int .u8 0, .int .u8 0, .int .u8 0, .int .u8 0, .int .u8 0, .int .u8 0, .int .u8 0, .int .u8 0, .int .u8 0, .int .u8 0, .int .u8 0, .int .u8 0, .int .u8 0], .array 24 5⟩,
  some ⟨1, 8, .int .u64 0, .int .u64⟩,
  some ⟨1, 8, .nilFunc, .other⟩,
  some ⟨1, 8, .nilFunc, .other⟩,
  none,
  some ⟨1, 8, .nilFunc, .other⟩,
  some ⟨1, 8, .nilFunc, .other⟩,
  some ⟨1, 8, .nilFunc, .other⟩,
  none,
  some ⟨2, 2, .agg #[.int .u8 0, .int .u8 0], .struct [(0, 5), (1, 5)]⟩,
  some ⟨2, 2, .agg #[.int .u8 0, .int .u8 0], .struct [(0, 5), (1, 5)]⟩,
  some ⟨32, 32, .agg #[.int .u8 0, .int .u8 0, .int .u8 0, .int .u8 0, .int .u8 0, .int .u8 0, .int .u8 0, .int .u8 0, .int .u8 0, .int .u8 0, .int .u8 0, .int .u8 0, .int .u8 0, .int .u8 0, .int .u8 0, .int .u8 0, .int .u8 0, .int .u8 0, .int .u8 0, .int .u8 0, .int .u8 0, .int .u8 0, .int .u8 0, .int .u8 0, .int .u8 0, .int .u8 0, .int .u8 0, .int .u8 0, .int .u8 0, .int .u8 0, .int .u8 0, .int .u8 0], .array 16 126⟩,
  some ⟨1, 8, .nilFunc, .other⟩,
  some ⟨20, 160, .agg #[.int .u64 0, .int .u64 0, .int .u64 0, .int .u64 0, .int .u64 0, .int .u64 0, .int .u64 0, .int .u64 0, .int .u64 0, .int .u64 0, .int .u64 0, .int .u64 0, .int .u64 0, .int .u64 0, .int .u64 0, .int .u64 0, .int .u64 0, .int .u64 0, .int .u64 0, .int .u64 0], .array 20 117⟩,
  some ⟨1, 4, .int .u32 0, .int .u32⟩,
  none,
  some ⟨1, 8, .nilFunc, .other⟩,
  some ⟨1, 8, .nilFunc, .other⟩,
  none,
  some ⟨1, 8, .nilFunc, .other⟩,
  some ⟨1, 8, .nilFunc, .other⟩,
  some ⟨32, 32, .agg #[.int .u8 0, .int .u8 0, .int .u8 0, .int .u8 0, .int .u8 0, .int .u8 0, .int .u8 0, .int .u8 0, .int .u8 0, .int .u8 0, .int .u8 0, .int .u8 0, .int .u8 0, .int .u8 0, .int .u8 0, .int .u8 0, .int .u8 0, .int .u8 0, .int .u8 0, .int .u8 0, .int .u8 0, .int .u8 0, .int .u8 0, .int .u8 0, .int .u8 0, .int .u8 0, .int .u8 0, .int .u8 0, .int .u8 0, .int .u8 0, .int .u8 0, .int .u8 0], .array 32 5⟩,
  none,
  some ⟨4, 40, .agg #[.pointer none, .pointer none, .pointer none, .string .empty], .struct [(0, 17), (1, 17), (2, 17), (3, 9)]⟩,
  some ⟨4, 40, .agg #[.pointer none, .pointer none, .pointer none, .string .empty], .struct [(0, 17), (1, 17), (2, 17), (3, 9)]⟩,
  some ⟨0, 0, .agg #[], .array 0 16⟩,
  some ⟨0, 0, .agg #[], .struct [(0, 141)]⟩,
  some ⟨0, 0, .agg #[], .struct [(0, 141)]⟩,
  some ⟨1, 1, .int .u8 0, .int .u8⟩,
  some ⟨1, 1, .int .u8 0, .int .u8⟩,
  some ⟨1, 8, .nilFunc, .other⟩,
  some ⟨1, 4, .int .i32 0, .int .i32⟩,
  some ⟨1, 4, .int .i32 0, .int .i32⟩,
  some ⟨11, 48, .agg #[.int .u64 0, .int .u64 0, .int .u32 0, .int .u8 0, .int .u8 0, .int .u8 0, .int .u8 0, .nilFunc, .pointer none, .int .i32 0, .int .i32 0], .struct [(0, 12), (1, 12), (2, 130), (3, 144), (4, 5), (5, 5), (6, 145), (7, 146), (8, 92), (9, 147), (10, 148)]⟩,
  some ⟨11, 48, .agg #[.int .u64 0, .int .u64 0, .int .u32 0, .int .u8 0, .int .u8 0, .int .u8 0, .int .u8 0, .nilFunc, .pointer none, .int .i32 0, .int .i32 0], .struct [(0, 12), (1, 12), (2, 130), (3, 144), (4, 5), (5, 5), (6, 145), (7, 146), (8, 92), (9, 147), (10, 148)]⟩]
theorem tyAll : allTy Tryd.prog 0 tyTab := ⟨ty_1, ty_2, ty_3, ty_4, ty_5, ty_6, ty_7, ty_8, ty_9, ty_10, ty_11, ty_12, ty_13, ty_14, ty_15, ty_16, ty_17, ty_18, ty_19, ty_20, ty_21, ty_22, ty_23, ty_24, ty_25, ty_27, ty_29, ty_30, ty_31, ty_32, ty_33, ty_34, ty_35, ty_36, ty_37, ty_39, ty_41, ty_42, ty_43, ty_44, ty_45, ty_46, ty_47, ty_48, ty_49, ty_50, ty_51, ty_53, ty_54, ty_55, ty_57, ty_59, ty_60, ty_61, ty_62, ty_63, ty_64, ty_65, ty_66, ty_67, ty_68, ty_70, ty_71, ty_72, ty_73, ty_74, ty_75, ty_76, ty_80, ty_81, ty_82, ty_84, ty_86, ty_87, ty_89, ty_90, ty_91, ty_92, ty_93, ty_95, ty_96, ty_98, ty_99, ty_100, ty_101, ty_102, ty_103, ty_104, ty_106, ty_107, ty_108, ty_109, ty_110, ty_111, ty_112, ty_113, ty_114, ty_115, ty_116, ty_117, ty_118, ty_119, ty_121, ty_122, ty_123, ty_125, ty_126, ty_127, ty_128, ty_129, ty_130, ty_132, ty_133, ty_135, ty_136, ty_137, ty_139, ty_140, ty_141, ty_142, ty_143, ty_144, ty_145, ty_146, ty_147, ty_148, ty_149, ty_150, trivial⟩
theorem tyTab_ok (t : Nat) (ti : TI) (h : tyTab[t]? = some (some ti)) : TyOk Tryd.prog t ti := by
  have := allTy_at tyAll t ti h
  rwa [Nat.zero_add] at this
end Go.Proofs.YtljekaadbabhkaaDoor.Am
/- The abstract machine: cells of numbers, facts, nogoods. -/
namespace Go.Proofs.YtljekaadbabhkaaDoor.Am
open Go.RowKit

def cI (z : Int) : List AV := [.c (.int .i64 z)]
def cF (x : Fact) : List AV := [.c (.int .i64 x.1), .c (.int .i64 x.2)]
def cN (x : Nogood) : List AV := [.sl 2 (x.1.map cF), .c (.int .i64 x.2)]
theorem wrap_eq {z : Int} (h1 : -9223372036854775808 ≤ z) (h2 : z ≤ 9223372036854775807) : IntKind.i64.wrap z = z := by
  rw [IntKind.wrap_i64]
  omega
theorem map_at' {α β : Type} {l : List α} {f : α → β} {k : Nat} {x : α} (h : l[k]? = some x) : (l.map f)[k]? = some (f x) := by
  rw [List.getElem?_map, h]
  rfl
theorem FrL_map {α : Type} {l : List α} {f : α → List AV} (h : ∀ x ∈ l, ∀ y ∈ f x, Fr y) : FrL (l.map f) := by
  intro e he y hy
  obtain ⟨x, hx, rfl⟩ := List.mem_map.1 he
  exact h x hx y hy
theorem fr_cF (x : Fact) : ∀ y ∈ cF x, Fr y := by
  intro y hy
  simp [cF] at hy
  rcases hy with rfl | rfl <;> exact .c _
theorem frl_cF (l : List Fact) : FrL (l.map cF) := FrL_map (fun x _ => fr_cF x)
theorem fr_cN (x : Nogood) : ∀ y ∈ cN x, Fr y := by
  intro y hy
  simp [cN] at hy
  rcases hy with rfl | rfl
  · exact .sl (frl_cF _)
  · exact .c _
theorem frl_cN (l : List Nogood) : FrL (l.map cN) := FrL_map (fun x _ => fr_cN x)
theorem frl_cI (l : List Int) : FrL (l.map cI) := FrL_map (fun x _ y hy => by simp [cI] at hy; subst hy; exact .c _)
theorem FrL_append {a b : List (List AV)} (h1 : FrL a) (h2 : FrL b) : FrL (a ++ b) := by
  intro e he
  rcases List.mem_append.1 he with h | h
  · exact h1 e h
  · exact h2 e h

theorem get_map {α β : Type} {l : List α} {f : α → β} {k : Nat} {e : β} (h : (l.map f)[k]? = some e) : ∃ x, l[k]? = some x ∧ e = f x := by
  rw [List.getElem?_map] at h
  cases hx : l[k]? with
  | none => rw [hx] at h; cases h
  | some x => rw [hx] at h; simp at h; exact ⟨x, rfl, h.symm⟩

end Go.Proofs.YtljekaadbabhkaaDoor.Am
/- Words of the models that my decompiler prints, and what their proofs use: choices, guards, elements, calls, parts of code. -/
namespace Go.Proofs.YtljekaadbabhkaaDoor.Am
open Go.RowKit

def sel {α : Type} (b : Bool) (x y : Option α) : Option α :=
  match b with
  | true => x
  | false => y
def grd {α : Type} (p : Prop) [Decidable p] (x : Option α) : Option α := if p then x else none
def ixn {α β : Type} (l : List α) (i : Nat) (k : α → Option β) : Option β :=
  match l[i]? with
  | some y => k y
  | none => none
def ix {α β : Type} (l : List α) (i : Int) (k : α → Option β) : Option β := ixn l i.toNat (fun y => grd (0 ≤ i) (k y))
def ob1 {α β : Type} (x : Option α) (k : α → Option β) : Option β :=
  match x with
  | some a => k a
  | none => none
def ob2 {α β γ : Type} (x : Option (α × β)) (k : α → β → Option γ) : Option γ :=
  match x with
  | some (a, b) => k a b
  | none => none
def ob3 {α β γ δ : Type} (x : Option (α × β × γ)) (k : α → β → γ → Option δ) : Option δ :=
  match x with
  | some (a, b, c) => k a b c
  | none => none
def osum {α β γ : Type} (f : α → Option γ) (g : β → Option γ) : α ⊕ β → Option γ
  | .inl a => f a
  | .inr b => g b
/-- errors: none, or one of the document's by its number -/
inductive Er where
  | nil
  | no (z : Int)
  deriving DecidableEq
def eA : Er → AV
  | .nil => .c .nilIface
  | .no z => .ifc 46 (.c (.int .i64 z))
def erM {α : Type} (e : Er) (x : Option α) (k : Int → Option α) : Option α :=
  match e with
  | .nil => x
  | .no z => k z
/-- a byte of a text -/
abbrev byt (s : ByteArray) (i : Int) : Int := ((s.data.getD i.toNat 0).toNat : Int)

section
variable {α β γ δ ε : Type}
theorem sel_t {b : Bool} {x y z : Option α} (hb : b = true) (h : sel b x y = z) : x = z := by subst hb; exact h
theorem sel_f {b : Bool} {x y z : Option α} (hb : b = false) (h : sel b x y = z) : y = z := by subst hb; exact h
theorem spl {b : Bool} {x y z : Option α} {P Q : Prop} (h : sel b x y = z) (t : b = true → x = z → P) (f : b = false → y = z → Q) : (b = true → P) ∧ (b = false → Q) := ⟨fun hb => t hb (sel_t hb h), fun hb => f hb (sel_f hb h)⟩
theorem spf {b : Bool} {x y z : Option α} {P Q : Prop} (h : sel b x y = z) (f : b = false → y = z → Q) (t : b = true → x = z → P) : (b = false → Q) ∧ (b = true → P) := ⟨fun hb => f hb (sel_f hb h), fun hb => t hb (sel_t hb h)⟩
theorem litT {P Q : Prop} (h : P) : (true = true → P) ∧ (true = false → Q) := ⟨fun _ => h, fun e => (by cases e)⟩
theorem litF {P Q : Prop} (h : Q) : (false = true → P) ∧ (false = false → Q) := ⟨fun e => (by cases e), fun _ => h⟩
theorem grd_ok {p : Prop} [Decidable p] {x : Option α} {z : α} (h : grd p x = some z) : p ∧ x = some z := by
  unfold grd at h
  split at h
  · exact ⟨by assumption, h⟩
  · cases h
theorem ixn_ok {l : List α} {i : Nat} {k : α → Option β} {z : β} (h : ixn l i k = some z) : ∃ y, l[i]? = some y ∧ k y = some z := by
  unfold ixn at h
  split at h
  · exact ⟨_, by assumption, h⟩
  · cases h
theorem ix_ok {l : List α} {i : Int} {k : α → Option β} {z : β} (h : ix l i k = some z) : ∃ y, l[i.toNat]? = some y ∧ 0 ≤ i ∧ k y = some z := by
  obtain ⟨y, h1, h2⟩ := ixn_ok h
  obtain ⟨h3, h4⟩ := grd_ok h2
  exact ⟨y, h1, h3, h4⟩
theorem ob1_ok {x : Option α} {k : α → Option β} {z : β} (h : ob1 x k = some z) : ∃ a, x = some a ∧ k a = some z := by
  match x, h with
  | some a, h => exact ⟨a, rfl, h⟩
theorem ob2_ok {x : Option (α × β)} {k : α → β → Option γ} {z : γ} (h : ob2 x k = some z) : ∃ a b, x = some (a, b) ∧ k a b = some z := by
  match x, h with
  | some (a, b), h => exact ⟨a, b, rfl, h⟩
theorem ob3_ok {x : Option (α × β × γ)} {k : α → β → γ → Option δ} {z : δ} (h : ob3 x k = some z) : ∃ a b c, x = some (a, b, c) ∧ k a b c = some z := by
  match x, h with
  | some (a, b, c), h => exact ⟨a, b, c, rfl, h⟩
theorem osum_l {f : α → Option γ} {g : β → Option γ} {a : α} {z : Option γ} (h : osum f g (.inl a) = z) : f a = z := h
theorem osum_r {f : α → Option γ} {g : β → Option γ} {b : β} {z : Option γ} (h : osum f g (.inr b) = z) : g b = z := h
theorem erM_nil {x : Option α} {k : Int → Option α} {z : Option α} (h : erM .nil x k = z) : x = z := h
theorem erM_no {x : Option α} {k : Int → Option α} {e : Int} {z : Option α} (h : erM (.no e) x k = z) : k e = z := h
theorem succ_of {f : Nat → Option α} {n : Nat} {o : α} (h0 : f 0 = none) (h : f n = some o) : ∃ k, n = k + 1 ∧ f (k + 1) = some o := by
  cases n with
  | zero => rw [h0] at h; cases h
  | succ k => exact ⟨k, rfl, h⟩
theorem ltS {n k : Nat} (h : n = k + 1) : k < n := by omega
theorem inj1 {a b : α} (h : some a = some b) : a = b := Option.some.inj h
theorem inj2 {a a' : α} {b b' : β} (h : some (a, b) = some (a', b')) : a = a' ∧ b = b' := by injection h with h; injection h with h1 h2; exact ⟨h1, h2⟩
theorem inj3 {a a' : α} {b b' : β} {c c' : γ} (h : some (a, b, c) = some (a', b', c')) : a = a' ∧ b = b' ∧ c = c' := by injection h with h; injection h with h1 h2; injection h2 with h2 h3; exact ⟨h1, h2, h3⟩
end

section
variable {C : Cx} {Q : Exit → St → Prop} {s : St}
/-- a part of the code on its own: behind it stands one of the states of a family -/
theorem awp_cut {α : Type} {x y : Code} (I : α → St) (P : α → Prop) (h1 : AWP C x (thenA (fun s' => ∃ v, P v ∧ leK s' (I v) True) Q) s)
    (h2 : ∀ v, P v → forceK (I v).tm (fun tm => forceK (I v).hp (fun hp => True → AWP C y Q ⟨tm, hp⟩))) : AWP C (.seq x y) Q s := by
  refine aSq (awp_mono h1 (fun e s' h => ?_))
  cases e <;> first | exact h | skip
  obtain ⟨v, hp, hl⟩ := h
  have h3 := forceK_ok (forceK_ok (h2 v hp)) trivial
  exact awp_le hl h3
end

/-- no handle of the call's own -/
theorem FrL_nil : FrL [] := fun e he => by cases he
theorem FrL_cons {e : List AV} {l : List (List AV)} (h1 : ∀ y ∈ e, Fr y) (h2 : FrL l) : FrL (e :: l) := by
  intro a ha
  rcases List.mem_cons.1 ha with rfl | h
  · exact h1
  · exact h2 a h
theorem FrC_nil : ∀ y ∈ ([] : List AV), Fr y := fun y hy => by cases hy
theorem FrC_cons {x : AV} {r : List AV} (h1 : Fr x) (h2 : ∀ y ∈ r, Fr y) : ∀ y ∈ x :: r, Fr y := by
  intro a ha
  rcases List.mem_cons.1 ha with rfl | h
  · exact h1
  · exact h2 a h
theorem FrL_set {l : List (List AV)} {k : Nat} {e : List AV} (h1 : FrL l) (h2 : ∀ y ∈ e, Fr y) : FrL (l.set k e) := by
  intro a ha
  rcases List.mem_or_eq_of_mem_set ha with h | rfl
  · exact h1 a h
  · exact h2
theorem fr_eA (e : Er) : Fr (eA e) := by
  cases e
  · exact .c _
  · exact .ifc (.c _)
theorem fr0_eA (e : Er) : fr0 (eA e) := by cases e <;> first | trivial | exact .ifc (.c _)
theorem fr1_eA (e : Er) : fr1 (eA e) := by cases e <;> first | trivial | exact .ifc (.c _)
theorem fr1_fr {x : AV} (h : Fr x) : fr1 x := by
  cases h with
  | agg h =>
    rename_i cs
    show frs0 cs
    induction cs with
    | nil => trivial
    | cons y r ih => exact ⟨by have := h y (by simp); unfold fr0; split <;> first | trivial | exact this, ih (fun z hz => h z (by simp [hz]))⟩
  | tup h =>
    rename_i cs
    show frs0 cs
    induction cs with
    | nil => trivial
    | cons y r ih => exact ⟨by have := h y (by simp); unfold fr0; split <;> first | trivial | exact this, ih (fun z hz => h z (by simp [hz]))⟩
  | c v => trivial
  | sl h => trivial
  | pim h => exact .pim h
  | clo h1 h2 => exact .clo h1 h2
  | ifc h => exact .ifc h
theorem take_len_map {α β : Type} {l : List α} {f : α → β} : (l.map f).take l.length = l.map f := List.take_of_length_le (Nat.le_of_eq (List.length_map _))
/-- the same, found by instances -/
class FrI (l : List (List AV)) : Prop where
  h : FrL l
class FrE (e : List AV) : Prop where
  h : ∀ y ∈ e, Fr y
class FrV (x : AV) : Prop where
  h : Fr x
instance : FrI [] := ⟨FrL_nil⟩
instance {e : List AV} {l : List (List AV)} [a : FrE e] [b : FrI l] : FrI (e :: l) := ⟨FrL_cons a.h b.h⟩
instance {l r : List (List AV)} [a : FrI l] [b : FrI r] : FrI (l ++ r) := ⟨FrL_append a.h b.h⟩
instance {l : List (List AV)} {k : Nat} {e : List AV} [a : FrI l] [b : FrE e] : FrI (l.set k e) := ⟨FrL_set a.h b.h⟩
instance {l : List (List AV)} {k : Nat} [a : FrI l] : FrI (l.take k) := ⟨fun e he => a.h e (List.mem_of_mem_take he)⟩
instance {l : List (List AV)} {k : Nat} [a : FrI l] : FrI (l.drop k) := ⟨fun e he => a.h e (List.mem_of_mem_drop he)⟩
instance : FrE [] := ⟨FrC_nil⟩
instance {x : AV} {r : List AV} [a : FrV x] [b : FrE r] : FrE (x :: r) := ⟨FrC_cons a.h b.h⟩
instance {v : Value} : FrV (.c v) := ⟨.c v⟩
instance {sz : Nat} {l : List (List AV)} [a : FrI l] : FrV (.sl sz l) := ⟨.sl a.h⟩
instance {t : Nat} {x : AV} [a : FrV x] : FrV (.ifc t x) := ⟨.ifc a.h⟩
instance {e : Er} : FrV (eA e) := ⟨fr_eA e⟩
instance {cs : List AV} [a : FrE cs] : FrV (.agg cs) := ⟨.agg a.h⟩
instance {e : List AV} {j : Nat} [a : FrE e] : FrV (.pim e j) := ⟨.pim a.h⟩
instance {f : Fn} {cs ds : List AV} [a : FrE cs] [b : FrE ds] : FrV (.clo f cs ds) := ⟨.clo a.h b.h⟩
instance {l : List Fact} : FrI (l.map cF) := ⟨frl_cF l⟩
instance {l : List Nogood} : FrI (l.map cN) := ⟨frl_cN l⟩
instance {l : List Int} : FrI (l.map cI) := ⟨frl_cI l⟩
def cS (x : ByteArray) : List AV := [.c (.string x)]
theorem fr_cS (x : ByteArray) : ∀ y ∈ cS x, Fr y := FrC_cons (.c _) FrC_nil
theorem frl_cS (l : List ByteArray) : FrL (l.map cS) := FrL_map (fun x _ => fr_cS x)
instance {l : List ByteArray} : FrI (l.map cS) := ⟨frl_cS l⟩
def cB (x : Bool) : List AV := [.c (.bool x)]
theorem fr_cB (x : Bool) : ∀ y ∈ cB x, Fr y := FrC_cons (.c _) FrC_nil
theorem frl_cB (l : List Bool) : FrL (l.map cB) := FrL_map (fun x _ => fr_cB x)
instance {l : List Bool} : FrI (l.map cB) := ⟨frl_cB l⟩
def c_u8 (x : Int) : List AV := [.c (.int .u8 x)]
theorem fr_c_u8 (x : Int) : ∀ y ∈ c_u8 x, Fr y := FrC_cons (.c _) FrC_nil
theorem frl_c_u8 (l : List Int) : FrL (l.map c_u8) := FrL_map (fun x _ => fr_c_u8 x)
instance {l : List Int} : FrI (l.map c_u8) := ⟨frl_c_u8 l⟩
/-- the bytes of a text as numbers -/
def bys (s : ByteArray) : List Int := s.data.toList.map (fun c => (c.toNat : Int))
end Go.Proofs.YtljekaadbabhkaaDoor.Am
/- An abstract machine (4): calls that get own memory (lent, or given away), closures, make, equality of structs of two numbers. -/
namespace Go.Proofs.YtljekaadbabhkaaDoor.Am
open Go.RowKit
/-- some blocks are no more -/
def dropB (η : Nat → Ent) (bs : List Nat) : Nat → Ent := fun i => if i ∈ bs then ⟨(η i).ver, none⟩ else η i
theorem drop_in {η : Nat → Ent} {bs : List Nat} {i : Nat} (h : i ∈ bs) : (dropB η bs i).blk = none := by simp [dropB, h]
theorem drop_out {η : Nat → Ent} {bs : List Nat} {i : Nat} (h : i ∉ bs) : dropB η bs i = η i := by simp [dropB, h]
theorem in_of_drop {η : Nat → Ent} {bs : List Nat} {i ver : Nat} {B : Blk} (h1 : η i = ⟨ver, some B⟩) (h2 : (dropB η bs i).blk = none) : i ∈ bs := by
  by_cases h : i ∈ bs
  · exact h
  · rw [drop_out h, h1] at h2; cases h2
theorem BW.congr {η η1 : Nat → Ent} {bs : List Nat} (h : ∀ i ∈ bs, η1 i = η i) {x y : AV} (hb : BW η (dropB η bs) x y) : BW η1 (dropB η1 bs) x y := by
  induction hb with
  | fr h => exact .fr h
  | sl => exact .sl
  | nil => exact .nil
  | own h1 h2 hs hl hl2 _ hkl hfr hmax he ih =>
    have hi := in_of_drop h1 h2
    exact .own (by rw [h _ hi, h1]) (drop_in hi) hs hl hl2 ih hkl hfr hmax he
  | ptr h1 h2 he hl _ ih =>
    have hi := in_of_drop h1 h2
    exact .ptr (by rw [h _ hi, h1]) (drop_in hi) he hl ih
  | agg hl _ ih => exact .agg hl ih
  | clo hl _ hl2 _ ih ih2 => exact .clo hl ih hl2 ih2
/-- what it becomes holds no own memory -/
theorem BW.free {η η' : Nat → Ent} {w : World} {vs : Shp} {m : MM} {x y : AV} (hb : BW η η' x y) : ∀ {v : Value}, RV w vs m y v → Fr y := by
  induction hb with
  | fr h => exact fun _ => h
  | sl =>
    intro v hv
    obtain ⟨_, _, _, _, _, _, _, _, _, _, _, _, hfr⟩ := rv_sl hv
    exact .sl hfr
  | nil => exact fun _ => .sl FrL_nil
  | own h1 h2 hs hl hl2 _ hkl hfr hmax he ih => intro v hv; rw [he]; exact .sl (fun e he' => hfr e (List.mem_of_mem_drop (List.mem_of_mem_take he')))
  | @ptr i ver k j0 B e e' h1 h2 he hl _ ih =>
    intro v hv
    obtain ⟨b, off, f, _, _, _, _, hr⟩ := rv_pim hv
    refine .pim (fun x' hx' => ?_)
    obtain ⟨j, hj⟩ := List.getElem?_of_mem hx'
    have hlt : j < e.length := by rw [← hl]; exact (List.getElem?_eq_some_iff.1 hj).1
    exact ih j _ x' (List.getElem?_eq_getElem hlt) hj (hr j x' hj)
  | agg hl _ ih =>
    intro v hv
    obtain ⟨us, rfl, hlen, hr⟩ := rv_agg hv
    refine .agg (fun x' hx' => ?_)
    obtain ⟨j, hj⟩ := List.getElem?_of_mem hx'
    have hlt := (List.getElem?_eq_some_iff.1 hj).1
    exact ih j _ x' (List.getElem?_eq_getElem (by omega)) hj (hr j x' us[j] hj (Array.getElem?_eq_getElem (by omega)))
  | clo hl _ hl2 _ ih ih2 =>
    intro v hv
    obtain ⟨us, us', rfl, l1, r1, l2, r2⟩ := rv_clo hv
    refine .clo (fun x' hx' => ?_) (fun x' hx' => ?_)
    · obtain ⟨j, hj⟩ := List.getElem?_of_mem hx'
      have hlt := (List.getElem?_eq_some_iff.1 hj).1
      exact ih j _ x' (List.getElem?_eq_getElem (by omega)) hj (r1 j x' us[j] hj (Array.getElem?_eq_getElem (by omega)))
    · obtain ⟨j, hj⟩ := List.getElem?_of_mem hx'
      have hlt := (List.getElem?_eq_some_iff.1 hj).1
      exact ih2 j _ x' (List.getElem?_eq_getElem (by omega)) hj (r2 j x' us'[j] hj (Array.getElem?_eq_getElem (by omega)))
/-- lists of such values -/
inductive BWL (η η' : Nat → Ent) : List AV → List AV → Prop
  | nil : BWL η η' [] []
  | cons {x y : AV} {r s : List AV} : BW η η' x y → BWL η η' r s → BWL η η' (x :: r) (y :: s)
section
variable {η η' : Nat → Ent}
theorem BWL.len {xs ys : List AV} (h : BWL η η' xs ys) : xs.length = ys.length := by
  induction h with
  | nil => rfl
  | cons _ _ ih => simp [ih]
theorem BWL.at {xs ys : List AV} (h : BWL η η' xs ys) : ∀ (j : Nat) (x y : AV), xs[j]? = some x → ys[j]? = some y → BW η η' x y := by
  induction h with
  | nil => intro j x y hx; simp at hx
  | cons h1 _ ih =>
    intro j x y hx hy
    cases j with
    | zero => simp at hx hy; subst hx hy; exact h1
    | succ j => exact ih j x y (by simpa using hx) (by simpa using hy)
def BWLL (η η' : Nat → Ent) (els els' : List (List AV)) : Prop := els'.length = els.length ∧ ∀ (k : Nat) (e e' : List AV), els[k]? = some e → els'[k]? = some e' → e'.length = e.length ∧ ∀ (j : Nat) (x x' : AV), e[j]? = some x → e'[j]? = some x' → BW η η' x x'
theorem bwll_fr {els : List (List AV)} (h : FrL els) : BWLL η η' els els := by
  refine ⟨rfl, fun k e e' h1 h2 => ?_⟩
  rw [h1] at h2
  injection h2 with h2
  subst h2
  refine ⟨rfl, fun j x x' h3 h4 => ?_⟩
  rw [h3] at h4
  injection h4 with h4
  subst h4
  exact .fr (h e (List.mem_of_getElem? h1) x (List.mem_of_getElem? h3))
theorem bwll_cons {e e' : List AV} {r r' : List (List AV)} (h1 : BWL η η' e e') (h2 : BWLL η η' r r') : BWLL η η' (e :: r) (e' :: r') := by
  refine ⟨by simp [h2.1], fun k q q' hq hq' => ?_⟩
  cases k with
  | zero => simp at hq hq'; subst hq hq'; exact ⟨h1.len.symm, h1.at⟩
  | succ k => exact h2.2 k q q' (by simpa using hq) (by simpa using hq')
theorem bwll_append {a a' b b' : List (List AV)} (h1 : BWLL η η' a a') (h2 : BWLL η η' b b') : BWLL η η' (a ++ b) (a' ++ b') := by
  refine ⟨by simp [h1.1, h2.1], fun k q q' hq hq' => ?_⟩
  rw [List.getElem?_append] at hq hq'
  rw [h1.1] at hq'
  split at hq
  · rename_i hlt
    rw [if_pos hlt] at hq'
    exact h1.2 k q q' hq hq'
  · rename_i hlt
    rw [if_neg hlt] at hq'
    exact h2.2 _ q q' hq hq'
theorem bwll_set {a a' : List (List AV)} {e e' : List AV} {k k' : Nat} (hk : k = k') (h1 : BWLL η η' a a') (h2 : BWL η η' e e') : BWLL η η' (a.set k e) (a'.set k' e') := by
  subst hk
  refine ⟨by simp [h1.1], fun i q q' hq hq' => ?_⟩
  by_cases hi : i = k
  · subst hi
    have hlt : i < a.length := by have := (List.getElem?_eq_some_iff.1 hq).1; simpa using this
    rw [List.getElem?_set_self hlt] at hq
    rw [List.getElem?_set_self (by rw [h1.1]; exact hlt)] at hq'
    simp at hq hq'
    subst hq hq'
    exact ⟨h2.len.symm, h2.at⟩
  · rw [List.getElem?_set_ne (fun e => hi e.symm)] at hq hq'
    exact h1.2 i q q' hq hq'
theorem bw_own {i ver k len sz : Nat} {B : Blk} {l : List (List AV)} (h1 : η i = ⟨ver, some B⟩) (h2 : (η' i).blk = none) (hs : B.sz = sz) (hkl : k + len ≤ B.els.length) (hfr : FrL B.els) (hmax : len ≤ 140737488355328) (hl : l = (B.els.drop k).take len) : BW η η' (.own i ver k len) (.sl sz l) :=
  .own h1 h2 hs rfl (fun k e e' q1 q2 => ((bwll_fr (η := η) (η' := η') hfr).2 k e e' q1 q2).1) (fun k e e' q1 q2 => ((bwll_fr hfr).2 k e e' q1 q2).2) hkl hfr hmax hl
theorem bw_own2 {i ver k len sz : Nat} {B : Blk} {els' l : List (List AV)} (h1 : η i = ⟨ver, some B⟩) (h2 : (η' i).blk = none) (hs : B.sz = sz) (hw : BWLL η η' B.els els') (hkl : k + len ≤ els'.length) (hfr : FrL els') (hmax : len ≤ 140737488355328) (hl : l = (els'.drop k).take len) : BW η η' (.own i ver k len) (.sl sz l) :=
  .own h1 h2 hs hw.1 (fun k e e' q1 q2 => (hw.2 k e e' q1 q2).1) (fun k e e' q1 q2 => (hw.2 k e e' q1 q2).2) hkl hfr hmax hl
theorem bwll_same {els els' : List (List AV)} (h : els = els') (hf : FrL els) : BWLL η η' els els' := by subst h; exact bwll_fr hf
theorem bw_own3 {i ver len sz : Nat} {B : Blk} {l : List (List AV)} (h1 : η i = ⟨ver, some B⟩) (h2 : (η' i).blk = none) (hs : B.sz = sz) (hfr : FrL l) (hw : BWLL η η' B.els l) (hlen : len = l.length) (hmax : len ≤ 140737488355328) : BW η η' (.own i ver 0 len) (.sl sz l) :=
  bw_own2 h1 h2 hs hw (by omega) hfr hmax (by rw [List.drop_zero, hlen, List.take_length])
theorem bw_ptr {i ver k j : Nat} {B : Blk} {e e' : List AV} (h1 : η i = ⟨ver, some B⟩) (h2 : (η' i).blk = none) (he : B.els[k]? = some e) (hw : BWL η η' e e') : BW η η' (.ptr i ver k j) (.pim e' j) := .ptr h1 h2 he hw.len.symm hw.at
theorem bw_agg {cs cs' : List AV} (h : BWL η η' cs cs') : BW η η' (.agg cs) (.agg cs') := .agg h.len h.at
theorem bw_clo {f : Fn} {ds ds' : List AV} (h : BWL η η' ds ds') : BW η η' (.clo f [] ds) (.clo f [] ds') := .clo rfl (fun j x x' hx => by simp at hx) h.len h.at
theorem bw_c {v : Value} : BW η η' (.c v) (.c v) := .fr (.c v)
theorem bwl_congr {bs : List Nat} {η1 : Nat → Ent} (h : ∀ i ∈ bs, η1 i = η i) {xs ys : List AV} (hb : BWL η (dropB η bs) xs ys) : BWL η1 (dropB η1 bs) xs ys := by
  induction hb with
  | nil => exact .nil
  | cons h1 _ ih => exact .cons (h1.congr h) ih
end
/-- no memory in it -/
def scal0 : AV → Prop
  | .c _ => True
  | .ifc _ (.c _) => True
  | _ => False
def scalL : List AV → Prop
  | [] => True
  | x :: r => scal0 x ∧ scalL r
def scal : AV → Prop
  | .tup cs => scalL cs
  | .agg cs => scalL cs
  | x => scal0 x
theorem scal0_eA (e : Er) : scal0 (eA e) := by cases e <;> trivial
theorem scal_eA (e : Er) : scal (eA e) := by cases e <;> trivial
theorem rv_scal0 {w w' : World} {vs vs' : Shp} {m m' : MM} {x : AV} {v : Value} (hx : scal0 x) (h : RV w vs m x v) : RV w' vs' m' x v := by
  unfold scal0 at hx
  split at hx
  · rw [rv_c h]; exact .c _
  · obtain ⟨u, rfl, h1⟩ : ∃ u, v = .iface _ u ∧ RV w vs m _ u := by cases h with | ifc h => exact ⟨_, rfl, h⟩
    rw [rv_c h1]
    exact .ifc (.c _)
  · exact hx.elim
theorem scalL_at : ∀ {l : List AV} {j : Nat} {x : AV}, scalL l → l[j]? = some x → scal0 x
  | [], _, _, _, h => by simp at h
  | y :: r, 0, x, h, hx => by simp at hx; subst hx; exact h.1
  | y :: r, j + 1, x, h, hx => scalL_at (l := r) (j := j) h.2 (by simpa using hx)
theorem rv_scal {w w' : World} {vs vs' : Shp} {m m' : MM} {x : AV} {v : Value} (hx : scal x) (h : RV w vs m x v) : RV w' vs' m' x v := by
  unfold scal at hx
  split at hx
  · obtain ⟨us, rfl, h1, h2⟩ := rv_tup h
    exact .tup h1 (fun j y u hy hu => rv_scal0 (scalL_at hx hy) (h2 j y u hy hu))
  · obtain ⟨us, rfl, h1, h2⟩ := rv_agg h
    exact .agg h1 (fun j y u hy hu => rv_scal0 (scalL_at hx hy) (h2 j y u hy hu))
  · exact rv_scal0 hx h

section
variable {C : Cx} {n : Nat}
/-- the callee's view of a state that lends some blocks -/
theorem lend {f : FuncId} {r : AV} {τ' : Nat → AV} {η' : Nat → Ent} {bs : List Nat} {os : Array Operand} {ys : List AV} {w0 : World} {X : XX} {m : MM} {a : Act} {w : World} (h : Rep C n w0 X τ' η' m a w)
    (hb : BWL η' (dropB η' bs) (os.toList.map (evA τ')) ys) (hc : ACall C f ys r) :
    Calls C.P f (os.map a.eval) w (fun e w' => ∃ v, e = .returned v ∧ RV w' nov (mO (Owned (shp (dropB η' bs)) (mwk η' (dropB η' bs) m))) r v ∧ Kin w (fun _ => False) w' ∧ C.Gl w') := by
  have hO : ∀ b, Owned (shp (dropB η' bs)) (mwk η' (dropB η' bs) m) b → b < w.heap.size ∧ C.N ≤ b := by
    intro b hb
    rcases owned_wk hb with h1 | ⟨i, h1, h2⟩
    · exact h.mem.olt b h1
    · exact ⟨h.mem.lt (blk_live.1 h1) h2, h.mem.low i b (blk_live.1 h1) h2⟩
  refine hc.2 w _ (os.map a.eval) h.gl h.mem.big hO (by have := hb.len; simpa using this) (fun j y v hy hv => ?_)
  rw [Array.getElem?_map] at hv
  cases hj : os[j]? with
  | none => rw [hj] at hv; cases hv
  | some q =>
    rw [hj] at hv
    simp at hv
    subst hv
    have hx : (os.toList.map (evA τ'))[j]? = some (evA τ' q) := by simp [hj]
    have hbw := hb.at j _ y hx hy
    have hrv := hbw.wv (N := C.N) w m _ h.mem (h.ev q)
    exact rv_fr (hbw.free hrv) (fun b hb => owned_nov.1 hb) hrv
theorem call_run {o : Oper} {f : FuncId} {os : Array Operand} {ats : Array TypeId} {r : AV} {ys : List AV} {a : Act} {w : World} (ho : o.op = .call ⟨.value (.func f), os, ats⟩) (hc : ACall C f ys r) : (execOp a.eval o).run C.P w = .ok (.enter f (os.map a.eval)) w := by
  simp [execOp, ho, resolve, Act.eval, Deferred.ofValue, invoke, hc.1]
theorem after_call {τ : Nat → AV} {η : Nat → Ent} {w0 : World} {X : XX} {m : MM} {a : Act} {w w' : World} (h : Rep C n w0 X τ η m a w) (h2 : Kin w (fun _ => False) w') : Rep C n w0 X τ η m a w' := by
  have hm : Mono w (shp η) m w' (shp η) m := by
    refine ⟨h2.size, fun b hb _ => h2.block b hb (by simp), fun _ _ h => h, fun _ => Nat.le_refl _, fun i _ => ⟨rfl, fun hl => ⟨rfl, fun b hb => ?_⟩⟩⟩
    unfold World.shape?
    rw [h2.block b (h.mem.lt (blk_live.1 hl) hb) (by simp)]
  have hmem : Mem C.N w' η m := ⟨fun i B hB => (h.mem.ok i B hB).mono hm (fun b hb => h2.block b (h.mem.lt (by rw [hB]; simp) hb) (by simp)), h.mem.inj, h.mem.low, h.mem.sep, fun b hb => ⟨Nat.lt_of_lt_of_le (h.mem.olt b hb).1 h2.size, (h.mem.olt b hb).2⟩, Nat.le_trans h.mem.big h2.size⟩
  have hkin : Kin w0 X.X w' := ⟨h2.os.trans h.kin.os, h2.tape.trans h.kin.tape, h2.output.trans h.kin.output, Nat.le_trans h.kin.size h2.size, fun b hb hx => by rw [h2.block b (Nat.lt_of_lt_of_le hb h.kin.size) (by simp), h.kin.block b hb hx]⟩
  exact h.move hm hmem hkin rfl h.own (fun _ _ => rfl)
/-- a call that is lent own memory; no memory in its result -/
theorem lf_callB {o : Oper} {τ : Nat → AV} {η : Nat → Ent} {f : FuncId} {os : Array Operand} {ats : Array TypeId} {r : AV} {xs ys : List AV} (bs : List Nat) (ho : o.op = .call ⟨.value (.func f), os, ats⟩) (hd : InB n o.dst) (hargs : os.toList.map (evA τ) = xs)
    (hb : BWL η (dropB η bs) xs ys) (hc : ACall C f ys r) (hr : scal r) : LF C n o τ η ⟨r, [], bs⟩ := by
  subst hargs
  intro τ' η' hτ hη w0 X m a w h
  have hmap : os.toList.map (evA τ') = os.toList.map (evA τ) := List.map_congr_left (fun y hy => hτ y (by simp [ho, Op.operands, Call.operands]; exact .inr (by simpa using hy)))
  have hb' : BWL η' (dropB η' bs) (os.toList.map (evA τ')) ys := by rw [hmap]; exact bwl_congr (fun i hi => hη i (.inl hi)) hb
  unfold Oper.wp
  rw [call_run ho hc]
  refine Calls.mono (lend h hb' hc) ?_
  rintro e w' ⟨v, rfl, h1, h2, h3⟩
  exact ⟨m, (after_call h h2).put hd (rv_scal hr h1)⟩
theorem upd_gone : ∀ (us : List (Nat × Ent)) (η : Nat → Ent) (g : Nat → Ent) (k : Nat), (∀ p ∈ us, p.2 = g p.1) → updAll η us k = if k ∈ us.map (·.1) then g k else η k
  | [], η, g, k, _ => by simp [updAll]
  | (i, e) :: r, η, g, k, h => by
    rw [updAll, upd_gone r (updE η i e) g k (fun p hp => h p (by simp [hp]))]
    have he : e = g i := h (i, e) (by simp)
    by_cases hk : k ∈ r.map (·.1)
    · rw [if_pos hk, if_pos (by simp only [List.map_cons, List.mem_cons]; exact .inr hk)]
    · rw [if_neg hk]
      by_cases hki : k = i
      · subst hki; simp [updE, he]
      · rw [if_neg (by simp only [List.map_cons, List.mem_cons]; rintro (h | h); exact hki h; exact hk h)]
        simp [updE, hki]
/-- a call that is given own memory for good -/
theorem lf_callF {o : Oper} {τ : Nat → AV} {η : Nat → Ent} {f : FuncId} {os : Array Operand} {ats : Array TypeId} {r : AV} {xs ys : List AV} (us : List (Nat × Ent)) (hus : ∀ p ∈ us, p.2 = ⟨(η p.1).ver + 1, none⟩) (hul : ∀ p ∈ us, p.1 < n) (ho : o.op = .call ⟨.value (.func f), os, ats⟩) (hd : InB n o.dst) (hargs : os.toList.map (evA τ) = xs)
    (hb : BWL η (dropB η (us.map (·.1))) xs ys) (hc : ACall C f ys r) (hr : fr1 r) : LF C n o τ η ⟨r, us, []⟩ := by
  subst hargs
  intro τ' η' hτ hη w0 X m a w h
  obtain ⟨bs, hbs⟩ : ∃ bs, bs = us.map (·.1) := ⟨_, rfl⟩
  rw [← hbs] at hb
  have hη' : ∀ i ∈ bs, η' i = η i := fun i hi => hη i (.inr (by rw [hbs] at hi; exact hi))
  have hmap : os.toList.map (evA τ') = os.toList.map (evA τ) := List.map_congr_left (fun y hy => hτ y (by simp [ho, Op.operands, Call.operands]; exact .inr (by simpa using hy)))
  have hb' : BWL η' (dropB η' bs) (os.toList.map (evA τ')) ys := by rw [hmap]; exact bwl_congr hη' hb
  have hup : ∀ k, updAll η' us k = if k ∈ bs then ⟨(η' k).ver + 1, none⟩ else η' k := by
    intro k
    rw [upd_gone us η' (fun i => ⟨(η i).ver + 1, none⟩) k hus, hbs]
    by_cases hk : k ∈ us.map (·.1)
    · rw [if_pos hk, if_pos hk, hη' k (by rw [hbs]; exact hk)]
    · rw [if_neg hk, if_neg hk]
  have hlive : ∀ i, (updAll η' us i).blk ≠ none → i ∉ bs ∧ updAll η' us i = η' i := by
    intro i hi
    rw [hup] at hi ⊢
    by_cases hk : i ∈ bs
    · rw [if_pos hk] at hi; exact absurd rfl hi
    · exact ⟨hk, by rw [if_neg hk]⟩
  have hown : ∀ b, Owned (shp (updAll η' us)) m b → Owned (shp (dropB η' bs)) (mwk η' (dropB η' bs) m) b := by
    rintro b (h1 | ⟨i, h1, h2⟩)
    · exact .inl h1
    · obtain ⟨k1, k2⟩ := hlive i (blk_live.1 h1)
      have h3 : (η' i).blk ≠ none := by rw [← k2]; exact blk_live.1 h1
      refine .inr ⟨i, blk_live.2 (by rw [drop_out k1]; exact h3), ?_⟩
      cases hB : (η' i).blk with
      | none => exact absurd hB h3
      | some B => simp only [mwk, drop_out k1, hB]; exact h2
  unfold Oper.wp
  rw [call_run ho hc]
  refine Calls.mono (lend h hb' hc) ?_
  rintro e w' ⟨v, rfl, h1, h2, h3⟩
  have h4 := after_call h h2
  have hm : Mono w' (shp η') m w' (shp (updAll η' us)) m := by
    refine ⟨Nat.le_refl _, fun _ _ _ => rfl, fun b _ hno ho => hno ?_, fun i => ?_, fun i hi => ?_⟩
    · exact owned_wk (hown b ho)
    · show (η' i).ver ≤ (updAll η' us i).ver
      rw [hup]
      split
      · exact Nat.le_succ _
      · exact Nat.le_refl _
    · have : updAll η' us i = η' i := by
        rw [hup]
        split
        · rename_i hk
          have hi' : (updAll η' us i).ver = (η' i).ver := hi
          rw [hup, if_pos hk] at hi'
          simp at hi'
        · rfl
      exact ⟨by simp only [shp, this], fun _ => ⟨rfl, fun _ _ => rfl⟩⟩
  have hmem : Mem C.N w' (updAll η' us) m := by
    refine ⟨fun i B hB => ?_, fun i i' b q1 q2 q3 q4 => h4.mem.inj i i' b (by rw [← (hlive i q1).2]; exact q1) (by rw [← (hlive i' q2).2]; exact q2) q3 q4, fun i b q1 q2 => h4.mem.low i b (by rw [← (hlive i q1).2]; exact q1) q2, fun i b q1 q2 => h4.mem.sep i b (by rw [← (hlive i q1).2]; exact q1) q2, h4.mem.olt, h4.mem.big⟩
    have q := hlive i (by rw [hB]; simp)
    exact (h4.mem.ok i B (by rw [← q.2]; exact hB)).mono hm (fun _ _ => rfl)
  have h5 := h4.move hm hmem h4.kin rfl (fun i b q1 q2 => h4.own i b (by rw [← (hlive i q1).2]; exact q1) q2) (fun k hk => by
    have : k ∉ bs := fun hkb => by
      rw [hbs] at hkb
      obtain ⟨p, hp, rfl⟩ := List.mem_map.1 hkb
      have := hul p hp
      omega
    rw [hup, if_neg this])
  exact ⟨m, h5.put hd (rv_fr1 hr (fun b hb => owned_nov.2 (hown b hb)) h1)⟩
theorem row_part1 {η η' : Nat → Ent} {els els' : List (List AV)} (h : BWLL η η' els els') : RowK η η' els els' := .part h.1 h.2
theorem bwll_nil {η η' : Nat → Ent} : BWLL η η' [] [] := ⟨rfl, fun k e e' h => by simp at h⟩
theorem bwll_rep {η η' : Nat → Ent} {k : Nat} {z z' : List AV} (h : BWL η η' z z') : BWLL η η' (List.replicate k z) (List.replicate k z') := by
  refine ⟨by simp, fun q e e' h1 h2 => ?_⟩
  rw [List.getElem?_replicate] at h1 h2
  split at h1
  · rename_i hlt
    rw [if_pos hlt] at h2
    injection h1 with h1
    injection h2 with h2
    subst h1 h2
    exact ⟨h.len.symm, h.at⟩
  · cases h1
def ltUs (n : Nat) : List (Nat × Ent) → Prop
  | [] => True
  | p :: r => p.1 < n ∧ ltUs n r
theorem ltUs_at {n : Nat} : ∀ {us : List (Nat × Ent)}, ltUs n us → ∀ p ∈ us, p.1 < n
  | [], _, _, hp => by cases hp
  | q :: r, h, p, hp => by
    rcases List.mem_cons.1 hp with rfl | h2
    · exact h.1
    · exact ltUs_at h.2 p h2
def allUs (η : Nat → Ent) : List (Nat × Ent) → Prop
  | [] => True
  | p :: r => p.2 = ⟨(η p.1).ver + 1, none⟩ ∧ allUs η r
theorem allUs_at {η : Nat → Ent} : ∀ {us : List (Nat × Ent)}, allUs η us → ∀ p ∈ us, p.2 = ⟨(η p.1).ver + 1, none⟩
  | [], _, p, h => by cases h
  | q :: r, h, p, hp => by
    rcases List.mem_cons.1 hp with rfl | h2
    · exact h.1
    · exact allUs_at h.2 p h2
/-- the bytes of a text, in new memory -/
theorem lf_bytes {o : Oper} {τ : Nat → AV} {η : Nat → Ent} {src dst e : TypeId} {ts td : TI} {x : Operand} {s : ByteArray} (ho : o.op = .convert src dst x) (hd : InB n o.dst) (hx : evA τ x = .c (.string s)) (hs : TyOk C.P src ts) (hsk : ts.kind = .str) (ht : TyOk C.P dst td) (hk : td.kind = .slice e) (he : C.P.underlying e = some (.int .u8)) (hm : s.size ≤ 140737488355328) :
    LF C n o τ η ⟨.sl 1 (s.data.toList.map (fun c => [AV.c (.int .u8 (c.toNat : Int))])), [], []⟩ := by
  intro τ' η' hτ _ w0 X m a w h
  have hv := h.ev x
  rw [hτ x (by simp [ho, Op.operands]), hx] at hv
  have hrun := run_bytes_of_string (P := C.P) w src dst e s (hs.strU hsk) (ht.sliceU hk) he
  obtain ⟨cp, hcp⟩ : ∃ cp, grownCap w s.size 0 e = cp := ⟨_, rfl⟩
  rw [hcp] at hrun
  have hge : s.size ≤ cp := by rw [← hcp]; exact grownCap_ge w s.size 0 e
  obtain ⟨ob, hob⟩ : ∃ ob, Obj.cells (bytesRow s cp) e ((bytesRow s cp).size, (bytesRow s cp).size + 1) = ob := ⟨_, rfl⟩
  rw [hob] at hrun
  have hex : (execOp a.eval o).run C.P w = .ok (.value (.slice (some ⟨w.heap.size, 0, none⟩) s.size cp)) (w.drew.alloc ob) := by
    simp only [execOp, ho, rv_c hv, Sem.run_bind, hrun, Result.andThen_ok, Sem.run_pure]
  have hkin : Kin w (fun _ => False) (w.drew.alloc ob) := by
    refine ⟨rfl, rfl, rfl, ?_, fun b hb _ => ?_⟩
    · show w.heap.size ≤ (w.heap.push ob).size
      simp
    · show (w.heap.push ob)[b]? = w.heap[b]?
      rw [Array.getElem?_push]
      rw [if_neg (by omega)]
  have hnew : (w.drew.alloc ob).heap[w.heap.size]? = some ob := by
    show (w.heap.push ob)[w.heap.size]? = some ob
    simp
  unfold Oper.wp
  rw [hex]
  have hno : ¬ Owned (shp η') m w.heap.size := by
    rintro (h1 | ⟨i, h1, h2⟩)
    · have := (h.mem.olt _ h1).1
      omega
    · have := h.mem.lt (blk_live.1 h1) h2
      omega
  have hsl : s.size = s.data.toList.length := Lib.size_eq s
  have hget : ∀ (k : Nat) (q : List AV), (s.data.toList.map (fun c => [AV.c (.int .u8 (c.toNat : Int))]))[k]? = some q → ∃ c : UInt8, s.data.toList[k]? = some c ∧ q = [AV.c (.int .u8 (c.toNat : Int))] := by
    intro k q hq
    rw [List.getElem?_map] at hq
    cases hc : s.data.toList[k]? with
    | none => rw [hc] at hq; cases hq
    | some c => rw [hc] at hq; simp at hq; exact ⟨c, rfl, hq.symm⟩
  have hcell : ∀ (k : Nat) (c : UInt8), s.data.toList[k]? = some c → (bytesRow s cp)[k]? = some (.int .u8 c.toNat) := by
    intro k c hc
    have hlt : k < s.data.size := by have := (List.getElem?_eq_some_iff.1 hc).1; simpa using this
    simp only [bytesRow]
    rw [Array.getElem?_append_left (by simp; exact hlt), Array.getElem?_map]
    have : s.data[k]? = some c := by rw [← hc]; simp
    rw [this]
    rfl
  have hrv := RV.sl (w := w.drew.alloc ob) (vs := shp η') (m := m) (sz := 1) (l := s.data.toList.map (fun c => [AV.c (.int .u8 (c.toNat : Int))])) (A := some ⟨w.heap.size, 0, none⟩) (cap := cp) (b := w.heap.size) (off := 0)
    (f := fun k _ => (bytesRow s cp).getD k undef) (fun _ => ⟨rfl, hno, by show w.heap.size < (w.heap.push ob).size; simp⟩) (by simp; exact hge) (by simp; exact hm) (fun k q hq => by obtain ⟨c, _, rfl⟩ := hget k q hq; rfl)
    (fun k j q y hq hy => by
      obtain ⟨c, hc, rfl⟩ := hget k q hq
      cases j with
      | zero =>
        have h1 := hcell k c hc
        refine ⟨?_, by simp [Array.getD_eq_getD_getElem?, h1, Value.oneCell']⟩
        have hn2 := hnew
        rw [← hob] at hn2
        rw [← hob]
        simp only [World.cell?, hn2, Nat.zero_add, Nat.mul_one, Nat.add_zero]
        rw [h1]
        simp [Array.getD_eq_getD_getElem?, h1]
      | succ j => simp at hy)
    (fun k j q y hq hy => by
      obtain ⟨c, hc, rfl⟩ := hget k q hq
      cases j with
      | zero =>
        have h1 := hcell k c hc
        simp at hy
        subst hy
        simp only [Array.getD_eq_getD_getElem?, h1, Option.getD_some]
        exact .c _
      | succ j => simp at hy)
    (FrL_map (fun c _ => FrC_cons (.c _) FrC_nil))
  refine ⟨m, (after_call h hkin).put hd ?_⟩
  have e1 : (s.data.toList.map (fun c => [AV.c (.int .u8 (c.toNat : Int))])).length = s.size := by rw [List.length_map, ← hsl]
  rw [e1] at hrv
  exact hrv
theorem lf_bys {o : Oper} {τ : Nat → AV} {η : Nat → Ent} {src dst e : TypeId} {ts td : TI} {x : Operand} {s : ByteArray} (ho : o.op = .convert src dst x) (hd : InB n o.dst) (hx : evA τ x = .c (.string s)) (hs : TyOk C.P src ts) (hsk : ts.kind = .str) (ht : TyOk C.P dst td) (hk : td.kind = .slice e) (he : C.P.underlying e = some (.int .u8)) (hm : s.size ≤ 140737488355328) :
    LF C n o τ η ⟨.sl 1 ((bys s).map c_u8), [], []⟩ := by
  have h := lf_bytes (η := η) ho hd hx hs hsk ht hk he hm
  have e1 : (bys s).map c_u8 = s.data.toList.map (fun c => [AV.c (.int .u8 (c.toNat : Int))]) := by simp [bys, c_u8]
  rw [e1]
  exact h
end
end Go.Proofs.YtljekaadbabhkaaDoor.Am
/- An abstract machine (6): calls in general: own memory lent to be changed, own memory given away, new memory handed back. -/
namespace Go.Proofs.YtljekaadbabhkaaDoor.Am
open Go.RowKit
/-- what one view of the memory says of another: the names of the target come of names of the source -/
structure View (w : World) (η : Nat → Ent) (m : MM) (η' : Nat → Ent) (m' : MM) (σ : Nat → Nat) (Fz Tg : Nat → Prop) : Prop where
  own : ∀ b, Owned (shp η') m' b → Owned (shp η) m b
  frz : ∀ i b, Fz i → (η i).blk ≠ none → m i = some b → ¬ Owned (shp η') m' b
  at_ : ∀ i, Tg i → (η' i).blk ≠ none → m' i = match (η (σ i)).blk with | some _ => m (σ i) | none => none
/-- a value of one view in another -/
inductive GW (η η' : Nat → Ent) (σ : Nat → Nat) (Fz Tg : Nat → Prop) : AV → AV → Prop
  | fr {x : AV} : Fr x → GW η η' σ Fz Tg x x
  | sl {sz : Nat} {l : List (List AV)} : GW η η' σ Fz Tg (.sl sz l) (.sl sz l)
  | nil {sz cc : Nat} : GW η η' σ Fz Tg (.c (.slice none 0 cc)) (.sl sz [])
  | thaw {i ver cc : Nat} {B' : Blk} : Tg i → η' i = ⟨ver, some B'⟩ → (η (σ i)).blk = none → cc = 0 → GW η η' σ Fz Tg (.c (.slice none 0 cc)) (.own i ver 0 0)
  | ren {i ver i' ver' k len : Nat} {B B' : Blk} : Tg i' → η i = ⟨ver, some B⟩ → η' i' = ⟨ver', some B'⟩ → σ i' = i → B.sz = B'.sz → GW η η' σ Fz Tg (.own i ver k len) (.own i' ver' k len)
  | pren {i ver i' ver' k j : Nat} {B B' : Blk} : Tg i' → η i = ⟨ver, some B⟩ → η' i' = ⟨ver', some B'⟩ → σ i' = i → B.sz = B'.sz → GW η η' σ Fz Tg (.ptr i ver k j) (.ptr i' ver' k j)
  | oren {i ver i' ver' k j : Nat} {B B' : Blk} : Tg i' → η i = ⟨ver, some B⟩ → η' i' = ⟨ver', some B'⟩ → σ i' = i → B.sz = B'.sz → GW η η' σ Fz Tg (.ptrO i ver k j) (.ptrO i' ver' k j)
  | opren {i ver i' ver' k j : Nat} {B B' : Blk} : Tg i' → η i = ⟨ver, some B⟩ → η' i' = ⟨ver', some B'⟩ → σ i' = i → B.sz = B'.sz → GW η η' σ Fz Tg (.ptr i ver k j) (.ptrO i' ver' k j)
  | onil {i' ver' k j : Nat} {B' : Blk} : Tg i' → η' i' = ⟨ver', some B'⟩ → GW η η' σ Fz Tg (.c (.pointer none)) (.ptrO i' ver' k j)
  | own {i ver k len sz : Nat} {B : Blk} {els' l : List (List AV)} : η i = ⟨ver, some B⟩ → Fz i → B.sz = sz → els'.length = B.els.length →
      (∀ (k : Nat) (e e' : List AV), B.els[k]? = some e → els'[k]? = some e' → e'.length = e.length) → (∀ (k : Nat) (e e' : List AV), B.els[k]? = some e → els'[k]? = some e' → ∀ (j : Nat) (x x' : AV), e[j]? = some x → e'[j]? = some x' → GW η η' σ Fz Tg x x') →
      k + len ≤ els'.length → FrL els' → len ≤ 140737488355328 → l = (els'.drop k).take len → GW η η' σ Fz Tg (.own i ver k len) (.sl sz l)
  | ptr {i ver k j : Nat} {B : Blk} {e e' : List AV} : η i = ⟨ver, some B⟩ → Fz i → B.els[k]? = some e → e'.length = e.length → (∀ (j : Nat) (x x' : AV), e[j]? = some x → e'[j]? = some x' → GW η η' σ Fz Tg x x') → GW η η' σ Fz Tg (.ptr i ver k j) (.pim e' j)
  | agg {cs cs' : List AV} : cs.length = cs'.length → (∀ (j : Nat) (x x' : AV), cs[j]? = some x → cs'[j]? = some x' → GW η η' σ Fz Tg x x') → GW η η' σ Fz Tg (.agg cs) (.agg cs')
  | tup {cs cs' : List AV} : cs.length = cs'.length → (∀ (j : Nat) (x x' : AV), cs[j]? = some x → cs'[j]? = some x' → GW η η' σ Fz Tg x x') → GW η η' σ Fz Tg (.tup cs) (.tup cs')
  | clo {f : Fn} {cs cs' ds ds' : List AV} : cs.length = cs'.length → (∀ (j : Nat) (x x' : AV), cs[j]? = some x → cs'[j]? = some x' → GW η η' σ Fz Tg x x') → ds.length = ds'.length → (∀ (j : Nat) (x x' : AV), ds[j]? = some x → ds'[j]? = some x' → GW η η' σ Fz Tg x x') → GW η η' σ Fz Tg (.clo f cs ds) (.clo f cs' ds')
section
variable {N : Nat} {w : World} {η η' : Nat → Ent} {m m' : MM} {σ : Nat → Nat} {Fz Tg : Nat → Prop}
theorem View.some_ (hV : View w η m η' m' σ Fz Tg) {i i' ver ver' : Nat} {B B' : Blk} (ht : Tg i') (h1 : η i = ⟨ver, some B⟩) (h2 : η' i' = ⟨ver', some B'⟩) (h3 : σ i' = i) : m' i' = m i := by
  have := hV.at_ i' ht (by rw [h2]; simp)
  rw [h3, h1] at this
  exact this
theorem GW.rv (hV : View w η m η' m' σ Fz Tg) (hm : Mem N w η m) {x x' : AV} (h : GW η η' σ Fz Tg x x') : ∀ {v : Value}, RV w (shp η) m x v → RV w (shp η') m' x' v := by
  have nil : ∀ sz A, RV w (shp η') m' (.sl sz ([] : List (List AV))) (.slice A 0 0) := fun sz A =>
    RV.sl (l := []) (b := 0) (off := 0) (f := fun _ _ => undef) (fun h => absurd rfl h) (Nat.le_refl _) (by simp) (fun k e h => by simp at h) (fun k j e x h => by simp at h) (fun k j e x h => by simp at h) (fun e he => by cases he)
  induction h with
  | fr h => exact fun hv => rv_fr h hV.own hv
  | sl =>
    intro v hv
    have := hv
    obtain ⟨_, _, _, _, _, _, _, _, _, _, _, _, hfr⟩ := rv_sl this
    exact rv_fr (.sl hfr) hV.own hv
  | nil =>
    intro v hv
    rw [rv_c hv]
    exact RV.sl (l := []) (b := 0) (off := 0) (f := fun _ _ => undef) (fun h => absurd rfl h) (Nat.zero_le _) (by simp) (fun k e h => by simp at h) (fun k j e x h => by simp at h) (fun k j e x h => by simp at h) (fun e he => by cases he)
  | @thaw i ver cc B' ht h1 h2 hc =>
    intro v hv
    subst hc
    rw [rv_c hv]
    have := hV.at_ i ht (by rw [h1]; simp)
    rw [h2] at this
    exact .ownN (sz := B'.sz) (by simp [shp, h1]) this
  | @ren i ver i' ver' k len B B' ht h1 h2 h3 hs =>
    intro v hv
    have hs' : (shp η') i' = (ver', some B.sz) := by simp [shp, h2, hs]
    have hk := hV.some_ ht h1 h2 h3
    rcases rv_own hv h1 with ⟨rfl, rfl, e, rfl⟩ | ⟨k', A, rfl, rfl, rfl⟩ | ⟨b, cap, ty, nn, e1, e2, e3, e4, e5, rfl⟩
    · exact .ownN hs' (by rw [hk, e])
    · exact .ownZ hs'
    · exact .own hs' (by rw [hk, e1]) e2 e3 e4 e5
  | @pren i ver i' ver' k j B B' ht h1 h2 h3 hs =>
    intro v hv
    obtain ⟨b, e1, rfl⟩ := rv_ptr hv h1
    exact .ptr (by simp [shp, h2, hs]) (by rw [hV.some_ ht h1 h2 h3, e1])
  | @oren i ver i' ver' k j B B' ht h1 h2 h3 hs =>
    intro v hv
    rcases rv_ptrO hv h1 with rfl | ⟨b, e1, rfl⟩
    · exact .ptrON (sz := B'.sz) (by simp [shp, h2])
    · exact .ptrO (by simp [shp, h2, hs]) (by rw [hV.some_ ht h1 h2 h3, e1])
  | @opren i ver i' ver' k j B B' ht h1 h2 h3 hs =>
    intro v hv
    obtain ⟨b, e1, rfl⟩ := rv_ptr hv h1
    exact .ptrO (by simp [shp, h2, hs]) (by rw [hV.some_ ht h1 h2 h3, e1])
  | @onil i' ver' k j B' ht h2 =>
    intro v hv
    rw [rv_c hv]
    exact .ptrON (sz := B'.sz) (by simp [shp, h2])
  | @own i ver k len sz B els' l h1 hz hs hl hl2 _ hkl hfr hmax he ih =>
    intro v hv
    subst hs he
    have hll : ((els'.drop k).take len).length = len := by simp; omega
    have hfr' : FrL ((els'.drop k).take len) := fun e he => hfr e (List.mem_of_mem_drop (List.mem_of_mem_take he))
    rcases rv_own hv h1 with ⟨rfl, rfl, e, rfl⟩ | ⟨k', A, rfl, rfl, rfl⟩ | ⟨b, cap, ty, nn, e1, e2, e3, e4, e5, rfl⟩
    · simpa using nil B.sz none
    · simpa using nil B.sz A
    · have hok := hm.ok i B (by rw [h1])
      rw [e1] at hok
      obtain ⟨arr, a1, a2, a3⟩ := hok
      have hget : ∀ q e, ((els'.drop k).take len)[q]? = some e → els'[k + q]? = some e := fun q e he => by
        rw [List.getElem?_take] at he
        split at he
        · rw [List.getElem?_drop] at he; exact he
        · cases he
      have hold : ∀ (q : Nat) (e' : List AV), els'[q]? = some e' → ∃ e : List AV, B.els[q]? = some e ∧ e'.length = e.length ∧ ∀ (j : Nat) (x x' : AV) (v : Value), e[j]? = some x → e'[j]? = some x' → RV w (shp η) m x v → RV w (shp η') m' x' v := fun q e' he' => by
        have hlt : q < B.els.length := by rw [← hl]; exact (List.getElem?_eq_some_iff.1 he').1
        exact ⟨_, List.getElem?_eq_getElem hlt, hl2 q _ e' (List.getElem?_eq_getElem hlt) he', fun j x x' v hx hx' hv => ih q _ e' (List.getElem?_eq_getElem hlt) he' j x x' hx hx' hv⟩
      have hcell : ∀ (q j : Nat) (e' : List AV) (x' : AV), ((els'.drop k).take len)[q]? = some e' → e'[j]? = some x' → ∃ u, arr.getD ((k + q) * B.sz + j) undef = u ∧ arr[(k + q) * B.sz + j]? = some u ∧ u.oneCell' = true ∧ RV w (shp η') m' x' u := fun q j e' x' he hj => by
        obtain ⟨e, q1, q2, q3⟩ := hold _ e' (hget q e' he)
        have hlt : j < e.length := by rw [← q2]; exact (List.getElem?_eq_some_iff.1 hj).1
        obtain ⟨u, u1, u2, u3⟩ := (a3 _ e q1).2 j _ (List.getElem?_eq_getElem hlt)
        exact ⟨u, by simp [Array.getD_eq_getD_getElem?, u1], u1, u2, q3 j _ x' u (List.getElem?_eq_getElem hlt) hj u3⟩
      have := RV.sl (w := w) (vs := shp η') (m := m') (sz := B.sz) (l := (els'.drop k).take len) (A := some ⟨b, k * B.sz, none⟩) (cap := cap) (b := b) (off := k * B.sz) (f := fun q j => arr.getD ((k + q) * B.sz + j) undef)
        (fun _ => ⟨rfl, hV.frz i b hz (by rw [h1]; simp) e1, lt_of_block a1⟩) (by omega) (by omega) (fun q e' he => ?_) (fun q j e x he hj => ?_) (fun q j e x he hj => ?_) hfr'
      · rw [hll] at this
        exact this
      · obtain ⟨e, q1, q2, _⟩ := hold _ e' (hget q e' he)
        rw [q2]
        exact (a3 _ e q1).1
      · obtain ⟨u, q1, q2, q3, _⟩ := hcell q j e x he hj
        refine ⟨?_, by rw [q1]; exact q3⟩
        rw [q1, show k * B.sz + (q * B.sz + j) = (k + q) * B.sz + j from by rw [Nat.add_mul]; omega]
        simp [World.cell?, a1, q2]
      · obtain ⟨u, q1, _, _, q4⟩ := hcell q j e x he hj
        rw [q1]
        exact q4
  | @ptr i ver k j B e e' h1 hz he hl _ ih =>
    intro v hv
    obtain ⟨b, e1, rfl⟩ := rv_ptr hv h1
    have hok := hm.ok i B (by rw [h1])
    rw [e1] at hok
    obtain ⟨arr, a1, a2, a3⟩ := hok
    have hcell : ∀ (q : Nat) (x' : AV), e'[q]? = some x' → ∃ u, arr.getD (k * B.sz + q) undef = u ∧ arr[k * B.sz + q]? = some u ∧ RV w (shp η') m' x' u := fun q x' hq => by
      have hlt : q < e.length := by rw [← hl]; exact (List.getElem?_eq_some_iff.1 hq).1
      obtain ⟨u, u1, _, u3⟩ := (a3 _ e he).2 q _ (List.getElem?_eq_getElem hlt)
      exact ⟨u, by simp [Array.getD_eq_getD_getElem?, u1], u1, ih q _ x' (List.getElem?_eq_getElem hlt) hq u3⟩
    refine .pim (b := b) (off := k * B.sz) (f := fun q => arr.getD (k * B.sz + q) undef) (hV.frz i b hz (by rw [h1]; simp) e1) (lt_of_block a1) (fun q x hq => ?_) (fun q x hq => ?_)
    · obtain ⟨u, q1, q2, _⟩ := hcell q x hq
      rw [q1]
      simp [World.cell?, a1, q2]
    · obtain ⟨u, q1, _, q3⟩ := hcell q x hq
      rw [q1]
      exact q3
  | agg hl _ ih =>
    intro v hv
    obtain ⟨us, rfl, hlen, hr⟩ := rv_agg hv
    refine .agg (by omega) (fun j x' u h1 h2 => ?_)
    have hlt := (List.getElem?_eq_some_iff.1 h1).1
    rw [← hl] at hlt
    exact ih j _ x' (List.getElem?_eq_getElem hlt) h1 (hr j _ u (List.getElem?_eq_getElem hlt) h2)
  | tup hl _ ih =>
    intro v hv
    obtain ⟨us, rfl, hlen, hr⟩ := rv_tup hv
    refine .tup (by omega) (fun j x' u h1 h2 => ?_)
    have hlt := (List.getElem?_eq_some_iff.1 h1).1
    rw [← hl] at hlt
    exact ih j _ x' (List.getElem?_eq_getElem hlt) h1 (hr j _ u (List.getElem?_eq_getElem hlt) h2)
  | clo hl _ hl2 _ ih ih2 =>
    intro v hv
    obtain ⟨us, us', rfl, l1, r1, l2, r2⟩ := rv_clo hv
    refine .clo (by omega) (fun j x' u h3 h4 => ?_) (by omega) (fun j x' u h3 h4 => ?_)
    · have hlt := (List.getElem?_eq_some_iff.1 h3).1
      rw [← hl] at hlt
      exact ih j _ x' (List.getElem?_eq_getElem hlt) h3 (r1 j _ u (List.getElem?_eq_getElem hlt) h4)
    · have hlt := (List.getElem?_eq_some_iff.1 h3).1
      rw [← hl2] at hlt
      exact ih2 j _ x' (List.getElem?_eq_getElem hlt) h3 (r2 j _ u (List.getElem?_eq_getElem hlt) h4)
theorem GW.congr {η1 η2 : Nat → Ent} (h1 : ∀ i, Fz i → η1 i = η i) (h2 : ∀ i, Tg i → η2 i = η' i ∧ η1 (σ i) = η (σ i)) {x y : AV} (h : GW η η' σ Fz Tg x y) : GW η1 η2 σ Fz Tg x y := by
  induction h with
  | fr h => exact .fr h
  | sl => exact .sl
  | nil => exact .nil
  | thaw ht a b c => exact .thaw ht (by rw [(h2 _ ht).1, a]) (by rw [(h2 _ ht).2, b]) c
  | ren ht a b c d => exact .ren ht (by rw [← c, (h2 _ ht).2, c, a]) (by rw [(h2 _ ht).1, b]) c d
  | pren ht a b c d => exact .pren ht (by rw [← c, (h2 _ ht).2, c, a]) (by rw [(h2 _ ht).1, b]) c d
  | oren ht a b c d => exact .oren ht (by rw [← c, (h2 _ ht).2, c, a]) (by rw [(h2 _ ht).1, b]) c d
  | opren ht a b c d => exact .opren ht (by rw [← c, (h2 _ ht).2, c, a]) (by rw [(h2 _ ht).1, b]) c d
  | onil ht b => exact .onil ht (by rw [(h2 _ ht).1, b])
  | own a hz hs hl hl2 _ hkl hfr hmax he ih => exact .own (by rw [h1 _ hz, a]) hz hs hl hl2 ih hkl hfr hmax he
  | ptr a hz he hl _ ih => exact .ptr (by rw [h1 _ hz, a]) hz he hl ih
  | agg hl _ ih => exact .agg hl ih
  | tup hl _ ih => exact .tup hl ih
  | clo hl _ hl2 _ ih ih2 => exact .clo hl ih hl2 ih2
end
/-- lists of such values, rows of such elements -/
inductive GWL (η η' : Nat → Ent) (σ : Nat → Nat) (Fz Tg : Nat → Prop) : List AV → List AV → Prop
  | nil : GWL η η' σ Fz Tg [] []
  | cons {x y : AV} {r s : List AV} : GW η η' σ Fz Tg x y → GWL η η' σ Fz Tg r s → GWL η η' σ Fz Tg (x :: r) (y :: s)
structure GWLL (η η' : Nat → Ent) (σ : Nat → Nat) (Fz Tg : Nat → Prop) (els els' : List (List AV)) : Prop where
  len : els'.length = els.length
  at_ : ∀ (k : Nat) (e e' : List AV), els[k]? = some e → els'[k]? = some e' → e'.length = e.length ∧ ∀ (j : Nat) (x x' : AV), e[j]? = some x → e'[j]? = some x' → GW η η' σ Fz Tg x x'
/-- a block of one view in another -/
def GB (η η' : Nat → Ent) (σ : Nat → Nat) (Fz Tg : Nat → Prop) (o : Option Blk) (B' : Blk) : Prop :=
  match o with
  | some B => (B'.ty = B.ty ∧ B'.sz = B.sz ∧ B'.box = B.box) ∧ GWLL η η' σ Fz Tg B.els B'.els
  | none => B'.els = [] ∧ B'.box = false
section
variable {N : Nat} {w : World} {η η' : Nat → Ent} {m m' : MM} {σ : Nat → Nat} {Fz Tg : Nat → Prop}
theorem GWL.len {xs ys : List AV} (h : GWL η η' σ Fz Tg xs ys) : xs.length = ys.length := by
  induction h with
  | nil => rfl
  | cons _ _ ih => simp [ih]
theorem GWL.at {xs ys : List AV} (h : GWL η η' σ Fz Tg xs ys) : ∀ (j : Nat) (x y : AV), xs[j]? = some x → ys[j]? = some y → GW η η' σ Fz Tg x y := by
  induction h with
  | nil => intro j x y hx; simp at hx
  | cons h1 _ ih =>
    intro j x y hx hy
    cases j with
    | zero => simp at hx hy; subst hx hy; exact h1
    | succ j => exact ih j x y (by simpa using hx) (by simpa using hy)
theorem GWL.congr {η1 η2 : Nat → Ent} (h1 : ∀ i, Fz i → η1 i = η i) (h2 : ∀ i, Tg i → η2 i = η' i ∧ η1 (σ i) = η (σ i)) {xs ys : List AV} (h : GWL η η' σ Fz Tg xs ys) : GWL η1 η2 σ Fz Tg xs ys := by
  induction h with
  | nil => exact .nil
  | cons h3 _ ih => exact .cons (h3.congr h1 h2) ih
theorem GB.congr {η1 η2 : Nat → Ent} (h1 : ∀ i, Fz i → η1 i = η i) (h2 : ∀ i, Tg i → η2 i = η' i ∧ η1 (σ i) = η (σ i)) {o : Option Blk} {B' : Blk} (h : GB η η' σ Fz Tg o B') : GB η1 η2 σ Fz Tg o B' := by
  cases o with
  | none => exact h
  | some B => exact ⟨h.1, h.2.1, fun k e e' q1 q2 => ⟨(h.2.2 k e e' q1 q2).1, fun j x x' q3 q4 => ((h.2.2 k e e' q1 q2).2 j x x' q3 q4).congr h1 h2⟩⟩
theorem gwll_fr {els : List (List AV)} (h : FrL els) : GWLL η η' σ Fz Tg els els := by
  refine ⟨rfl, fun k e e' h1 h2 => ?_⟩
  rw [h1] at h2
  injection h2 with h2
  subst h2
  refine ⟨rfl, fun j x x' h3 h4 => ?_⟩
  rw [h3] at h4
  injection h4 with h4
  subst h4
  exact .fr (h e (List.mem_of_getElem? h1) x (List.mem_of_getElem? h3))
theorem gwll_same {els els' : List (List AV)} (h : els = els') (hf : FrL els) : GWLL η η' σ Fz Tg els els' := by subst h; exact gwll_fr hf
theorem gwll_nil : GWLL η η' σ Fz Tg [] [] := ⟨rfl, fun k e e' h => by simp at h⟩
theorem gwll_cons {e e' : List AV} {r r' : List (List AV)} (h1 : GWL η η' σ Fz Tg e e') (h2 : GWLL η η' σ Fz Tg r r') : GWLL η η' σ Fz Tg (e :: r) (e' :: r') := by
  refine ⟨by simp [h2.1], fun k q q' hq hq' => ?_⟩
  cases k with
  | zero => simp at hq hq'; subst hq hq'; exact ⟨h1.len.symm, h1.at⟩
  | succ k => exact h2.2 k q q' (by simpa using hq) (by simpa using hq')
theorem gwll_set {a a' : List (List AV)} {e e' : List AV} {k k' : Nat} (hk : k = k') (h1 : GWLL η η' σ Fz Tg a a') (h2 : GWL η η' σ Fz Tg e e') : GWLL η η' σ Fz Tg (a.set k e) (a'.set k' e') := by
  subst hk
  refine ⟨by simp [h1.1], fun i q q' hq hq' => ?_⟩
  by_cases hi : i = k
  · subst hi
    have hlt : i < a.length := by have := (List.getElem?_eq_some_iff.1 hq).1; simpa using this
    rw [List.getElem?_set_self hlt] at hq
    rw [List.getElem?_set_self (by rw [h1.1]; exact hlt)] at hq'
    simp at hq hq'
    subst hq hq'
    exact ⟨h2.len.symm, h2.at⟩
  · rw [List.getElem?_set_ne (fun e => hi e.symm)] at hq hq'
    exact h1.2 i q q' hq hq'
theorem gwll_rep {e e' : List AV} {n : Nat} (h : GWL η η' σ Fz Tg e e') : GWLL η η' σ Fz Tg (List.replicate n e) (List.replicate n e') := by
  refine ⟨by simp, fun i q q' hq hq' => ?_⟩
  rw [List.getElem?_replicate] at hq hq'
  split at hq
  · rename_i hlt
    rw [if_pos hlt] at hq'
    simp at hq hq'
    subst hq hq'
    exact ⟨h.len.symm, h.at⟩
  · cases hq
theorem gwll_append {a a' b b' : List (List AV)} (h1 : GWLL η η' σ Fz Tg a a') (h2 : GWLL η η' σ Fz Tg b b') : GWLL η η' σ Fz Tg (a ++ b) (a' ++ b') := by
  refine ⟨by simp [h1.1, h2.1], fun k q q' hq hq' => ?_⟩
  rw [List.getElem?_append] at hq hq'
  rw [h1.1] at hq'
  split at hq
  · rename_i hlt
    rw [if_pos hlt] at hq'
    exact h1.2 k q q' hq hq'
  · rename_i hlt
    rw [if_neg hlt] at hq'
    exact h2.2 _ q q' hq hq'
theorem gw_agg {cs cs' : List AV} (h : GWL η η' σ Fz Tg cs cs') : GW η η' σ Fz Tg (.agg cs) (.agg cs') := .agg h.len h.at
theorem gw_tup {cs cs' : List AV} (h : GWL η η' σ Fz Tg cs cs') : GW η η' σ Fz Tg (.tup cs) (.tup cs') := .tup h.len h.at
theorem gw_clo {f : Fn} {ds ds' : List AV} (h : GWL η η' σ Fz Tg ds ds') : GW η η' σ Fz Tg (.clo f [] ds) (.clo f [] ds') := .clo rfl (fun j x x' hx => by simp at hx) h.len h.at
theorem gw_c {v : Value} : GW η η' σ Fz Tg (.c v) (.c v) := .fr (.c v)
theorem gw_own {i ver k len sz : Nat} {B : Blk} {els' l : List (List AV)} (h1 : η i = ⟨ver, some B⟩) (h2 : Fz i) (hs : B.sz = sz) (hw : GWLL η η' σ Fz Tg B.els els') (hkl : k + len ≤ els'.length) (hfr : FrL els') (hmax : len ≤ 140737488355328) (hl : l = (els'.drop k).take len) : GW η η' σ Fz Tg (.own i ver k len) (.sl sz l) :=
  .own h1 h2 hs hw.1 (fun k e e' q1 q2 => (hw.2 k e e' q1 q2).1) (fun k e e' q1 q2 => (hw.2 k e e' q1 q2).2) hkl hfr hmax hl
theorem gw_own3 {i ver len sz : Nat} {B : Blk} {l : List (List AV)} (h1 : η i = ⟨ver, some B⟩) (h2 : Fz i) (hs : B.sz = sz) (hfr : FrL l) (hw : GWLL η η' σ Fz Tg B.els l) (hlen : len = l.length) (hmax : len ≤ 140737488355328) : GW η η' σ Fz Tg (.own i ver 0 len) (.sl sz l) :=
  gw_own h1 h2 hs hw (by omega) hfr hmax (by rw [List.drop_zero, hlen, List.take_length])
theorem gw_ptr {i ver k j : Nat} {B : Blk} {e e' : List AV} (h1 : η i = ⟨ver, some B⟩) (h2 : Fz i) (he : B.els[k]? = some e) (hw : GWL η η' σ Fz Tg e e') : GW η η' σ Fz Tg (.ptr i ver k j) (.pim e' j) := .ptr h1 h2 he hw.len.symm hw.at
theorem gw_ren {i ver i' ver' k len len' : Nat} {B B' : Blk} (ht : Tg i') (h1 : η i = ⟨ver, some B⟩) (h2 : η' i' = ⟨ver', some B'⟩) (h3 : σ i' = i) (h4 : B.sz = B'.sz) (hl : len = len') : GW η η' σ Fz Tg (.own i ver k len) (.own i' ver' k len') := by subst hl; exact .ren ht h1 h2 h3 h4
theorem gw_pren {i ver i' ver' k j : Nat} {B B' : Blk} (ht : Tg i') (h1 : η i = ⟨ver, some B⟩) (h2 : η' i' = ⟨ver', some B'⟩) (h3 : σ i' = i) (h4 : B.sz = B'.sz) : GW η η' σ Fz Tg (.ptr i ver k j) (.ptr i' ver' k j) := .pren ht h1 h2 h3 h4
theorem gw_oren {i ver i' ver' k j : Nat} {B B' : Blk} (ht : Tg i') (h1 : η i = ⟨ver, some B⟩) (h2 : η' i' = ⟨ver', some B'⟩) (h3 : σ i' = i) (h4 : B.sz = B'.sz) : GW η η' σ Fz Tg (.ptrO i ver k j) (.ptrO i' ver' k j) := .oren ht h1 h2 h3 h4
theorem gw_opren {i ver i' ver' k j : Nat} {B B' : Blk} (ht : Tg i') (h1 : η i = ⟨ver, some B⟩) (h2 : η' i' = ⟨ver', some B'⟩) (h3 : σ i' = i) (h4 : B.sz = B'.sz) : GW η η' σ Fz Tg (.ptr i ver k j) (.ptrO i' ver' k j) := .opren ht h1 h2 h3 h4
theorem gw_onil {i' ver' k j : Nat} {B' : Blk} (ht : Tg i') (h2 : η' i' = ⟨ver', some B'⟩) : GW η η' σ Fz Tg (.c (.pointer none)) (.ptrO i' ver' k j) := .onil ht h2
theorem gw_thaw {i ver cc : Nat} {B' : Blk} (ht : Tg i) (h1 : η' i = ⟨ver, some B'⟩) (h2 : (η (σ i)).blk = none) (hc : cc = 0 := by rfl) : GW η η' σ Fz Tg (.c (.slice none 0 cc)) (.own i ver 0 0) := .thaw ht h1 h2 hc
theorem gb_nil {B' : Blk} (h1 : B'.els = []) (h2 : B'.box = false) : GB η η' σ Fz Tg none B' := ⟨h1, h2⟩
theorem gb_some {B B' : Blk} (h1 : B'.ty = B.ty ∧ B'.sz = B.sz ∧ B'.box = B.box) (h2 : GWLL η η' σ Fz Tg B.els B'.els) : GB η η' σ Fz Tg (some B) B' := ⟨h1, h2⟩
theorem GB.ok (hV : View w η m η' m' σ Fz Tg) (hm : Mem N w η m) {i : Nat} {B' : Blk} (ht : Tg i) (hi : (η' i).blk = some B') (h : GB η η' σ Fz Tg (η (σ i)).blk B') : BlkOk w (shp η') m' B' (m' i) := by
  have hat := hV.at_ i ht (by rw [hi]; simp)
  cases hB : (η (σ i)).blk with
  | none =>
    rw [hB] at h hat
    rw [hat]
    exact h
  | some B =>
    rw [hB] at h hat
    rw [hat]
    obtain ⟨⟨e1, e2, e3⟩, e4, e5⟩ := h
    have hok := hm.ok (σ i) B hB
    cases hmi : m (σ i) with
    | none =>
      rw [hmi] at hok
      have : B.els = [] := hok.1
      exact ⟨List.length_eq_zero_iff.1 (by rw [e4, this]; rfl), by rw [e3]; exact hok.2⟩
    | some b =>
      rw [hmi] at hok
      obtain ⟨arr, a1, a2, a3⟩ := hok
      refine ⟨arr, by rw [e1]; exact a1, by rw [e4, e2]; exact a2, fun k e' he' => ?_⟩
      have hlt : k < B.els.length := by rw [← e4]; exact (List.getElem?_eq_some_iff.1 he').1
      have hge := List.getElem?_eq_getElem hlt
      obtain ⟨l1, l2⟩ := e5 k _ e' hge he'
      obtain ⟨q1, q2⟩ := a3 k _ hge
      refine ⟨by rw [l1, q1, e2], fun j x' hx' => ?_⟩
      have hj : j < (B.els[k]).length := by rw [← l1]; exact (List.getElem?_eq_some_iff.1 hx').1
      have hgj := List.getElem?_eq_getElem hj
      obtain ⟨u, u1, u2, u3⟩ := q2 j _ hgj
      exact ⟨u, by rw [e2]; exact u1, u2, (l2 j _ x' hgj hx').rv hV hm u3⟩
end
/-- blocks by their names -/
def fE : List (Nat × Blk) → Nat → Ent
  | [], _ => ⟨0, none⟩
  | (j, B) :: r, i => match Nat.beq i j with
    | true => ⟨0, some B⟩
    | false => fE r i
def lk : List (Nat × Nat) → Nat → Nat
  | [], i => i
  | (a, b) :: r, i => match Nat.beq i a with
    | true => b
    | false => lk r i
def inB : List Nat → Nat → Bool
  | [], _ => false
  | j :: r, i => match Nat.beq i j with
    | true => true
    | false => inB r i
def nodB : List Nat → Bool
  | [] => true
  | j :: r => match inB r j with
    | true => false
    | false => nodB r
def keys (bs : List (Nat × Blk)) : List Nat := bs.map (·.1)
theorem beq_iff {i j : Nat} : Nat.beq i j = true ↔ i = j := ⟨Nat.eq_of_beq_eq_true, fun h => by rw [h]; exact Nat.beq_refl j⟩
theorem inB_iff : ∀ {l : List Nat} {i : Nat}, inB l i = true ↔ i ∈ l
  | [], i => by simp [inB]
  | j :: r, i => by
    unfold inB
    cases h : Nat.beq i j with
    | true => simp [beq_iff.1 h]
    | false =>
      have : i ≠ j := fun e => by rw [beq_iff.2 e] at h; cases h
      simp [this, inB_iff (l := r)]
theorem nodB_iff : ∀ {l : List Nat}, nodB l = true ↔ l.Nodup
  | [] => by simp [nodB]
  | j :: r => by
    unfold nodB
    cases h : inB r j with
    | true => simp [inB_iff.1 h]
    | false =>
      have : j ∉ r := fun e => by rw [inB_iff.2 e] at h; cases h
      simp [this, nodB_iff (l := r)]
theorem fE_live : ∀ {bs : List (Nat × Blk)} {i : Nat}, (fE bs i).blk ≠ none ↔ i ∈ keys bs
  | [], i => by simp [fE, keys]
  | (j, B) :: r, i => by
    unfold fE
    cases h : Nat.beq i j with
    | true => simp [keys, beq_iff.1 h]
    | false =>
      have : i ≠ j := fun e => by rw [beq_iff.2 e] at h; cases h
      have ih := fE_live (bs := r) (i := i)
      simp only [keys] at ih ⊢
      simp [this, ih]
theorem fE_mem : ∀ {bs : List (Nat × Blk)} {i : Nat} {B : Blk}, (fE bs i).blk = some B → (i, B) ∈ bs
  | [], i, B, h => by simp [fE] at h
  | (j, B') :: r, i, B, h => by
    unfold fE at h
    cases hb : Nat.beq i j with
    | true =>
      rw [hb] at h
      injection h with h
      rw [beq_iff.1 hb, h]
      simp
    | false =>
      rw [hb] at h
      exact List.mem_cons_of_mem _ (fE_mem h)
theorem fE_at {bs : List (Nat × Blk)} (hn : (keys bs).Nodup) {i : Nat} {B : Blk} (h : (i, B) ∈ bs) : fE bs i = ⟨0, some B⟩ := by
  induction bs with
  | nil => cases h
  | cons p r ih =>
    obtain ⟨j, B'⟩ := p
    simp only [keys, List.map_cons, List.nodup_cons] at hn
    unfold fE
    cases hb : Nat.beq i j with
    | true =>
      have hij := beq_iff.1 hb
      rcases List.mem_cons.1 h with h | h
      · injection h with _ h; rw [h]
      · exact absurd (List.mem_map.2 ⟨_, h, hij⟩) hn.1
    | false =>
      rcases List.mem_cons.1 h with h | h
      · injection h with h _
        rw [beq_iff.2 h] at hb
        cases hb
      · exact ih hn.2 h
theorem fE_ver : ∀ {bs : List (Nat × Blk)} {i : Nat}, (fE bs i).ver = 0
  | [], _ => rfl
  | (j, B) :: r, i => by
    unfold fE
    cases Nat.beq i j
    · exact fE_ver
    · rfl

/-- what a call has made of the memory -/
structure GR (C : Cx) (w : World) (m : MM) (bs : List (Nat × Blk)) (ks : List Nat) (r : AV) (bs' : List (Nat × Blk)) (v : Value) (m' : MM) (w' : World) : Prop where
  rv : RV w' (shp (fE bs')) m' r v
  mem : Mem C.N w' (fE bs') m'
  oo : m'.O = m.O
  kin : Kin w (fun b => ∃ i, (fE bs i).blk ≠ none ∧ m i = some b) w'
  own : ∀ i b, (fE bs' i).blk ≠ none → m' i = some b → (∃ k, (fE bs k).blk ≠ none ∧ m k = some b) ∨ w.heap.size ≤ b
  ks : ∀ i ∈ ks, m' i = m i ∧ ∀ b, m i = some b → w'.shape? b = w.shape? b
  gl : C.Gl w'
/-- the function, called with these values, the blocks bs lent, returns this value and the blocks bs'; the names ks keep their blocks -/
def ACallG (C : Cx) (f : FuncId) (args : List AV) (bs : List (Nat × Blk)) (ks : List Nat) (r : AV) (bs' : List (Nat × Blk)) : Prop :=
  (∀ (vs : Array Value) (w : World), (callFunc f vs).run C.P w = .ok (.enter f vs) w) ∧
  ∀ (w : World) (m : MM) (cargs : Array Value), C.Gl w → Mem C.N w (fE bs) m → cargs.size = args.length → (∀ (j : Nat) (x : AV) (v : Value), args[j]? = some x → cargs[j]? = some v → RV w (shp (fE bs)) m x v) →
    Calls C.P f cargs w (fun e w' => ∃ v m', e = .returned v ∧ GR C w m bs ks r bs' v m' w')

/-- what is left to show where a function returns -/
def GBL (η η' : Nat → Ent) (σ : Nat → Nat) (Fz Tg : Nat → Prop) : List (Nat × Blk) → Prop
  | [] => True
  | (i, B) :: r => GB η η' σ Fz Tg (η (σ i)).blk B ∧ GBL η η' σ Fz Tg r
theorem GBL_at {η η' : Nat → Ent} {σ : Nat → Nat} {Fz Tg : Nat → Prop} : ∀ {l : List (Nat × Blk)} {i : Nat} {B : Blk}, GBL η η' σ Fz Tg l → (i, B) ∈ l → GB η η' σ Fz Tg (η (σ i)).blk B
  | [], _, _, _, h => by cases h
  | (j, B') :: r, i, B, h, hm => by
    rcases List.mem_cons.1 hm with e | e
    · injection e with e1 e2; subst e1 e2; exact h.1
    · exact GBL_at h.2 e
def ksB (σl : List (Nat × Nat)) (bs : List (Nat × Blk)) : List Nat → Bool
  | [] => true
  | i :: r => match Nat.beq (lk σl i) i, inB (keys bs) i with
    | true, true => ksB σl bs r
    | _, _ => false
theorem ksB_at {σl : List (Nat × Nat)} {bs : List (Nat × Blk)} : ∀ {l : List Nat}, ksB σl bs l = true → ∀ i ∈ l, lk σl i = i ∧ i ∈ keys bs
  | [], _, i, h => by cases h
  | j :: r, h, i, hi => by
    unfold ksB at h
    split at h
    · rename_i h1 h2
      rcases List.mem_cons.1 hi with rfl | hi
      · exact ⟨beq_iff.1 h1, inB_iff.1 h2⟩
      · exact ksB_at h i hi
    · cases h
abbrev srcs (σl : List (Nat × Nat)) (bs : List (Nat × Blk)) : List Nat := bs.map (fun p => lk σl p.1)
def okX (σl : List (Nat × Nat)) (bs' : List (Nat × Blk)) (ks : List Nat) : Bool := match nodB (srcs σl bs'), nodB (keys bs'), ksB σl bs' ks with
  | true, true, true => true
  | _, _, _ => false
theorem okX_ok {σl : List (Nat × Nat)} {bs' : List (Nat × Blk)} {ks : List Nat} (h : okX σl bs' ks = true) : (srcs σl bs').Nodup ∧ (keys bs').Nodup ∧ ksB σl bs' ks = true := by
  unfold okX at h
  split at h
  · rename_i h1 h2 h3
    exact ⟨nodB_iff.1 h1, nodB_iff.1 h2, h3⟩
  · cases h
def GX (hp : List Ent) (bs' : List (Nat × Blk)) (ks : List Nat) (xs rs : List AV) : Prop :=
  ∃ σl : List (Nat × Nat), okX σl bs' ks = true ∧ GWL (hpF hp) (fE bs') (lk σl) (fun i => inB (srcs σl bs') i = false) (fun i => inB (keys bs') i = true) xs rs ∧
    GBL (hpF hp) (fE bs') (lk σl) (fun i => inB (srcs σl bs') i = false) (fun i => inB (keys bs') i = true) bs'
def retG (C : Cx) (bs' : List (Nat × Blk)) (ks : List Nat) (rs : List ResultVar) (r : AV) : Exit → St → Prop
  | .normal, s => resK C s.tm s.hp rs (fun xs => oneK xs r (fun xs rs => True → GX s.hp bs' ks xs rs))
  | .ret, s => resK C s.tm s.hp rs (fun xs => oneK xs r (fun xs rs => True → GX s.hp bs' ks xs rs))
  | _, _ => False
/-- a frame of a function that is lent memory -/
def mkG (n N : Nat) (t : List (Nat × AV)) (h : List (Nat × Blk)) : St := ⟨mkT 0 n t, mkH 0 N h⟩
theorem nodup_inj {α : Type} (f : α → Nat) {l : List α} (h : (l.map f).Nodup) {x y : α} (hx : x ∈ l) (hy : y ∈ l) (e : f x = f y) : x = y := by
  induction l with
  | nil => cases hx
  | cons a r ih =>
    simp only [List.map_cons, List.nodup_cons] at h
    rcases List.mem_cons.1 hx with hx1 | hx1 <;> rcases List.mem_cons.1 hy with hy1 | hy1
    · rw [hx1, hy1]
    · subst hx1; exact absurd (List.mem_map.2 ⟨y, hy1, e.symm⟩) h.1
    · subst hy1; exact absurd (List.mem_map.2 ⟨x, hx1, e⟩) h.1
    · exact ih h.2 hx1 hy1
def rangeE (bs : List (Nat × Blk)) : Nat → Nat → List Ent
  | _, 0 => []
  | i, k + 1 => fE bs i :: rangeE bs (i + 1) k
theorem rangeE_at {bs : List (Nat × Blk)} : ∀ (k i j : Nat), hpF (rangeE bs i k) j = if j < k then fE bs (i + j) else ⟨0, none⟩
  | 0, i, j => by simp [rangeE]
  | k + 1, i, j => by
    cases j with
    | zero => simp [rangeE]
    | succ j =>
      have := rangeE_at (bs := bs) k (i + 1) j
      rw [show i + 1 + j = i + (j + 1) from by omega] at this
      simpa [rangeE] using this
def ltB (N : Nat) : List Nat → Bool
  | [] => true
  | j :: r => match Nat.blt j N with
    | true => ltB N r
    | false => false
theorem ltB_at {N : Nat} : ∀ {l : List Nat}, ltB N l = true → ∀ i ∈ l, i < N
  | [], _, i, h => by cases h
  | j :: r, h, i, hi => by
    unfold ltB at h
    split at h
    · rename_i h1
      rcases List.mem_cons.1 hi with rfl | hi
      · simpa [Nat.blt_eq] using h1
      · exact ltB_at h i hi
    · cases h
def geB (N : Nat) (bs : List (Nat × Blk)) : List Nat → Bool
  | [] => true
  | j :: r => match Nat.ble N j, inB (keys bs) j with
    | true, true => geB N bs r
    | _, _ => false
theorem geB_at {N : Nat} {bs : List (Nat × Blk)} : ∀ {l : List Nat}, geB N bs l = true → ∀ i ∈ l, N ≤ i ∧ i ∈ keys bs
  | [], _, i, h => by cases h
  | j :: r, h, i, hi => by
    unfold geB at h
    split at h
    · rename_i h1 h2
      rcases List.mem_cons.1 hi with rfl | hi
      · exact ⟨Nat.le_of_ble_eq_true h1, inB_iff.1 h2⟩
      · exact geB_at h i hi
    · cases h
section
variable {C : Cx} {n : Nat}
theorem acallg_of {f : FuncId} {fn : Func} {c : Code} {args : List AV} {bs bs' : List (Nat × Blk)} {ks : List Nat} {r : AV} (N : Nat) (hf : C.P.funcs[f]? = some fn) (hb : fn.body = some c) (hname : (fn.name == "runtime.NumGoroutine") = false) (hn : fn.ntmps = n) (_ha : args.length ≤ n)
    (hlt : ltB N (keys bs) = true) (hks : geB n bs ks = true)
    (h : forceK (args ++ List.replicate (n - args.length) .dead) (fun tm => forceK (rangeE bs 0 N) (fun hp => True → AWP C c (retG C bs' ks fn.results.toList r) ⟨tm, hp⟩))) : ACallG C f args bs ks r bs' := by
  have h := forceK_ok (forceK_ok h) trivial
  refine ⟨fun vs w => ?_, fun w m cargs hg hM hsz hargs => ?_⟩
  · simp only [callFunc, Sem.run_bind, program, Sem.run, Result.andThen_ok, hf, hname, hb]
    rfl
  have hη : hpF (rangeE bs 0 N) = fE bs := by
    funext i
    rw [rangeE_at]
    split
    · rw [Nat.zero_add]
    · rename_i hge
      have h1 : (fE bs i).blk = none := by
        by_cases he : (fE bs i).blk = none
        · exact he
        · exact absurd (ltB_at hlt i (fE_live.1 he)) hge
      have h2 := fE_ver (bs := bs) (i := i)
      generalize fE bs i = e at h1 h2
      obtain ⟨a, b⟩ := e
      simp only at h1 h2
      subst h1 h2
      rfl
  have hrep : RepS C w ⟨fun b => ∃ i, (fE bs i).blk ≠ none ∧ m i = some b, m.O, fun i => i ∈ ks, m.f⟩ ⟨args ++ List.replicate (n - args.length) .dead, rangeE bs 0 N⟩ m { tmps := cargs ++ Array.replicate (fn.ntmps - cargs.size) undef, defers := [] } w := by
    unfold RepS
    simp only [hη]
    refine ⟨fun t => ?_, by simp [hn, hsz], rfl, hM, ⟨rfl, rfl, rfl, Nat.le_refl _, fun _ _ _ => rfl⟩, rfl, fun i b hl hb => .inl ⟨i, hl, hb⟩, hg, fun i hi => ?_⟩
    · show RV w _ m ((args ++ List.replicate (n - args.length) AV.dead).getD t .dead) _
      rcases Nat.lt_or_ge t args.length with hlt | hge
      · rw [List.getD_eq_getElem?_getD, List.getElem?_append_left hlt, List.getElem?_eq_getElem hlt]
        have hc : t < cargs.size := by omega
        refine hargs t _ _ (List.getElem?_eq_getElem hlt) ?_
        rw [Array.getD_eq_getD_getElem?, Array.getElem?_append_left hc, Array.getElem?_eq_getElem hc]
        rfl
      · have : (args ++ List.replicate (n - args.length) AV.dead).getD t .dead = .dead := by
          rw [List.getD_eq_getElem?_getD, List.getElem?_append_right hge, List.getElem?_replicate]
          split <;> rfl
        rw [this]
        exact .dead _
    · obtain ⟨k1, k2⟩ := geB_at hks i hi
      exact ⟨by simp; omega, fE_live.2 k2, rfl, fun _ _ => rfl⟩
  unfold AWP at h
  refine calls_of_wp hf hb (wp_mono (h w _ m _ w hrep) ?_)
  rintro e a' w' ⟨s', m', hl, hq, hr'⟩
  have fin : resK C s'.tm s'.hp fn.results.toList (fun xs => oneK xs r (fun xs rs => True → GX s'.hp bs' ks xs rs)) → a'.defers = [] ∧ ∃ v, (results fn a'.tmps).run C.P w' = .ok v w' ∧ ∃ u m1, Ending.returned v = .returned u ∧ GR C w m bs ks r bs' u m1 w' := by
    intro hk
    obtain ⟨xs, us, h1, h2, h3, h4⟩ := resK_ok hr' hk
    refine ⟨hr'.df, ?_⟩
    have hrun : (results fn a'.tmps).run C.P w' = .ok (if h : us.toArray.size = 1 then us.toArray[0] else .tuple us.toArray) w' := by
      unfold results
      rw [Array.mapM_eq_mapM_toList, map_eq_pure_bind]
      simp only [Sem.run_bind]
      erw [h2]
      simp
    have hfin : ∀ (ys : List AV), GX s'.hp bs' ks xs ys → ∃ m1 : MM, xs.length = ys.length ∧ (∀ (j : Nat) (y : AV) (u : Value), ys[j]? = some y → us[j]? = some u → RV w' (shp (fE bs')) m1 y u) ∧
        (∀ v, RV w' (shp (fE bs')) m1 r v → GR C w m bs ks r bs' v m1 w') := by
      rintro ys ⟨σl, hok, hwl, hbl⟩
      obtain ⟨k1, k2, k3⟩ := okX_ok hok
      let m1 : MM := ⟨fun i => match (fE bs' i).blk with
        | some _ => (match (hpF s'.hp (lk σl i)).blk with | some _ => m' (lk σl i) | none => none)
        | none => none, m'.O⟩
      have hm1 : ∀ i, (fE bs' i).blk ≠ none → m1 i = match (hpF s'.hp (lk σl i)).blk with | some _ => m' (lk σl i) | none => none := by
        intro i hi
        show (match (fE bs' i).blk with | some _ => _ | none => none) = _
        cases hB : (fE bs' i).blk with
        | none => exact absurd hB hi
        | some B => rfl
      have hm1s : ∀ i b, (fE bs' i).blk ≠ none → m1 i = some b → (hpF s'.hp (lk σl i)).blk ≠ none ∧ m' (lk σl i) = some b := by
        intro i b hi hb
        rw [hm1 i hi] at hb
        cases hB : (hpF s'.hp (lk σl i)).blk with
        | none => rw [hB] at hb; cases hb
        | some B => rw [hB] at hb; exact ⟨by simp, hb⟩
      have hsrc : ∀ i, (fE bs' i).blk ≠ none → lk σl i ∈ srcs σl bs' := by
        intro i hi
        obtain ⟨p, hp, rfl⟩ := List.mem_map.1 (fE_live.1 hi)
        exact List.mem_map.2 ⟨p, hp, rfl⟩
      have hinj : ∀ i j, (fE bs' i).blk ≠ none → (fE bs' j).blk ≠ none → lk σl i = lk σl j → i = j := by
        intro i j hi hj e
        obtain ⟨p, hp, rfl⟩ := List.mem_map.1 (fE_live.1 hi)
        obtain ⟨q, hq, rfl⟩ := List.mem_map.1 (fE_live.1 hj)
        rw [nodup_inj (fun p : Nat × Blk => lk σl p.1) k1 hp hq e]
      have hV : View w' (hpF s'.hp) m' (fE bs') m1 (lk σl) (fun i => inB (srcs σl bs') i = false) (fun i => inB (keys bs') i = true) := by
        refine ⟨?_, ?_, fun i ht hi => hm1 i hi⟩
        · rintro b (ho | ⟨i, hi, hb⟩)
          · exact .inl ho
          · obtain ⟨q1, q2⟩ := hm1s i b (blk_live.1 hi) hb
            exact .inr ⟨_, blk_live.2 q1, q2⟩
        · rintro i b hz hi hb (ho | ⟨j, hj, hbj⟩)
          · exact hr'.mem.sep i b hi hb ho
          · obtain ⟨q1, q2⟩ := hm1s j b (blk_live.1 hj) hbj
            have := hr'.mem.inj _ _ b hi q1 hb q2
            subst this
            have := inB_iff.2 (hsrc j (blk_live.1 hj))
            rw [hz] at this
            cases this
      have hmem : Mem C.N w' (fE bs') m1 := by
        refine ⟨fun i B hB => ?_, fun i j b hi hj hb hb' => ?_, fun i b hi hb => ?_, fun i b hi hb => ?_, hr'.mem.olt, hr'.mem.big⟩
        · exact (GBL_at hbl (fE_mem hB)).ok hV hr'.mem (inB_iff.2 (fE_live.1 (by rw [hB]; simp))) hB
        · obtain ⟨q1, q2⟩ := hm1s i b hi hb
          obtain ⟨q3, q4⟩ := hm1s j b hj hb'
          exact hinj i j hi hj (hr'.mem.inj _ _ b q1 q3 q2 q4)
        · obtain ⟨q1, q2⟩ := hm1s i b hi hb
          exact hr'.mem.low _ b q1 q2
        · obtain ⟨q1, q2⟩ := hm1s i b hi hb
          exact hr'.mem.sep _ b q1 q2
      refine ⟨m1, hwl.len, fun j y u hy hu => ?_, fun v hv => ⟨hv, hmem, hr'.oo, hr'.kin, fun i b hi hb => ?_, fun i hi => ?_, hr'.gl⟩⟩
      · have hlt : j < xs.length := by rw [hwl.len]; exact (List.getElem?_eq_some_iff.1 hy).1
        exact (hwl.at j _ y (List.getElem?_eq_getElem hlt) hy).rv hV hr'.mem (h4 j _ u (List.getElem?_eq_getElem hlt) hu)
      · obtain ⟨q1, q2⟩ := hm1s i b hi hb
        exact hr'.own _ b q1 q2
      · obtain ⟨q1, q2⟩ := ksB_at k3 i hi
        obtain ⟨p1, p2, p3, p4⟩ := hr'.kk i hi
        have e1 : m1 i = m' i := by
          rw [hm1 i (fE_live.2 q2), q1]
          cases hB : (hpF s'.hp i).blk with
          | none => exact absurd hB p2
          | some B => rfl
        have p3' : m' i = m i := p3
        exact ⟨by rw [e1, p3'], fun b hb => p4 b (by rw [p3', hb])⟩
    refine ⟨_, hrun, ?_⟩
    rcases oneK_ok h1 with ⟨x, rfl, h1⟩ | ⟨rs, rfl, hne, h1⟩
    · obtain ⟨m1, g1, g2, g3⟩ := hfin [r] (h1 trivial)
      refine ⟨_, m1, rfl, g3 _ ?_⟩
      have hus : us.length = 1 := by simpa using h3.symm
      obtain ⟨u, rfl⟩ := List.length_eq_one_iff.1 hus
      simpa using g2 0 r u rfl rfl
    · obtain ⟨m1, g1, g2, g3⟩ := hfin rs (h1 trivial)
      refine ⟨_, m1, rfl, g3 _ ?_⟩
      have hus : us.length ≠ 1 := fun e => by
        obtain ⟨x, rfl⟩ := List.length_eq_one_iff.1 (show xs.length = 1 by omega)
        exact hne x rfl
      rw [dif_neg (by simpa using hus)]
      refine .tup (by simp; omega) (fun j x u hx hu => g2 j x u hx (by simpa using hu))
  cases e with
  | normal => exact fin hq
  | ret => exact fin hq
  | _ => exact hq.elim
end
/-- the names of a call agree -/
def okC (ρ : List (Nat × Nat)) (fz : List Nat) (bs : List (Nat × Blk)) (ks : List Nat) (bs' : List (Nat × Blk)) (go : List Nat) : Bool :=
  nodB (srcs ρ bs) && (nodB (srcs ρ bs') && (nodB (keys bs) && (nodB (keys bs') && (fz.all (fun i => !inB (srcs ρ bs) i) && (fz.all (inB go) && ((keys bs).all (fun i => inB go (lk ρ i) || inB ks i) && ks.all (fun i => !inB go (lk ρ i) && (inB (keys bs) i && inB (keys bs') i))))))))
def idsE (l : List (Nat × Ent)) : List Nat := l.map (·.1)
/-- what the blocks of the call's end become -/
def nbOk (n : Nat) (η η1 : Nat → Ent) (ρ : List (Nat × Nat)) (ks : List Nat) (η' : Nat → Ent) (σ : Nat → Nat) (Tg : Nat → Prop) : List (Nat × Blk) → List (Nat × Ent) → Prop
  | [], [] => True
  | (j, B) :: r, (k, ⟨ver, some B'⟩) :: s => (lk ρ j = k ∧ (match inB ks j with
    | true => ver = (η k).ver ∧ some B'.sz = (η k).blk.map Blk.sz
    | false => k < n ∧ (η k).ver + 1 < ver) ∧ GB η' η1 σ (fun _ => False) Tg (some B) B') ∧ nbOk n η η1 ρ ks η' σ Tg r s
  | _, _ => False
theorem nbOk_ids {n : Nat} {η η1 η' : Nat → Ent} {ρ : List (Nat × Nat)} {ks : List Nat} {σ : Nat → Nat} {Tg : Nat → Prop} : ∀ {bs' : List (Nat × Blk)} {nb : List (Nat × Ent)}, nbOk n η η1 ρ ks η' σ Tg bs' nb → idsE nb = srcs ρ bs'
  | [], [], _ => rfl
  | (j, B) :: r, (k, ⟨ver, some B'⟩) :: s, h => by
    simp only [idsE, srcs, List.map_cons, List.cons.injEq]
    exact ⟨h.1.1.symm, nbOk_ids h.2⟩
  | [], _ :: _, h => h.elim
  | (j, B) :: r, [], h => h.elim
  | (j, B) :: r, (k, ⟨ver, none⟩) :: s, h => h.elim
theorem nbOk_at {n : Nat} {η η1 η' : Nat → Ent} {ρ : List (Nat × Nat)} {ks : List Nat} {σ : Nat → Nat} {Tg : Nat → Prop} : ∀ {bs' : List (Nat × Blk)} {nb : List (Nat × Ent)}, nbOk n η η1 ρ ks η' σ Tg bs' nb → ∀ k e, (k, e) ∈ nb →
    ∃ j B B', (j, B) ∈ bs' ∧ e.blk = some B' ∧ lk ρ j = k ∧ (inB ks j = true → e.ver = (η k).ver ∧ some B'.sz = (η k).blk.map Blk.sz) ∧ (inB ks j = false → k < n ∧ (η k).ver + 1 < e.ver) ∧ GB η' η1 σ (fun _ => False) Tg (some B) B'
  | [], [], _, k, e, hm => by cases hm
  | (j, B) :: r, (k', ⟨ver, some B'⟩) :: s, h, k, e, hm => by
    rcases List.mem_cons.1 hm with q | q
    · injection q with q1 q2
      subst q1 q2
      obtain ⟨⟨a1, a2, a3⟩, _⟩ := h
      refine ⟨j, B, B', by simp, rfl, a1, fun hk => ?_, fun hk => ?_, a3⟩
      · rw [hk] at a2; exact a2
      · rw [hk] at a2; exact a2
    · obtain ⟨j', C, C', b1, b2⟩ := nbOk_at h.2 k e q
      exact ⟨j', C, C', List.mem_cons_of_mem _ b1, b2⟩
  | [], _ :: _, h, _, _, _ => h.elim
  | (j, B) :: r, [], h, _, _, _ => h.elim
  | (j, B) :: r, (k, ⟨ver, none⟩) :: s, h, _, _, _ => h.elim
theorem updAll_append : ∀ (us vs : List (Nat × Ent)) (η : Nat → Ent), updAll η (us ++ vs) = updAll (updAll η us) vs
  | [], _, _ => rfl
  | (i, e) :: r, vs, η => by rw [List.cons_append, updAll, updAll, updAll_append r]
theorem updAll_at : ∀ {us : List (Nat × Ent)} {η : Nat → Ent} {k : Nat} {e : Ent}, (idsE us).Nodup → (k, e) ∈ us → updAll η us k = e
  | [], _, _, _, _, h => by cases h
  | (i, e') :: r, η, k, e, hn, h => by
    simp only [idsE, List.map_cons, List.nodup_cons] at hn
    rw [updAll]
    rcases List.mem_cons.1 h with h | h
    · injection h with h1 h2
      subst h1 h2
      rw [updAll_other hn.1]
      simp [updE]
    · exact updAll_at hn.2 h
def backN (ρ : List (Nat × Nat)) (bs' : List (Nat × Blk)) : List (Nat × Nat) := bs'.map (fun p => (lk ρ p.1, p.1))
theorem backN_at {ρ : List (Nat × Nat)} : ∀ {bs' : List (Nat × Blk)} {j : Nat} {B : Blk}, (srcs ρ bs').Nodup → (j, B) ∈ bs' → lk (backN ρ bs') (lk ρ j) = j
  | [], _, _, _, h => by cases h
  | (i, C) :: r, j, B, hn, h => by
    simp only [srcs, List.map_cons, List.nodup_cons] at hn
    show lk ((lk ρ i, i) :: backN ρ r) (lk ρ j) = j
    unfold lk
    rcases List.mem_cons.1 h with h | h
    · injection h with h1 _
      subst h1
      rw [beq_iff.2 rfl]
    · cases hb : Nat.beq (lk ρ j) (lk ρ i) with
      | true => exact absurd (List.mem_map.2 ⟨_, h, beq_iff.1 hb⟩) hn.1
      | false => exact backN_at hn.2 h
section
variable {C : Cx} {n : Nat}
theorem lf_callG {o : Oper} {τ : Nat → AV} {η : Nat → Ent} {f : FuncId} {os : Array Operand} {ats : Array TypeId} {r r' : AV} {xs ys : List AV} {bs bs' : List (Nat × Blk)} {ks : List Nat} (ρ : List (Nat × Nat)) (fz : List Nat) (go nb : List (Nat × Ent))
    (ho : o.op = .call ⟨.value (.func f), os, ats⟩) (hd : InB n o.dst) (hargs : os.toList.map (evA τ) = xs) (hc : ACallG C f ys bs ks r bs')
    (hok : okC ρ fz bs ks bs' (idsE go) = true) (hgo : allUs η go) (hgl : ltUs n go)
    (hw : GWL η (fE bs) (lk ρ) (fun i => inB fz i = true) (fun i => inB (keys bs) i = true) xs ys) (hb : GBL η (fE bs) (lk ρ) (fun i => inB fz i = true) (fun i => inB (keys bs) i = true) bs)
    (hr : GW (fE bs') (updAll η (go ++ nb)) (lk (backN ρ bs')) (fun _ => False) (fun i => inB (idsE nb) i = true) r r')
    (hnb : nbOk n η (updAll η (go ++ nb)) ρ ks (fE bs') (lk (backN ρ bs')) (fun i => inB (idsE nb) i = true) bs' nb) : LF C n o τ η ⟨r', go ++ nb, []⟩ := by
  subst hargs
  intro τ' η' hτ hη w0 X m a w h
  simp only [okC, Bool.and_eq_true, List.all_eq_true, Bool.or_eq_true, Bool.not_eq_true'] at hok
  obtain ⟨o1, o2, o3, o4, o5, o6, o7, o8⟩ := hok
  rw [nodB_iff] at o1 o2 o3 o4
  have hidsn := nbOk_ids hnb
  have hidN : (idsE nb).Nodup := by rw [hidsn]; exact o2
  have hgoAt : ∀ k, k ∈ idsE go → η' k = η k := fun k hk => hη k (.inr (by simp only [Foot.ids, List.map_append, List.mem_append]; exact .inl hk))
  have hnbAt : ∀ k, k ∈ idsE nb → η' k = η k := fun k hk => hη k (.inr (by simp only [Foot.ids, List.map_append, List.mem_append]; exact .inr hk))
  have hkeep : ∀ i ∈ ks, lk ρ i ∉ idsE go ∧ i ∈ keys bs ∧ i ∈ keys bs' := fun i hi => by
    obtain ⟨q1, q2, q3⟩ := o8 i hi
    refine ⟨fun hm => ?_, inB_iff.1 q2, inB_iff.1 q3⟩
    rw [inB_iff.2 hm] at q1
    cases q1
  have hbs : ∀ i ∈ keys bs, lk ρ i ∈ idsE go ∨ i ∈ ks := fun i hi => by
    rcases o7 i hi with q | q
    · exact .inl (inB_iff.1 q)
    · exact .inr (inB_iff.1 q)
  have hfz : ∀ i ∈ fz, i ∈ idsE go ∧ i ∉ srcs ρ bs := fun i hi => by
    refine ⟨inB_iff.1 (o6 i hi), fun hm => ?_⟩
    have := o5 i hi
    rw [inB_iff.2 hm] at this
    cases this
  have hlkmem : ∀ {l : List (Nat × Blk)} {i : Nat}, i ∈ keys l → lk ρ i ∈ srcs ρ l := fun {l i} hi => by
    obtain ⟨p, hp, rfl⟩ := List.mem_map.1 hi
    exact List.mem_map.2 ⟨p, hp, rfl⟩
  have hrhoAt : ∀ i ∈ keys bs, η' (lk ρ i) = η (lk ρ i) := fun i hi => by
    rcases hbs i hi with q | q
    · exact hgoAt _ q
    · exact hnbAt _ (by rw [hidsn]; exact hlkmem (hkeep i q).2.2)
  have hw' : GWL η' (fE bs) (lk ρ) (fun i => inB fz i = true) (fun i => inB (keys bs) i = true) (os.toList.map (evA τ')) ys := by
    have hmap : os.toList.map (evA τ') = os.toList.map (evA τ) := List.map_congr_left (fun y hy => hτ y (by simp [ho, Op.operands, Call.operands]; exact .inr (by simpa using hy)))
    rw [hmap]
    exact hw.congr (fun i hi => hgoAt i (hfz i (inB_iff.1 hi)).1) (fun i hi => ⟨rfl, hrhoAt i (inB_iff.1 hi)⟩)
  have hb1 : ∀ i B, (i, B) ∈ bs → GB η' (fE bs) (lk ρ) (fun i => inB fz i = true) (fun i => inB (keys bs) i = true) (η' (lk ρ i)).blk B := fun i B hm => by
    rw [hrhoAt i (List.mem_map.2 ⟨_, hm, rfl⟩)]
    exact (GBL_at hb hm).congr (fun i hi => hgoAt i (hfz i (inB_iff.1 hi)).1) (fun i hi => ⟨rfl, hrhoAt i (inB_iff.1 hi)⟩)
  -- the callee's view
  let O0 : Nat → Prop := Owned (shp (dropB η' (fz ++ srcs ρ bs))) m
  let m0 : MM := ⟨fun i => match (fE bs i).blk with
    | some _ => (match (η' (lk ρ i)).blk with | some _ => m (lk ρ i) | none => none)
    | none => none, O0⟩
  have hO0 : ∀ b, O0 b → Owned (shp η') m b := by
    rintro b (q | ⟨i, q1, q2⟩)
    · exact .inl q
    · refine .inr ⟨i, ?_, q2⟩
      have := blk_live.1 q1
      by_cases hi : i ∈ fz ++ srcs ρ bs
      · exact absurd (drop_in hi) this
      · rw [drop_out hi] at this
        exact blk_live.2 this
  have hO1 : ∀ b, O0 b → m.O b ∨ ∃ i, i ∉ fz ∧ i ∉ srcs ρ bs ∧ (η' i).blk ≠ none ∧ m i = some b := by
    rintro b (q | ⟨i, q1, q2⟩)
    · exact .inl q
    · have := blk_live.1 q1
      by_cases hi : i ∈ fz ++ srcs ρ bs
      · exact absurd (drop_in hi) this
      · rw [drop_out hi] at this
        simp only [List.mem_append, not_or] at hi
        exact .inr ⟨i, hi.1, hi.2, this, q2⟩
  have hO2 : ∀ i b, i ∉ fz → i ∉ srcs ρ bs → (η' i).blk ≠ none → m i = some b → O0 b := fun i b q1 q2 q3 q4 =>
    .inr ⟨i, blk_live.2 (by rw [drop_out (by simp [q1]; simpa using q2)]; exact q3), q4⟩
  have hm0 : ∀ i, (fE bs i).blk ≠ none → m0 i = match (η' (lk ρ i)).blk with | some _ => m (lk ρ i) | none => none := by
    intro i hi
    show (match (fE bs i).blk with | some _ => _ | none => none) = _
    cases hB : (fE bs i).blk with
    | none => exact absurd hB hi
    | some B => rfl
  have hm0s : ∀ i b, (fE bs i).blk ≠ none → m0 i = some b → (η' (lk ρ i)).blk ≠ none ∧ m (lk ρ i) = some b := by
    intro i b hi hb
    rw [hm0 i hi] at hb
    cases hB : (η' (lk ρ i)).blk with
    | none => rw [hB] at hb; cases hb
    | some B => rw [hB] at hb; exact ⟨by simp, hb⟩
  have hinj0 : ∀ i j, (fE bs i).blk ≠ none → (fE bs j).blk ≠ none → lk ρ i = lk ρ j → i = j := by
    intro i j hi hj e
    obtain ⟨p, hp, rfl⟩ := List.mem_map.1 (fE_live.1 hi)
    obtain ⟨q, hq, rfl⟩ := List.mem_map.1 (fE_live.1 hj)
    rw [nodup_inj (fun p : Nat × Blk => lk ρ p.1) o1 hp hq e]
  have hsrc0 : ∀ i, (fE bs i).blk ≠ none → lk ρ i ∈ srcs ρ bs := fun i hi => hlkmem (fE_live.1 hi)
  have hV0 : View w η' m (fE bs) m0 (lk ρ) (fun i => inB fz i = true) (fun i => inB (keys bs) i = true) := by
    refine ⟨?_, ?_, fun i _ hi => hm0 i hi⟩
    · rintro b (q | ⟨i, q1, q2⟩)
      · exact hO0 b q
      · obtain ⟨p1, p2⟩ := hm0s i b (blk_live.1 q1) q2
        exact .inr ⟨_, blk_live.2 p1, p2⟩
    · rintro i b hz hi hbi (q | ⟨j, q1, q2⟩)
      · rcases hO1 b q with q | ⟨k, k1, _, k3, k4⟩
        · exact h.mem.sep i b hi hbi q
        · have := h.mem.inj i k b hi k3 hbi k4
          subst this
          exact k1 (inB_iff.1 hz)
      · obtain ⟨p1, p2⟩ := hm0s j b (blk_live.1 q1) q2
        have := h.mem.inj i _ b hi p1 hbi p2
        subst this
        exact (hfz _ (inB_iff.1 hz)).2 (hsrc0 j (blk_live.1 q1))
  have hmem0 : Mem C.N w (fE bs) m0 := by
    refine ⟨fun i B hB => ?_, fun i j b hi hj hbi hbj => ?_, fun i b hi hbi => ?_, fun i b hi hbi ho => ?_, fun b hb => ?_, h.mem.big⟩
    · exact (hb1 i B (fE_mem hB)).ok hV0 h.mem (inB_iff.2 (fE_live.1 (by rw [hB]; simp))) hB
    · obtain ⟨p1, p2⟩ := hm0s i b hi hbi
      obtain ⟨q1, q2⟩ := hm0s j b hj hbj
      exact hinj0 i j hi hj (h.mem.inj _ _ b p1 q1 p2 q2)
    · obtain ⟨p1, p2⟩ := hm0s i b hi hbi
      exact h.mem.low _ b p1 p2
    · obtain ⟨p1, p2⟩ := hm0s i b hi hbi
      rcases hO1 b ho with q | ⟨k, _, k2, k3, k4⟩
      · exact h.mem.sep _ b p1 p2 q
      · have := h.mem.inj k _ b k3 p1 k4 p2
        subst this
        exact k2 (hsrc0 i hi)
    · rcases hO0 b hb with q | ⟨i, q1, q2⟩
      · exact h.mem.olt b q
      · exact ⟨h.mem.lt (blk_live.1 q1) q2, h.mem.low i b (blk_live.1 q1) q2⟩
  have hrun : (execOp a.eval o).run C.P w = .ok (.enter f (os.map a.eval)) w := by
    simp [execOp, ho, resolve, Act.eval, Deferred.ofValue, invoke, hc.1]
  unfold Oper.wp
  rw [hrun]
  refine Calls.mono (hc.2 w m0 (os.map a.eval) h.gl hmem0 (by have := hw'.len; simpa using this) (fun j y v hy hv => ?_)) ?_
  · rw [Array.getElem?_map] at hv
    cases hj : os[j]? with
    | none => rw [hj] at hv; cases hv
    | some q =>
      rw [hj] at hv
      simp at hv
      subst hv
      have hx : (os.toList.map (evA τ'))[j]? = some (evA τ' q) := by simp [hj]
      exact (hw'.at j _ y hx hy).rv hV0 h.mem (h.ev q)
  rintro e w' ⟨v, m1, rfl, gr⟩
  -- back in the caller
  have hX0 : ∀ b, (∃ i, (fE bs i).blk ≠ none ∧ m0 i = some b) → ∃ i, (fE bs i).blk ≠ none ∧ (η' (lk ρ i)).blk ≠ none ∧ m (lk ρ i) = some b := by
    rintro b ⟨i, q1, q2⟩
    obtain ⟨p1, p2⟩ := hm0s i b q1 q2
    exact ⟨i, q1, p1, p2⟩
  obtain ⟨η1, hη1⟩ : ∃ η1, η1 = updAll η' (go ++ nb) := ⟨_, rfl⟩
  have e1 : ∀ k, k ∉ idsE go → k ∉ idsE nb → η1 k = η' k := fun k q1 q2 => by
    rw [hη1, updAll_other (by simp only [List.map_append, List.mem_append, not_or]; exact ⟨q1, q2⟩)]
  have e2 : ∀ k, k ∈ idsE go → k ∉ idsE nb → η1 k = ⟨(η' k).ver + 1, none⟩ := fun k q1 q2 => by
    rw [hη1, updAll_append, updAll_other q2, upd_gone go η' (fun i => ⟨(η i).ver + 1, none⟩) k (allUs_at hgo), if_pos (show k ∈ go.map (·.1) from q1), hgoAt k q1]
  have e3 : ∀ k e, (k, e) ∈ nb → η1 k = e := fun k e q => by
    rw [hη1, updAll_append, updAll_at hidN q]
  have hids : ∀ k, k ∈ idsE nb → ∃ e j B B', (k, e) ∈ nb ∧ η1 k = e ∧ (j, B) ∈ bs' ∧ e.blk = some B' ∧ lk ρ j = k ∧ lk (backN ρ bs') k = j ∧ (j ∈ ks → e.ver = (η' k).ver ∧ some B'.sz = (η' k).blk.map Blk.sz) ∧ (j ∉ ks → k < n ∧ (η' k).ver + 1 < e.ver) ∧
      GB (fE bs') (updAll η (go ++ nb)) (lk (backN ρ bs')) (fun _ => False) (fun i => inB (idsE nb) i = true) (some B) B' := by
    intro k hk
    obtain ⟨⟨k', e⟩, hp, rfl⟩ := List.mem_map.1 hk
    obtain ⟨j, B, B', b1, b2, b3, b4, b5, b6⟩ := nbOk_at hnb k' e hp
    refine ⟨e, j, B, B', hp, e3 _ _ hp, b1, b2, b3, by rw [← b3]; exact backN_at o2 b1, fun hj => ?_, fun hj => ?_, b6⟩
    · rw [hnbAt _ hk]; exact b4 (inB_iff.2 hj)
    · rw [hnbAt _ hk]
      refine b5 ?_
      cases hq : inB ks j with
      | true => exact absurd (inB_iff.1 hq) hj
      | false => rfl
  have hlive1 : ∀ k, k ∉ idsE nb → (η1 k).blk ≠ none → k ∉ idsE go ∧ η1 k = η' k := by
    intro k q1 q2
    by_cases hk : k ∈ idsE go
    · rw [e2 k hk q1] at q2
      exact absurd rfl q2
    · exact ⟨hk, e1 k hk q1⟩
  have hfree : ∀ k, k ∉ idsE nb → k ∉ idsE go → k ∉ fz ∧ k ∉ srcs ρ bs := by
    intro k q1 q2
    refine ⟨fun hm => q2 (hfz k hm).1, fun hm => ?_⟩
    obtain ⟨p, hp, rfl⟩ := List.mem_map.1 hm
    have hpk : p.1 ∈ keys bs := List.mem_map.2 ⟨p, hp, rfl⟩
    rcases hbs p.1 hpk with q | q
    · exact q2 q
    · exact q1 (by rw [hidsn]; exact hlkmem (hkeep _ q).2.2)
  have hnX : ∀ k b, k ∉ idsE nb → k ∉ idsE go → (η' k).blk ≠ none → m k = some b → ¬ ∃ i, (fE bs i).blk ≠ none ∧ m0 i = some b := by
    intro k b q1 q2 q3 q4 hx
    obtain ⟨i, p1, p2, p3⟩ := hX0 b hx
    have := h.mem.inj k _ b q3 p2 q4 p3
    subst this
    exact (hfree _ q1 q2).2 (hsrc0 i p1)
  let m2 : MM := ⟨fun k => if k ∈ idsE nb then m1 (lk (backN ρ bs') k) else m k, m.O⟩
  have m2a : ∀ k, k ∈ idsE nb → m2 k = m1 (lk (backN ρ bs') k) := fun k hk => if_pos hk
  have m2b : ∀ k, k ∉ idsE nb → m2 k = m k := fun k hk => if_neg hk
  have hliveJ : ∀ k, k ∈ idsE nb → (fE bs' (lk (backN ρ bs') k)).blk ≠ none := by
    intro k hk
    obtain ⟨e, j, B, B', _, _, b1, _, _, b4, _⟩ := hids k hk
    rw [b4, fE_at o4 b1]
    simp
  have hV2 : View w' (fE bs') m1 η1 m2 (lk (backN ρ bs')) (fun _ => False) (fun i => inB (idsE nb) i = true) := by
    refine ⟨?_, fun i b hz => hz.elim, fun i ht _ => ?_⟩
    · rintro b (q | ⟨k, q1, q2⟩)
      · refine .inl ?_
        rw [gr.oo]
        exact .inl q
      · by_cases hk : k ∈ idsE nb
        · rw [m2a k hk] at q2
          exact .inr ⟨_, blk_live.2 (hliveJ k hk), q2⟩
        · rw [m2b k hk] at q2
          obtain ⟨p1, p2⟩ := hlive1 k hk (blk_live.1 q1)
          obtain ⟨f1, f2⟩ := hfree k hk p1
          refine .inl ?_
          rw [gr.oo]
          exact hO2 k b f1 f2 (by rw [← p2]; exact blk_live.1 q1) q2
    · have hk := inB_iff.1 ht
      rw [m2a i hk]
      cases hB : (fE bs' (lk (backN ρ bs') i)).blk with
      | none => exact absurd hB (hliveJ i hk)
      | some B => rfl
  have hsame : ∀ b, b < w.heap.size → (¬ ∃ i, (fE bs i).blk ≠ none ∧ m0 i = some b) → w'.heap[b]? = w.heap[b]? := fun b q1 q2 => gr.kin.block b q1 q2
  have hM : Mono w (shp η') m w' (shp η1) m2 := by
    refine ⟨gr.kin.size, fun b hb hno => hsame b hb (fun hx => ?_), fun b hb hno ho => hno ?_, fun k => ?_, fun k hk => ?_⟩
    · obtain ⟨i, _, p2, p3⟩ := hX0 b hx
      exact hno (.inr ⟨_, blk_live.2 p2, p3⟩)
    · rcases ho with q | ⟨k, q1, q2⟩
      · exact .inl q
      · by_cases hk : k ∈ idsE nb
        · rw [m2a k hk] at q2
          rcases gr.own _ b (hliveJ k hk) q2 with hx | hx
          · obtain ⟨i, _, p2, p3⟩ := hX0 b hx
            exact .inr ⟨_, blk_live.2 p2, p3⟩
          · omega
        · rw [m2b k hk] at q2
          obtain ⟨_, p2⟩ := hlive1 k hk (blk_live.1 q1)
          exact .inr ⟨k, blk_live.2 (by rw [← p2]; exact blk_live.1 q1), q2⟩
    · show (η' k).ver ≤ (η1 k).ver
      by_cases hk : k ∈ idsE nb
      · obtain ⟨e, j, B, B', _, b0, b1, b2, b3, b4, b5, b6, _⟩ := hids k hk
        rw [b0]
        by_cases hj : j ∈ ks
        · exact Nat.le_of_eq (b5 hj).1.symm
        · have := (b6 hj).2; omega
      · by_cases hg : k ∈ idsE go
        · rw [e2 k hg hk]; exact Nat.le_succ _
        · rw [e1 k hg hk]; exact Nat.le_refl _
    · have hk' : (η1 k).ver = (η' k).ver := hk
      by_cases hn : k ∈ idsE nb
      · obtain ⟨e, j, B, B', _, b0, b1, b2, b3, b4, b5, b6, _⟩ := hids k hn
        by_cases hj : j ∈ ks
        · obtain ⟨c1, c2⟩ := b5 hj
          refine ⟨?_, fun hl => ?_⟩
          · simp only [shp, b0, b2, c1, ← c2, Option.map_some]
          · obtain ⟨g1, g2⟩ := gr.ks j hj
            have hm0k : m0 j = m k := by
              rw [hm0 j (fE_live.2 (hkeep j hj).2.1), b3]
              cases hB : (η' k).blk with
              | none => exact absurd hB (blk_live.1 hl)
              | some B => rfl
            refine ⟨by rw [m2a k hn, b4, g1, hm0k], fun b hb => g2 b (by rw [hm0k, hb])⟩
        · have := (b6 hj).2
          rw [b0] at hk'
          omega
      · by_cases hg : k ∈ idsE go
        · rw [e2 k hg hn] at hk'
          simp at hk'
        · refine ⟨by simp only [shp, e1 k hg hn], fun hl => ⟨m2b k hn, fun b hb => ?_⟩⟩
          unfold World.shape?
          rw [hsame b (h.mem.lt (blk_live.1 hl) hb) (hnX k b hn hg (blk_live.1 hl) hb)]
  have hgbk : ∀ k B', (η1 k).blk = some B' → k ∈ idsE nb → GB (fE bs') η1 (lk (backN ρ bs')) (fun _ => False) (fun i => inB (idsE nb) i = true) (fE bs' (lk (backN ρ bs') k)).blk B' := by
    intro k B' hB hk
    obtain ⟨e, j, B, B2, _, b0, b1, b2, b3, b4, b5, b6, b7⟩ := hids k hk
    rw [b0, b2] at hB
    injection hB with hB
    subst hB
    rw [b4, fE_at o4 b1]
    exact b7.congr (fun i hi => hi.elim) (fun i hi => ⟨by
      obtain ⟨e', _, _, _, q1, q2, _⟩ := hids i (inB_iff.1 hi)
      rw [q2, updAll_append, updAll_at hidN q1], rfl⟩)
  have hmem : Mem C.N w' η1 m2 := by
    refine ⟨fun k B hB => ?_, fun i j b hi hj hbi hbj => ?_, fun k b hk hb => ?_, fun k b hk hb => ?_, fun b hb => ⟨Nat.lt_of_lt_of_le (h.mem.olt b hb).1 gr.kin.size, (h.mem.olt b hb).2⟩, Nat.le_trans h.mem.big gr.kin.size⟩
    · by_cases hk : k ∈ idsE nb
      · exact (hgbk k B hB hk).ok hV2 gr.mem (inB_iff.2 hk) hB
      · obtain ⟨p1, p2⟩ := hlive1 k hk (by rw [hB]; simp)
        rw [m2b k hk]
        have hB' : (η' k).blk = some B := by rw [← p2]; exact hB
        exact (h.mem.ok k B hB').mono hM (fun b hb => hsame b (h.mem.lt (by rw [hB']; simp) hb) (hnX k b hk p1 (by rw [hB']; simp) hb))
    · have cross : ∀ i j, i ∈ idsE nb → j ∉ idsE nb → (η1 j).blk ≠ none → m2 i = some b → m2 j = some b → False := by
        intro i j hi hj hl hbi hbj
        rw [m2a i hi] at hbi
        rw [m2b j hj] at hbj
        obtain ⟨p1, p2⟩ := hlive1 j hj hl
        have hl' : (η' j).blk ≠ none := by rw [← p2]; exact hl
        rcases gr.own _ b (hliveJ i hi) hbi with hx | hx
        · exact hnX j b hj p1 hl' hbj hx
        · have := h.mem.lt hl' hbj
          omega
      by_cases hin : i ∈ idsE nb <;> by_cases hjn : j ∈ idsE nb
      · rw [m2a i hin] at hbi
        rw [m2a j hjn] at hbj
        have hij := gr.mem.inj _ _ b (hliveJ i hin) (hliveJ j hjn) hbi hbj
        obtain ⟨_, j1, _, _, _, _, _, _, c1, c2, _⟩ := hids i hin
        obtain ⟨_, j2, _, _, _, _, _, _, d1, d2, _⟩ := hids j hjn
        rw [c2, d2] at hij
        rw [← c1, ← d1, hij]
      · exact (cross i j hin hjn hj hbi hbj).elim
      · exact (cross j i hjn hin hi hbj hbi).elim
      · rw [m2b i hin] at hbi
        rw [m2b j hjn] at hbj
        obtain ⟨_, p2⟩ := hlive1 i hin hi
        obtain ⟨_, q2⟩ := hlive1 j hjn hj
        exact h.mem.inj i j b (by rw [← p2]; exact hi) (by rw [← q2]; exact hj) hbi hbj
    · by_cases hn : k ∈ idsE nb
      · rw [m2a k hn] at hb
        exact gr.mem.low _ b (hliveJ k hn) hb
      · rw [m2b k hn] at hb
        obtain ⟨_, p2⟩ := hlive1 k hn hk
        exact h.mem.low k b (by rw [← p2]; exact hk) hb
    · by_cases hn : k ∈ idsE nb
      · rw [m2a k hn] at hb
        intro ho
        exact gr.mem.sep _ b (hliveJ k hn) hb (by rw [gr.oo]; exact .inl ho)
      · rw [m2b k hn] at hb
        obtain ⟨_, p2⟩ := hlive1 k hn hk
        exact h.mem.sep k b (by rw [← p2]; exact hk) hb
  have hXb : ∀ b, (∃ i, (fE bs i).blk ≠ none ∧ m0 i = some b) → X b ∨ w0.heap.size ≤ b := fun b hx => by
    obtain ⟨i, _, p2, p3⟩ := hX0 b hx
    exact h.own _ b p2 p3
  have hkin : Kin w0 X.X w' := ⟨gr.kin.os.trans h.kin.os, gr.kin.tape.trans h.kin.tape, gr.kin.output.trans h.kin.output, Nat.le_trans h.kin.size gr.kin.size, fun b hb hx => by
    rw [hsame b (Nat.lt_of_lt_of_le hb h.kin.size) (fun hq => ?_), h.kin.block b hb hx]
    rcases hXb b hq with q | q
    · exact hx q
    · omega⟩
  have hrep := h.move hM hmem hkin rfl (fun k b hk hb => ?_) (fun k hk => ?_)
  · refine ⟨m2, ?_⟩
    have hr' : GW (fE bs') η1 (lk (backN ρ bs')) (fun _ => False) (fun i => inB (idsE nb) i = true) r r' := hr.congr (fun i hi => hi.elim) (fun i hi => ⟨by
      obtain ⟨e', _, _, _, q1, q2, _⟩ := hids i (inB_iff.1 hi)
      rw [q2, updAll_append, updAll_at hidN q1], rfl⟩)
    have := hrep.put hd (hr'.rv hV2 gr.mem gr.rv)
    rw [hη1] at this
    exact this
  · by_cases hn : k ∈ idsE nb
    · rw [m2a k hn] at hb
      rcases gr.own _ b (hliveJ k hn) hb with hx | hx
      · exact hXb b hx
      · exact .inr (Nat.le_trans h.kin.size hx)
    · rw [m2b k hn] at hb
      obtain ⟨_, p2⟩ := hlive1 k hn hk
      exact h.own k b (by rw [← p2]; exact hk) hb
  · by_cases hn : k ∈ idsE nb
    · obtain ⟨e, j, B, B', _, b0, b1, b2, b3, b4, b5, b6, _⟩ := hids k hn
      rw [b0]
      by_cases hj : j ∈ ks
      · exact (b5 hj).1
      · have := (b6 hj).1; omega
    · by_cases hg : k ∈ idsE go
      · obtain ⟨p, hp, rfl⟩ := List.mem_map.1 hg
        have := ltUs_at hgl p hp
        omega
      · rw [e1 k hg hn]
end
/-- a pure contract as a general one -/
theorem ACall.g {C : Cx} {f : FuncId} {args : List AV} {r : AV} (h : ACall C f args r) : ACallG C f args [] [] r [] := by
  refine ⟨h.1, fun w m cargs hg hM hsz hargs => ?_⟩
  have hnov : shp (fE []) = nov := by funext i; rfl
  have hfr : ∀ (m : MM), ∀ b, Owned nov (mO m.O) b ↔ Owned (shp (fE [])) m b := fun m b => by
    rw [hnov]
    constructor
    · rintro (q | ⟨i, q1, _⟩)
      · exact .inl q
      · exact absurd rfl q1
    · rintro (q | ⟨i, q1, _⟩)
      · exact .inl q
      · exact absurd rfl q1
  have hMono : ∀ (w : World) (m m' : MM), m.O = m'.O → Mono w nov m w nov m' := fun w m m' hO =>
    ⟨Nat.le_refl _, fun _ _ _ => rfl, fun b _ hno ho => hno (by
      rcases ho with q | ⟨i, q1, _⟩
      · exact .inl (by rw [hO]; exact q)
      · exact absurd rfl q1), fun _ => Nat.le_refl _, fun i _ => ⟨rfl, fun hl => absurd rfl hl⟩⟩
  refine Calls.mono (h.2 w m.O cargs hg hM.big hM.olt hsz (fun j x v hx hv => (by have := hargs j x v hx hv; rw [hnov] at this; exact this.mono (hMono w m (mO m.O) rfl)))) ?_
  rintro e w' ⟨v, rfl, h1, h2, h3⟩
  refine ⟨v, m, rfl, by rw [hnov]; exact h1.mono (hMono w' (mO m.O) m rfl), ?_, rfl, ⟨h2.os, h2.tape, h2.output, h2.size, fun b hb _ => h2.block b hb (by simp)⟩, fun i b hi => absurd rfl hi, fun i hi => (by cases hi), h3⟩
  exact ⟨fun i B hB => (by cases hB), fun i j b hi => absurd rfl hi, fun i b hi => absurd rfl hi, fun i b hi => absurd rfl hi, fun b hb => ⟨Nat.lt_of_lt_of_le (hM.olt b hb).1 h2.size, (hM.olt b hb).2⟩, Nat.le_trans hM.big h2.size⟩
end Go.Proofs.YtljekaadbabhkaaDoor.Am
/- A call that is lent own memory and leaves it as it is: it only reads. -/
namespace Go.Proofs.YtljekaadbabhkaaDoor.Am
def sameUs (η : Nat → Ent) : List (Nat × Ent) → Prop
  | [] => True
  | (i, e) :: r => η i = e ∧ sameUs η r
theorem updAll_sameUs : ∀ {us : List (Nat × Ent)} {η : Nat → Ent}, sameUs η us → updAll η us = η
  | [], _, _ => rfl
  | (i, e) :: r, η, h => by
    have hu : updE η i e = η := by
      funext k
      unfold updE
      split
      · rename_i hk
        first | rw [hk, h.1] | rw [← hk, h.1] | (have := h.1; simp_all)
      · rfl
    rw [updAll, hu]
    exact updAll_sameUs h.2
theorem sameUs_congr : ∀ {us : List (Nat × Ent)} {η η' : Nat → Ent}, (∀ i ∈ us.map (·.1), η' i = η i) → sameUs η us → sameUs η' us
  | [], _, _, _, _ => trivial
  | _ :: _, _, _, h, hs => ⟨(h _ (List.mem_cons_self ..)).trans hs.1, sameUs_congr (fun k hk => h k (List.mem_cons_of_mem _ hk)) hs.2⟩
theorem lf_callK {C : Cx} {n : Nat} {o : Oper} {τ : Nat → AV} {η : Nat → Ent} {r' : AV} {nb : List (Nat × Ent)} (h : LF C n o τ η ⟨r', [] ++ nb, []⟩) (hs : sameUs η nb) : LF C n o τ η ⟨r', [], nb.map (·.1)⟩ := by
  intro τ' η' h1 h2
  have h3 : ∀ i ∈ nb.map (·.1), η' i = η i := fun i hi => h2 i (.inl hi)
  have := h τ' η' h1 (fun i hi => h3 i (by rcases hi with hi | hi; cases hi; exact hi))
  rwa [List.nil_append, updAll_sameUs (sameUs_congr h3 hs)] at this
theorem cons_eq {α : Type} {a b : α} {l m : List α} (h : a = b) (h2 : l = m) : a :: l = b :: m := by rw [h, h2]
theorem sl_dt {α : Type} {e : AV} {k m n : Nat} {f : α → List AV} {l : List α} (h : e = AV.sl k (List.drop m (List.take n (List.map f l)))) : e = AV.sl k (List.map f (List.drop m (List.take n l))) := h.trans (by rw [List.map_drop, List.map_take])
end Go.Proofs.YtljekaadbabhkaaDoor.Am
/- What is known of the package-level variables: that internal/bytealg.MaxLen holds a number, and internal/strconv's table of powers of ten. -/
namespace Go.Proofs.YtljekaadbabhkaaDoor
open Go.RowKit
abbrev TabOk (w : World) : Prop := Lib.TabIs Tryd.prog w "internal/strconv.uint64pow10" .u64 Lib.pow10Tab
theorem gPow : Tryd.prog.globalNamed "internal/strconv.uint64pow10" = some 3 := by kernel_rfl
end Go.Proofs.YtljekaadbabhkaaDoor
namespace Go.Proofs.YtljekaadbabhkaaDoor.Am
open Go.RowKit
theorem tab_block {w : World} (h : TabOk w) : ∃ cs t fr, w.heap[3]? = some (.cells cs t fr) := by
  unfold TabOk Lib.TabIs World.var? at h
  rw [gPow] at h
  simp only [Option.bind_some] at h
  split at h
  · exact ⟨_, _, _, by assumption⟩
  · cases h
theorem tab_keep {w w' : World} (hk : w'.heap[3]? = w.heap[3]?) (h : TabOk w) : TabOk w' := by
  unfold TabOk Lib.TabIs World.var? at h ⊢
  rw [gPow] at h ⊢
  simp only [Option.bind_some] at h ⊢
  rw [hk]
  exact h
def GlOk (w : World) : Prop := TabOk w ∧ ∃ m, w.cell? ⟨0, 0, none⟩ = some (.int .i64 m)
def glN : Nat := 3 + 1
theorem gl_keep (w w' : World) (hk : ∀ b, b < glN → w'.heap[b]? = w.heap[b]?) (h : GlOk w) : GlOk w' := ⟨tab_keep (hk _ (by decide)) h.1, by obtain ⟨m, hm⟩ := h.2; exact ⟨m, by rw [← hm]; exact World.cell?_of_block (hk _ (by decide))⟩⟩
theorem gl_size {w : World} (h : GlOk w) : glN ≤ w.heap.size := by
  obtain ⟨cs, t, fr, h1⟩ := tab_block h.1
  exact lt_of_block h1
end Go.Proofs.YtljekaadbabhkaaDoor.Am
/- The abstract machine over the program of chapter 13. -/
namespace Go.Proofs.YtljekaadbabhkaaDoor.Am
open Go.RowKit

noncomputable def cx : Cx := { P := Tryd.prog, N := glN, Gl := GlOk, keep := gl_keep, T := tyTab, tyOk := tyTab_ok, mixed := by kernel_rfl }
theorem tab_size {w : World} (h : GlOk w) : cx.N ≤ w.heap.size := gl_size h
theorem kin_below {w w' : World} (h : Below w.heap.size w w') : Kin w (fun _ => False) w' := ⟨h.os, h.tape, h.output, h.size, fun b hb _ => h.block b hb⟩
theorem below_kin {w w' : World} (h : Kin w (fun _ => False) w') : Below w.heap.size w w' := ⟨h.os, h.tape, h.output, h.size, fun b hb => h.block b hb (fun h => h)⟩
theorem enter_of {f : FuncId} {fn : Func} {c : Code} (hf : Tryd.prog.funcs[f]? = some fn) (hb : fn.body = some c) (hname : (fn.name == "runtime.NumGoroutine") = false) (vs : Array Value) (w : World) : (callFunc f vs).run cx.P w = .ok (.enter f vs) w := by
  have hf' : cx.P.funcs[f]? = some fn := hf
  simp only [callFunc, Sem.run_bind, program, Sem.run, Result.andThen_ok, hf', hname, hb]
  rfl
theorem acall_gl {f : FuncId} {fn : Func} {c : Code} {args : List AV} {r : AV} (hf : Tryd.prog.funcs[f]? = some fn) (hb : fn.body = some c) (hname : (fn.name == "runtime.NumGoroutine") = false)
    (h : ∀ (w : World) (O : Nat → Prop) (cargs : Array Value), GlOk w → (∀ b, O b → b < w.heap.size) → cargs.toList.length = args.length → (∀ (j : Nat) (x : AV) (v : Value), args[j]? = some x → cargs[j]? = some v → RV w nov (mO O) x v) →
      Calls Tryd.prog f cargs w (fun e w' => ∃ v, e = .returned v ∧ RV w' nov (mO O) r v ∧ Below w.heap.size w w')) : ACall cx f args r := by
  refine ⟨enter_of hf hb hname, fun w O cargs hg _ hO hs hr => ?_⟩
  refine Calls.mono (h w O cargs hg (fun b hb => (hO b hb).1) (by simpa using hs) hr) ?_
  rintro e w' ⟨v, h1, h2, h3⟩
  exact ⟨v, h1, h2, kin_below h3, cx.keep w w' (fun b hb => h3.block b (Nat.lt_of_lt_of_le hb (tab_size hg))) hg⟩
/-- a law that returns true -/
theorem law_of {f : FuncId} {args : List AV} {w : World} {cargs : Array Value} (h : ACall cx f args (.c (.bool true))) (ht : GlOk w) (hs : cargs.size = args.length) (hr : ∀ (j : Nat) (x : AV) (v : Value), args[j]? = some x → cargs[j]? = some v → RV w nov (mO (fun _ => False)) x v) :
    Calls Tryd.prog f cargs w fun e w' => e = .returned (.bool true) ∧ Below w.heap.size w w' := by
  refine Calls.mono (h.2 w (fun _ => False) cargs ht (tab_size ht) (fun b hb => hb.elim) hs hr) ?_
  rintro e w' ⟨v, rfl, h1, h2, _⟩
  rw [rv_c h1]
  exact ⟨rfl, below_kin h2⟩

theorem args1 {cargs : Array Value} (h : cargs.toList.length = 1) : ∃ a, cargs = #[a] := by
  obtain ⟨a, ha⟩ := List.length_eq_one_iff.1 h
  exact ⟨a, Array.ext' ha⟩
theorem args2 {cargs : Array Value} (h : cargs.toList.length = 2) : ∃ a b, cargs = #[a, b] := by
  match hc : cargs.toList, h with
  | [a, b], _ => exact ⟨a, b, Array.ext' hc⟩
end Go.Proofs.YtljekaadbabhkaaDoor.Am
/- The test for the document's errors, for the decompiler's proofs. -/
namespace Go.Proofs.YtljekaadbabhkaaDoor.Am
open Go.RowKit
end Go.Proofs.YtljekaadbabhkaaDoor.Am
/- An abstract machine (7): contracts at worlds taken over as general calls: rows handed on, rows changed in place. -/
namespace Go.Proofs.YtljekaadbabhkaaDoor.Am
open Go.RowKit
/-- a value without own memory, in a later world -/
theorem rv_keep {w w' : World} {vs vs' : Shp} {m m' : MM} {y : AV} {u : Value} (hy : Fr y) (h : RV w vs m y u) (hs : w.heap.size ≤ w'.heap.size) (hc : ∀ b, b < w.heap.size → ¬ Owned vs m b → w'.heap[b]? = w.heap[b]?) (hn : ∀ b, b < w.heap.size → ¬ Owned vs m b → ¬ Owned vs' m' b) : RV w' vs' m' y u := by
  have hO : ∀ b, Owned (fun i => ((vs i).1 + 1, none)) ⟨fun _ => none, Owned vs' m'⟩ b ↔ Owned vs' m' b := by
    intro b
    constructor
    · rintro (q | ⟨i, q1, _⟩)
      · exact q
      · exact absurd rfl q1
    · exact fun q => .inl q
  have hM : Mono w vs m w' (fun i => ((vs i).1 + 1, none)) ⟨fun _ => none, Owned vs' m'⟩ :=
    ⟨hs, hc, fun b hb hno ho => hn b hb hno ((hO b).1 ho), fun i => Nat.le_succ _, fun i hi => by simp at hi⟩
  exact rv_fr hy (fun b hb => (hO b).2 hb) (h.mono hM)
theorem enter_g {P : Program} {f : FuncId} {fn : Func} {c : Code} (hf : P.funcs[f]? = some fn) (hb : fn.body = some c) (hname : (fn.name == "runtime.NumGoroutine") = false) (vs : Array Value) (w : World) : (callFunc f vs).run P w = .ok (.enter f vs) w := by
  simp only [callFunc, Sem.run_bind, program, Sem.run, Result.andThen_ok, hf, hname, hb]
  rfl
section
variable {C : Cx} {w w' : World} {m : MM} {bs : List (Nat × Blk)}
/-- a row that is handed on: the memory of a row that came in, or new memory -/
theorem gr_row {i0 E sz n' : Nat} {v v' : Value} {row : Option Nat} {els' : List (List AV)} {xs' : List Value} (hM : Mem C.N w (fE bs) m) (hG : C.Gl w) (hv : v.ownBlock = none ∨ ((fE bs i0).blk ≠ none ∧ m i0 = v.ownBlock)) (hrow : w'.ownsRow 0 E sz v' n' xs') (hgr : w.grownBy w' row)
    (hr : row = v.ownBlock ∨ ∀ b, row = some b → w.heap.size ≤ b) (hv' : v'.ownBlock = v.ownBlock ∨ ∀ b, v'.ownBlock = some b → w.heap.size ≤ b) (hl : els'.length = n')
    (hfl : ∀ (k : Nat) (e : List AV), els'[k]? = some e → e.length = sz ∧ ∀ (j : Nat) (y : AV), e[j]? = some y → Fr y ∧ ∃ u, xs'[k * sz + j]? = some u ∧ u.oneCell' = true ∧ RV w (shp (fE bs)) m y u) :
    GR C w m bs [] (.own 0 0 0 n') [(0, ⟨E, sz, false, els'⟩)] v' ⟨fun k => if k = 0 then v'.ownBlock else none, m.O⟩ w' := by
  have hvb : ∀ b, v.ownBlock = some b → (fE bs i0).blk ≠ none ∧ m i0 = some b := fun b hb => by
    rcases hv with q | ⟨q1, q2⟩
    · rw [q] at hb; cases hb
    · exact ⟨q1, by rw [q2, hb]⟩
  have hnew : ∀ b, v'.ownBlock = some b → ((fE bs i0).blk ≠ none ∧ m i0 = some b) ∨ w.heap.size ≤ b := fun b hb => by
    rcases hv' with q | q
    · rw [q] at hb; exact .inl (hvb b hb)
    · exact .inr (q b hb)
  have hrow0 : ∀ b, b < w.heap.size → row = some b → (fE bs i0).blk ≠ none ∧ m i0 = some b := fun b hb hq => by
    rcases hr with q | q
    · rw [q] at hq; exact hvb b hq
    · have := q b hq; omega
  have hcell : ∀ b, b < w.heap.size → ¬ Owned (shp (fE bs)) m b → w'.heap[b]? = w.heap[b]? := fun b hb hno => hgr.block b hb (fun e => by
    obtain ⟨q1, q2⟩ := hrow0 b hb e.symm
    exact hno (.inr ⟨i0, blk_live.2 q1, q2⟩))
  have hown : ∀ b, b < w.heap.size → ¬ Owned (shp (fE bs)) m b → ¬ Owned (shp (fE [(0, ⟨E, sz, false, els'⟩)])) ⟨fun k => if k = 0 then v'.ownBlock else none, m.O⟩ b := by
    rintro b hb hno (q | ⟨k, q1, q2⟩)
    · exact hno (.inl q)
    · have q2' : (if k = 0 then v'.ownBlock else none) = some b := q2
      split at q2'
      · rcases hnew b q2' with ⟨p1, p2⟩ | p
        · exact hno (.inr ⟨i0, blk_live.2 p1, p2⟩)
        · omega
      · cases q2'
  have hfE : fE [(0, (⟨E, sz, false, els'⟩ : Blk))] 0 = ⟨0, some ⟨E, sz, false, els'⟩⟩ := rfl
  have hblk : BlkOk w' (shp (fE [(0, ⟨E, sz, false, els'⟩)])) ⟨fun k => if k = 0 then v'.ownBlock else none, m.O⟩ ⟨E, sz, false, els'⟩ v'.ownBlock := by
    rcases hrow.2 with ⟨rfl, h0⟩ | ⟨g, cap, cur, rfl, _, hh, hnc, hmx, hcs, htake⟩
    · exact ⟨List.length_eq_zero_iff.1 (by show els'.length = 0; omega), rfl⟩
    · refine ⟨cur, hh, ?_, fun k e he => ⟨(hfl k e he).1, fun j y hy => ?_⟩⟩
      · show els'.length * sz ≤ cur.size
        rw [hcs, hl]
        exact Nat.mul_le_mul_right _ hnc
      · obtain ⟨h1, u, u1, u2, u3⟩ := (hfl k e he).2 j y hy
        refine ⟨u, ?_, u2, rv_keep h1 u3 hgr.size hcell hown⟩
        rw [← htake, List.getElem?_take] at u1
        split at u1
        · simpa using u1
        · cases u1
  have hliveI : ∀ i, (fE [(0, (⟨E, sz, false, els'⟩ : Blk))] i).blk ≠ none → i = 0 := fun i hi => by
    have := fE_live.1 hi
    simpa [keys] using this
  refine ⟨?_, ⟨fun i B hB => ?_, fun i j b hi hj _ _ => ?_, fun i b hi hb => ?_, fun i b hi hb ho => ?_, fun b hb => ⟨Nat.lt_of_lt_of_le (hM.olt b hb).1 hgr.size, (hM.olt b hb).2⟩, Nat.le_trans hM.big hgr.size⟩, rfl, ⟨hgr.os, hgr.tape, hgr.output, hgr.size, fun b hb hx => ?_⟩, fun i b hi hb => ?_, fun i hi => (by cases hi), C.keep w w' (fun b hb => hgr.block b (Nat.lt_of_lt_of_le hb hM.big) (fun e => ?_)) hG⟩
  · rcases hrow.2 with ⟨rfl, h0⟩ | ⟨g, cap, cur, rfl, _, hh, hnc, hmx, hcs, htake⟩
    · subst h0
      exact .ownN (sz := sz) rfl rfl
    · have := RV.own (w := w') (vs := shp (fE [(0, ⟨E, sz, false, els'⟩)])) (m := ⟨fun k => if k = 0 then (Value.slice (some ⟨g, 0, none⟩) n' cap).ownBlock else none, m.O⟩) (i := 0) (ver := 0) (sz := sz) (k := 0) (b := g) (ty := E) (n := cur.size) (len := n') (cap := cap) rfl rfl hnc hmx (by simp [World.shape?, hh]) (by rw [Nat.zero_add, hcs])
      simpa using this
  · have hi := hliveI i (by rw [hB]; simp)
    subst hi
    rw [hfE] at hB
    injection hB with hB
    subst hB
    exact hblk
  · rw [hliveI i hi, hliveI j hj]
  · have := hliveI i hi
    subst this
    rcases hnew b hb with ⟨p1, p2⟩ | p
    · exact hM.low i0 b p1 p2
    · exact Nat.le_trans hM.big p
  · have := hliveI i hi
    subst this
    rcases hnew b hb with ⟨p1, p2⟩ | p
    · exact hM.sep i0 b p1 p2 ho
    · have := (hM.olt b ho).1
      omega
  · refine hgr.block b hb (fun e => hx ?_)
    obtain ⟨q1, q2⟩ := hrow0 b hb e.symm
    exact ⟨i0, q1, q2⟩
  · have := hliveI i hi
    subst this
    rcases hnew b hb with ⟨p1, p2⟩ | p
    · exact .inl ⟨i0, p1, p2⟩
    · exact .inr (by omega)
  · have hb' : b < w.heap.size := Nat.lt_of_lt_of_le hb hM.big
    obtain ⟨q1, q2⟩ := hrow0 b hb' e.symm
    have := hM.low i0 b q1 q2
    omega
end
end Go.Proofs.YtljekaadbabhkaaDoor.Am
/- planfile.lower and the document's Lower: a string in lower case. -/
namespace Go.Proofs.YtljekaadbabhkaaDoor
open Go.RowKit

def lowB (c : UInt8) : UInt8 := if 65 ≤ c.toNat ∧ c.toNat ≤ 90 then UInt8.ofNat (c.toNat + 32) else c
def lowS (s : ByteArray) : ByteArray := ⟨(s.data.toList.map lowB).toArray⟩
/-- bytes of the call's own, at block g -/
def BRow (w wr : World) (L : List UInt8) : Prop := Below w.heap.size w wr ∧ (∀ (j : Nat) (b : UInt8), L[j]? = some b → wr.cell? ⟨w.heap.size, j, none⟩ = some (.int .u8 (b.toNat : Int))) ∧ ∀ j, j < L.length → wr.frozen? ⟨w.heap.size, j, none⟩ = false
theorem lowB_toNat {c : UInt8} (h : 65 ≤ c.toNat ∧ c.toNat ≤ 90) : (lowB c).toNat = c.toNat + 32 := by
  rw [lowB, if_pos h]
  simp
  omega
theorem BRow.set_ {w wr : World} {L : List UInt8} (h : BRow w wr L) {k : Nat} {c : UInt8} (hk : k < L.length) {z : Int} (hz : z = (c.toNat : Int)) : BRow w (wr.setCell ⟨w.heap.size, k, none⟩ (.int .u8 z)) (L.set k c) := by
  subst hz
  refine ⟨h.1.setCell (Nat.le_refl _) _, fun j b hj => ?_, fun j hj => ?_⟩
  · by_cases e : j = k
    · subst e
      have h1 := h.2.1 j _ (List.getElem?_eq_getElem hk)
      rw [World.cell?_setCell_same' _ _ _ (by rw [h1]; rfl)]
      rw [List.getElem?_set_self hk] at hj
      cases hj
      rfl
    · rw [World.cell?_setCell_other _ _ _ _ (by simp)]
      rw [List.getElem?_set_ne (Ne.symm e)] at hj
      exact h.2.1 j b hj
  · rw [World.frozen?_setCell]
    exact h.2.2 j (by simpa using hj)
theorem low_step (L : List UInt8) (k : Nat) (c : UInt8) (h : L[k]? = some c) : ((L.take k).map lowB ++ L.drop k).set k (lowB c) = (L.take (k + 1)).map lowB ++ L.drop (k + 1) := by
  obtain ⟨hk, rfl⟩ := List.getElem?_eq_some_iff.1 h
  rw [List.set_append_right _ _ (by simp; omega)]
  rw [List.length_map, List.length_take, Nat.min_eq_left (by omega), Nat.sub_self, List.drop_eq_getElem_cons hk, List.set_cons_zero, List.take_succ_eq_append_getElem hk]
  simp only [List.map_append, List.map_cons, List.map_nil, List.append_assoc, List.cons_append, List.nil_append]
theorem low_stay (L : List UInt8) (k : Nat) (c : UInt8) (h : L[k]? = some c) (hc : lowB c = c) : (L.take k).map lowB ++ L.drop k = (L.take (k + 1)).map lowB ++ L.drop (k + 1) := by
  obtain ⟨hk, rfl⟩ := List.getElem?_eq_some_iff.1 h
  rw [List.drop_eq_getElem_cons hk, List.take_succ_eq_append_getElem hk]
  simp only [List.map_append, List.map_cons, List.map_nil, List.append_assoc, List.cons_append, List.nil_append, hc]
theorem low_at (L : List UInt8) (k : Nat) (h : k < L.length) : ((L.take k).map lowB ++ L.drop k)[k]? = L[k]? := by
  rw [List.getElem?_append_right (by simp; omega)]
  simp only [List.length_map, List.length_take, Nat.min_eq_left (Nat.le_of_lt h), Nat.sub_self, List.getElem?_drop, Nat.add_zero]
theorem low_len (L : List UInt8) (k : Nat) : ((L.take k).map lowB ++ L.drop k).length = L.length := by
  simp
  omega
theorem brow_start (w : World) (e : TypeId) (s : ByteArray) : BRow w (Lib.bytesWorld w e s) s.data.toList := by
  refine ⟨⟨rfl, rfl, rfl, by rw [Lib.bytesWorld_size]; omega, fun j hj => Lib.bytesWorld_at_old w e s j hj⟩, fun j b hj => ?_, fun j hj => ?_⟩
  · have hl : j < s.size := by have := (List.getElem?_eq_some_iff.1 hj).1; simpa using this
    rw [Lib.bytesWorld_cell w e s j hl]
    simp [List.getD_eq_getElem?_getD, hj]
  · have h1 := Lib.bytesWorld_at_new w e s
    have h2 : s.size ≤ (Lib.bytesCells w e s).size := by simp [Lib.bytesCells]
    have hl : j < s.size := by simpa using hj
    simp only [World.frozen?, h1]
    simp
    omega
theorem BRow.bytes {w wr : World} {L : List UInt8} (h : BRow w wr L) : Lib.Bytes wr w.heap.size 0 ⟨L.toArray⟩ := by
  intro i hi
  rw [Nat.zero_add]
  exact h.2.1 i _ (List.getElem?_eq_getElem hi)

set_option maxHeartbeats 1000000 in
set_option maxRecDepth 100000 in
theorem lower_calls (s : ByteArray) (w : World) (hm : s.size ≤ 140737488355328) :
    Calls Tryd.prog 53 #[.string s] w fun e w' => e = .returned (.string (lowS s)) ∧ Below w.heap.size w w' := by
  have hb0 := brow_start w 5 s
  have HB0 := Lib.hid hb0
  clear hb0
  go_enter Tryd.func53, Tryd.ntmps53
  go_wp2
  rw [Lib.run_convert_string_bytes w 9 43 5 s (u := .string) Tryd.underlying9 Tryd.underlying43 Tryd.underlying5]
  simp only [Result.andThen]
  rw [Oper.upon_value]
  obtain ⟨W1, hW1⟩ : ∃ W1, W1 = Lib.bytesWorld w 5 s := ⟨_, rfl⟩
  obtain ⟨cp, hcp⟩ : ∃ cp, cp = grownCap w s.size 0 5 := ⟨_, rfl⟩
  rw [← hW1] at HB0 ⊢
  rw [← hcp]
  clear hW1 hcp
  go_wp2
  go_loopg [10] s.size (fun g i wr => ∃ (k : Nat), k ≤ s.size ∧ g = s.size - k ∧ i = .int .i64 k ∧ BRow w wr ((s.data.toList.take k).map lowB ++ s.data.toList.drop k))
  case atStart => exact ⟨0, Nat.zero_le _, by omega, rfl, by exact HB0.out⟩
  case round =>
    obtain ⟨k, hk, hg, rfl, hB⟩ := hrel
    have hl : s.data.toList.length = s.size := by simp
    have HG := Lib.hid hg
    have HL := Lib.hid hl
    clear hg hl
    by_cases hlt : k < s.size
    · obtain ⟨c, hc⟩ : ∃ c, s.data.toList[k]? = some c := ⟨_, List.getElem?_eq_getElem (by rw [HL.out]; exact hlt)⟩
      have hc0 := hB.2.1 k c (by rw [low_at _ _ (by rw [HL.out]; exact hlt)]; exact hc)
      have hf0 := hB.2.2 k (by rw [low_len, HL.out]; exact hlt)
      have hlen : k < ((s.data.toList.take k).map lowB ++ s.data.toList.drop k).length := by rw [low_len, HL.out]; exact hlt
      by_cases hr : 65 ≤ c.toNat ∧ c.toNat ≤ 90
      · have hs := hB.set_ (c := lowB c) hlen (z := (c.toNat : Int) + 32) (by rw [lowB_toNat hr]; omega)
        rw [low_step _ _ _ hc] at hs
        obtain ⟨h1, h2⟩ := hr
        have HS := Lib.hid hs
        have HB := Lib.hid hB
        have HC := Lib.hid hc
        have HLEN := Lib.hid hlen
        clear hs hB hc hlen
        go_wp2
        go_roundg (s.size - (k + 1))
        case measure => have := HG.out; omega
        case rel => exact ⟨k + 1, by omega, rfl, by go_num, HS.out⟩
      · have hs : BRow w wr ((s.data.toList.take (k + 1)).map lowB ++ s.data.toList.drop (k + 1)) := by
          rw [← low_stay _ _ _ hc (by rw [lowB, if_neg hr])]
          exact hB
        have HS := Lib.hid hs
        have HB := Lib.hid hB
        have HC := Lib.hid hc
        have HLEN := Lib.hid hlen
        clear hs hB hc hlen
        by_cases h1 : 65 ≤ c.toNat
        · have h2 : ¬ c.toNat ≤ 90 := fun h => hr ⟨h1, h⟩
          clear hr
          go_wp2
          go_roundg (s.size - (k + 1))
          case measure => have := HG.out; omega
          case rel => exact ⟨k + 1, by omega, rfl, by go_num, HS.out⟩
        · clear hr
          go_wp2
          go_roundg (s.size - (k + 1))
          case measure => have := HG.out; omega
          case rel => exact ⟨k + 1, by omega, rfl, by go_num, HS.out⟩
    · obtain rfl : k = s.size := by omega
      have hfin : (s.data.toList.take s.size).map lowB ++ s.data.toList.drop s.size = s.data.toList.map lowB := by
        rw [List.take_of_length_le (by rw [HL.out]; exact Nat.le_refl _), List.drop_eq_nil_of_le (by rw [HL.out]; exact Nat.le_refl _), List.append_nil]
      rw [hfin] at hB
      have hsz : (lowS s).size = s.size := by
        show ((s.data.toList.map lowB).toArray).size = s.size
        simp
      have hrun := fun (W : World) (h : Lib.Bytes W w.heap.size 0 (lowS s)) => Lib.run_convert_whole (P := Tryd.prog) W 43 5 9 Tryd.underlying43 Tryd.underlying5 Tryd.underlying9 w.heap.size 0 (lowS s) h cp
      have hrun2 := hrun wr hB.bytes
      rw [hsz] at hrun2
      clear hrun
      have HB := Lib.hid hB
      clear hB
      go_wp2
      go_ret
      exact ⟨rfl, HB.out.1⟩
end Go.Proofs.YtljekaadbabhkaaDoor
/-
  DERIVED: THE SHELF's CONTRACTS AT THIS DUMP, IN PLAIN WORDS (tools/lay-plain.mjs out of 'TrydShelf.lean', which tools/lay-shelf.mjs wrote): THE SAME DECLARATIONS UNDER THE SAME NAMES: 'import', 'namespace', 'open', 'def', 'theorem' AND NOTHING ELSE: no command of the shelf's: FOR A HAND-IN. Each laying: the table of numbers ('.._ren') and one theorem, a field a fact of the dump's own or the kernel's comparison; each contract: ONE APPLICATION.
-/
namespace Go.Proofs
open Go.Shelf
def Tryd.lays170_ren : Go.Shelf.Ren := ⟨fun | 170 => 39 | n => n, fun | 70 => 66 | 3 => 3 | 0 => 0 | 72 => 68 | 37 => 43 | 5 => 5 | n => n, fun | n => n⟩
theorem Tryd.lays170 : Go.Proofs.Lays.n170 Tryd.prog Tryd.lays170_ren := {
  mixed := by kernel_rfl
  f170 := Tryd.func39.trans (congrArg some (by kernel_rfl))
  t0 := Tryd.underlying0
  a0 := Tryd.isAgg0
  z0 := Tryd.sizeOf0
  v0 := Tryd.zeroValue0
  t3 := Tryd.underlying3
  a3 := Tryd.isAgg3
  z3 := Tryd.sizeOf3
  v3 := Tryd.zeroValue3
  t37 := Tryd.underlying43
  a37 := Tryd.isAgg43
  z37 := Tryd.sizeOf43
  v37 := Tryd.zeroValue43
  t70 := Tryd.underlying66
  a70 := Tryd.isAgg66
  z70 := Tryd.sizeOf66
  v70 := Tryd.zeroValue66
  t72 := Tryd.underlying68
  a72 := Tryd.isAgg68
  z72 := Tryd.sizeOf68
  v72 := Tryd.zeroValue68 }
open Go.RowKit in
/-- (*strings.Builder).Len: "Len returns the number of accumulated bytes; b.Len() == len(b.String()).": the world is as it was. (LAID: no walk: one application.) -/
theorem Tryd.Builder_Len (B b : Nat) (bs : List Value) (w : World) (h : Lib.IsBuilder 68 5 B b bs w) :
    Calls Tryd.prog 39 #[.pointer (some ⟨b, 0, none⟩)] w fun e w' => e = .returned (.int .i64 bs.length) ∧ w' = w := Any.Builder_Len Tryd.lays170 B b bs w h
def Tryd.lays169_ren : Go.Shelf.Ren := ⟨fun | 169 => 40 | n => n, fun | 70 => 66 | 9 => 9 | 0 => 0 | 72 => 68 | 37 => 43 | 127 => 92 | 3 => 3 | 5 => 5 | n => n, fun | n => n⟩
theorem Tryd.lays169 : Go.Proofs.Lays.n169 Tryd.prog Tryd.lays169_ren := {
  mixed := by kernel_rfl
  f169 := Tryd.func40.trans (congrArg some (by kernel_rfl))
  t0 := Tryd.underlying0
  a0 := Tryd.isAgg0
  z0 := Tryd.sizeOf0
  v0 := Tryd.zeroValue0
  t3 := Tryd.underlying3
  a3 := Tryd.isAgg3
  z3 := Tryd.sizeOf3
  v3 := Tryd.zeroValue3
  t9 := Tryd.underlying9
  a9 := Tryd.isAgg9
  z9 := Tryd.sizeOf9
  v9 := Tryd.zeroValue9
  t37 := Tryd.underlying43
  a37 := Tryd.isAgg43
  z37 := Tryd.sizeOf43
  v37 := Tryd.zeroValue43
  t70 := Tryd.underlying66
  a70 := Tryd.isAgg66
  z70 := Tryd.sizeOf66
  v70 := Tryd.zeroValue66
  t72 := Tryd.underlying68
  a72 := Tryd.isAgg68
  z72 := Tryd.sizeOf68
  v72 := Tryd.zeroValue68
  t127 := Tryd.underlying92
  a127 := Tryd.isAgg92
  z127 := Tryd.sizeOf92
  v127 := Tryd.zeroValue92 }
theorem Tryd.Builder_Extra_169 : Builder.Extra Tryd.prog Tryd.lays169_ren := {
  sizeBuilder := by kernel_rfl
  liesBuilder := by kernel_rfl
  t5 := Tryd.underlying5
  a5 := Tryd.isAgg5
  z5 := Tryd.sizeOf5
  v5 := Tryd.zeroValue5
  infoByte := by kernel_rfl
  cellsByte := by kernel_rfl
  sizeByte := by kernel_rfl
  neB5 := by decide }
open Go.RowKit in
/-- (*strings.Builder).String: "String returns the accumulated string.": OF A BUILDER THAT HOLDS AT LEAST ONE BYTE. ✋ THE MODEL FREEZES THOSE BYTES IN THE BUFFER (unsafe.String): a later write INTO them ends the model's run without an answer; a later append BEHIND them goes on. The statement's order of evaluation is drawn: one draw. (LAID: no walk: one application.) -/
theorem Tryd.Builder_String (B b : Nat) (l : List UInt8) (w : World) (h : Lib.IsBuilder 68 5 B b (Lib.byteCells l) w) (h0 : l ≠ []) :
    Calls Tryd.prog 40 #[.pointer (some ⟨b, 0, none⟩)] w fun e w' => e = .returned (.string ⟨l.toArray⟩) ∧ Below B w w' := Any.Builder_String Tryd.lays169 Tryd.Builder_Extra_169 B b l w h h0
open Go.RowKit in
/-- (*strings.Builder).String OF A BUILDER THAT HOLDS NO BYTE: the empty string. (Its buffer is nil, or a row of which it has taken nothing yet; where that row has NO capacity the model lays one new block for unsafe.SliceData's 'some address'.) One draw. (LAID: no walk: one application.) -/
theorem Tryd.Builder_String_empty (B b : Nat) (w : World) (h : Lib.IsBuilder 68 5 B b [] w) (hBw : B ≤ w.heap.size) :
    Calls Tryd.prog 40 #[.pointer (some ⟨b, 0, none⟩)] w fun e w' => e = .returned (.string ⟨#[]⟩) ∧ Below B w w' := Any.Builder_String_empty Tryd.lays169 Tryd.Builder_Extra_169 B b w h hBw
open Go.RowKit in
/-- (*strings.Builder).String: "String returns the accumulated string.": WHATEVER THE BUILDER HOLDS. (LAID: no walk: one application.) -/
theorem Tryd.Builder_String_any (B b : Nat) (l : List UInt8) (w : World) (h : Lib.IsBuilder 68 5 B b (Lib.byteCells l) w) (hBw : B ≤ w.heap.size) :
    Calls Tryd.prog 40 #[.pointer (some ⟨b, 0, none⟩)] w fun e w' => e = .returned (.string ⟨l.toArray⟩) ∧ Below B w w' := Any.Builder_String_any Tryd.lays169 Tryd.Builder_Extra_169 B b l w h hBw
def Tryd.lays241_ren : Go.Shelf.Ren := ⟨fun | 241 => 86 | 277 => 100 | n => n, fun | 70 => 66 | 3 => 3 | 0 => 0 | 72 => 68 | 37 => 43 | 5 => 5 | n => n, fun | n => n⟩
theorem Tryd.lays241 : Go.Proofs.Lays.n241 Tryd.prog Tryd.lays241_ren := {
  mixed := by kernel_rfl
  f241 := Tryd.func86.trans (congrArg some (by kernel_rfl))
  f277 := Tryd.func100.trans (congrArg some (by kernel_rfl))
  t0 := Tryd.underlying0
  a0 := Tryd.isAgg0
  z0 := Tryd.sizeOf0
  v0 := Tryd.zeroValue0
  t3 := Tryd.underlying3
  a3 := Tryd.isAgg3
  z3 := Tryd.sizeOf3
  v3 := Tryd.zeroValue3
  t37 := Tryd.underlying43
  a37 := Tryd.isAgg43
  z37 := Tryd.sizeOf43
  v37 := Tryd.zeroValue43
  t70 := Tryd.underlying66
  a70 := Tryd.isAgg66
  z70 := Tryd.sizeOf66
  v70 := Tryd.zeroValue66
  t72 := Tryd.underlying68
  a72 := Tryd.isAgg68
  z72 := Tryd.sizeOf68
  v72 := Tryd.zeroValue68 }
theorem Tryd.Builder_Extra_241 : Builder.Extra Tryd.prog Tryd.lays241_ren := {
  sizeBuilder := by kernel_rfl
  liesBuilder := by kernel_rfl
  t5 := Tryd.underlying5
  a5 := Tryd.isAgg5
  z5 := Tryd.sizeOf5
  v5 := Tryd.zeroValue5
  infoByte := by kernel_rfl
  cellsByte := by kernel_rfl
  sizeByte := by kernel_rfl
  neB5 := by decide }
open Go.RowKit in
/-- (*strings.Builder).grow (no doc but "grow copies the buffer to a new, larger buffer so that there are at least n bytes of capacity beyond len(b.buf)."): AT A BUILDER WITHOUT A BUFFER: a new row of whatever bytes for its buffer, none of them its own yet. Three draws. (LAID: no walk: one application.) -/
theorem Tryd.Builder_grow_fresh (B b n : Nat) (w : World) (hB : B ≤ b) (hbk : w.heap[b]? = some (.cells #[.pointer (some ⟨b, 0, none⟩), .slice none 0 0] 68 (0, 0))) (hBw : B ≤ w.heap.size) (hn : n ≤ 281474976710656) :
    Calls Tryd.prog 86 #[.pointer (some ⟨b, 0, none⟩), .int .i64 n] w fun e w' => e = .returned (.tuple #[]) ∧ (Lib.BuilderAt 68 5 B b (.pointer (some ⟨b, 0, none⟩)) [] w' ∧ Below B w w') := Any.Builder_grow_fresh Tryd.lays241 Tryd.Builder_Extra_241 B b n w hB hbk hBw hn
def Tryd.lays165_ren : Go.Shelf.Ren := ⟨fun | 165 => 65 | 240 => 63 | 241 => 86 | 276 => 84 | 277 => 100 | n => n, fun | 70 => 66 | 3 => 3 | 0 => 0 | 4 => 4 | 9 => 9 | 20 => 20 | 72 => 68 | 37 => 43 | 164 => 105 | 5 => 5 | n => n, fun | n => n⟩
theorem Tryd.lays165 : Go.Proofs.Lays.n165 Tryd.prog Tryd.lays165_ren := {
  mixed := by kernel_rfl
  f165 := Tryd.func65.trans (congrArg some (by kernel_rfl))
  f240 := Tryd.func63.trans (congrArg some (by kernel_rfl))
  f241 := Tryd.func86.trans (congrArg some (by kernel_rfl))
  f276 := Tryd.func84.trans (congrArg some (by kernel_rfl))
  f277 := Tryd.func100.trans (congrArg some (by kernel_rfl))
  t0 := Tryd.underlying0
  a0 := Tryd.isAgg0
  z0 := Tryd.sizeOf0
  v0 := Tryd.zeroValue0
  t3 := Tryd.underlying3
  a3 := Tryd.isAgg3
  z3 := Tryd.sizeOf3
  v3 := Tryd.zeroValue3
  t4 := Tryd.underlying4
  a4 := Tryd.isAgg4
  z4 := Tryd.sizeOf4
  v4 := Tryd.zeroValue4
  t9 := Tryd.underlying9
  a9 := Tryd.isAgg9
  z9 := Tryd.sizeOf9
  v9 := Tryd.zeroValue9
  t20 := Tryd.underlying20
  a20 := Tryd.isAgg20
  z20 := Tryd.sizeOf20
  v20 := Tryd.zeroValue20
  t37 := Tryd.underlying43
  a37 := Tryd.isAgg43
  z37 := Tryd.sizeOf43
  v37 := Tryd.zeroValue43
  t70 := Tryd.underlying66
  a70 := Tryd.isAgg66
  z70 := Tryd.sizeOf66
  v70 := Tryd.zeroValue66
  t72 := Tryd.underlying68
  a72 := Tryd.isAgg68
  z72 := Tryd.sizeOf68
  v72 := Tryd.zeroValue68
  t164 := Tryd.underlying105
  a164 := Tryd.isAgg105
  z164 := Tryd.sizeOf105
  v164 := Tryd.zeroValue105 }
theorem Tryd.Builder_Extra_165 : Builder.Extra Tryd.prog Tryd.lays165_ren := {
  sizeBuilder := by kernel_rfl
  liesBuilder := by kernel_rfl
  t5 := Tryd.underlying5
  a5 := Tryd.isAgg5
  z5 := Tryd.sizeOf5
  v5 := Tryd.zeroValue5
  infoByte := by kernel_rfl
  cellsByte := by kernel_rfl
  sizeByte := by kernel_rfl
  neB5 := by decide }
open Go.RowKit in
/-- (*strings.Builder).Grow AT A BUILDER THAT HAS NOT BEEN WRITTEN ('var b strings.Builder; b.Grow(n)'): "Grow grows b's capacity, if necessary, to guarantee space for another n bytes.": it holds no byte behind it as before it. (LAID: no walk: one application.) -/
theorem Tryd.Builder_Grow_fresh (B b n : Nat) (w : World) (hB : B ≤ b) (hbk : w.heap[b]? = some (.cells #[.pointer none, .slice none 0 0] 68 (0, 0))) (hBw : B ≤ w.heap.size) (hn : n ≤ 281474976710656) :
    Calls Tryd.prog 65 #[.pointer (some ⟨b, 0, none⟩), .int .i64 n] w fun e w' => e = .returned (.tuple #[]) ∧ (Lib.BuilderAt 68 5 B b (.pointer (some ⟨b, 0, none⟩)) [] w' ∧ Below B w w') := Any.Builder_Grow_fresh Tryd.lays165 Tryd.Builder_Extra_165 B b n w hB hbk hBw hn
def Tryd.lays156_ren : Go.Shelf.Ren := ⟨fun | 156 => 38 | 165 => 65 | 166 => 36 | 169 => 40 | 240 => 63 | 241 => 86 | 276 => 84 | 277 => 100 | n => n, fun | 31 => 35 | 9 => 9 | 3 => 3 | 4 => 4 | 0 => 0 | 20 => 20 | 72 => 68 | 76 => 69 | 70 => 66 | 37 => 43 | 75 => 25 | 127 => 92 | 164 => 105 | 5 => 5 | 80 => 74 | n => n, fun | n => n⟩
theorem Tryd.lays156 : Go.Proofs.Lays.n156 Tryd.prog Tryd.lays156_ren := {
  mixed := by kernel_rfl
  f156 := Tryd.func38.trans (congrArg some (by kernel_rfl))
  f165 := Tryd.func65.trans (congrArg some (by kernel_rfl))
  f166 := Tryd.func36.trans (congrArg some (by kernel_rfl))
  f169 := Tryd.func40.trans (congrArg some (by kernel_rfl))
  f240 := Tryd.func63.trans (congrArg some (by kernel_rfl))
  f241 := Tryd.func86.trans (congrArg some (by kernel_rfl))
  f276 := Tryd.func84.trans (congrArg some (by kernel_rfl))
  f277 := Tryd.func100.trans (congrArg some (by kernel_rfl))
  t0 := Tryd.underlying0
  a0 := Tryd.isAgg0
  z0 := Tryd.sizeOf0
  v0 := Tryd.zeroValue0
  t3 := Tryd.underlying3
  a3 := Tryd.isAgg3
  z3 := Tryd.sizeOf3
  v3 := Tryd.zeroValue3
  t4 := Tryd.underlying4
  a4 := Tryd.isAgg4
  z4 := Tryd.sizeOf4
  v4 := Tryd.zeroValue4
  t9 := Tryd.underlying9
  a9 := Tryd.isAgg9
  z9 := Tryd.sizeOf9
  v9 := Tryd.zeroValue9
  t20 := Tryd.underlying20
  a20 := Tryd.isAgg20
  z20 := Tryd.sizeOf20
  v20 := Tryd.zeroValue20
  t31 := Tryd.underlying35
  a31 := Tryd.isAgg35
  z31 := Tryd.sizeOf35
  v31 := Tryd.zeroValue35
  t37 := Tryd.underlying43
  a37 := Tryd.isAgg43
  z37 := Tryd.sizeOf43
  v37 := Tryd.zeroValue43
  t70 := Tryd.underlying66
  a70 := Tryd.isAgg66
  z70 := Tryd.sizeOf66
  v70 := Tryd.zeroValue66
  t72 := Tryd.underlying68
  a72 := Tryd.isAgg68
  z72 := Tryd.sizeOf68
  v72 := Tryd.zeroValue68
  t75 := Tryd.underlying25
  a75 := Tryd.isAgg25
  z75 := Tryd.sizeOf25
  v75 := Tryd.zeroValue25
  t76 := Tryd.underlying69
  a76 := Tryd.isAgg69
  z76 := Tryd.sizeOf69
  v76 := Tryd.zeroValue69
  t127 := Tryd.underlying92
  a127 := Tryd.isAgg92
  z127 := Tryd.sizeOf92
  v127 := Tryd.zeroValue92
  t164 := Tryd.underlying105
  a164 := Tryd.isAgg105
  z164 := Tryd.sizeOf105
  v164 := Tryd.zeroValue105 }
theorem Tryd.Builder_Extra_156 : Builder.Extra Tryd.prog Tryd.lays156_ren := {
  sizeBuilder := by kernel_rfl
  liesBuilder := by kernel_rfl
  t5 := Tryd.underlying5
  a5 := Tryd.isAgg5
  z5 := Tryd.sizeOf5
  v5 := Tryd.zeroValue5
  infoByte := by kernel_rfl
  cellsByte := by kernel_rfl
  sizeByte := by kernel_rfl
  neB5 := by decide }
open Go.RowKit in
/-- No element: the empty string; the world is as it was. (Whatever the slice's address and capacity: a nil slice too.) (LAID: no walk: one application.) -/
theorem Tryd.strings_Join_none (a : Option Addr) (c : Nat) (sep : ByteArray) (w : World) :
    Calls Tryd.prog 38 #[.slice a 0 c, .string sep] w fun e w' => e = .returned (.string ⟨#[]⟩) ∧ w' = w := Any.strings_Join_none Tryd.lays156 Tryd.Builder_Extra_156 a c sep w
open Go.RowKit in
/-- strings.Join: "Join concatenates the elements of its first argument to create a single string. The separator string sep is placed between elements in the resulting string.": HOWEVER MANY ELEMENTS. Below the heap's end the world is as it was. (LAID: no walk: one application.) -/
theorem Tryd.strings_Join (bk o c : Nat) (xs : List ByteArray) (sep : ByteArray) (w : World) (hcells : ∀ (j : Nat) x, xs[j]? = some x → w.cell? ⟨bk, o + j, none⟩ = some (.string x)) (hbk : bk < w.heap.size) (hN : xs.length ≤ 140737488355328) (hcap : xs.length ≤ c) (hlen : (Lib.join (xs.map (·.data.toList)) sep.data.toList).length ≤ 140737488355328) :
    Calls Tryd.prog 38 #[.slice (some ⟨bk, o, none⟩) xs.length c, .string sep] w fun e w' => e = .returned (.string ⟨(Lib.join (xs.map (·.data.toList)) sep.data.toList).toArray⟩) ∧ Below w.heap.size w w' := Any.strings_Join Tryd.lays156 Tryd.Builder_Extra_156 bk o c xs sep w hcells hbk hN hcap hlen
def Tryd.lays231_ren : Go.Shelf.Ren := ⟨fun | 231 => 44 | n => n, fun | 9 => 9 | 5 => 5 | 3 => 3 | 4 => 4 | n => n, fun | n => n⟩
theorem Tryd.lays231 : Go.Proofs.Lays.n231 Tryd.prog Tryd.lays231_ren := {
  mixed := by kernel_rfl
  f231 := Tryd.func44.trans (congrArg some (by kernel_rfl))
  t3 := Tryd.underlying3
  a3 := Tryd.isAgg3
  z3 := Tryd.sizeOf3
  v3 := Tryd.zeroValue3
  t4 := Tryd.underlying4
  a4 := Tryd.isAgg4
  z4 := Tryd.sizeOf4
  v4 := Tryd.zeroValue4
  t5 := Tryd.underlying5
  a5 := Tryd.isAgg5
  z5 := Tryd.sizeOf5
  v5 := Tryd.zeroValue5
  t9 := Tryd.underlying9
  a9 := Tryd.isAgg9
  z9 := Tryd.sizeOf9
  v9 := Tryd.zeroValue9 }
open Go.RowKit in
/-- strings.trimLeftByte (no doc; what TrimLeft and Trim call at a cutset of one ASCII byte): the leading bytes that are c are cut off. The world is as it was. (LAID: no walk: one application.) -/
theorem Tryd.strings_trimLeftByte (s : ByteArray) (c : UInt8) (w : World) :
    Calls Tryd.prog 44 #[.string s, .int .u8 c.toNat] w fun e w' => e = .returned (.string ⟨(Lib.trimLeftB s.data.toList c).toArray⟩) ∧ w' = w := Any.strings_trimLeftByte Tryd.lays231 s c w
def Tryd.lays232_ren : Go.Shelf.Ren := ⟨fun | 232 => 45 | n => n, fun | 9 => 9 | 5 => 5 | 3 => 3 | 4 => 4 | n => n, fun | n => n⟩
theorem Tryd.lays232 : Go.Proofs.Lays.n232 Tryd.prog Tryd.lays232_ren := {
  mixed := by kernel_rfl
  f232 := Tryd.func45.trans (congrArg some (by kernel_rfl))
  t3 := Tryd.underlying3
  a3 := Tryd.isAgg3
  z3 := Tryd.sizeOf3
  v3 := Tryd.zeroValue3
  t4 := Tryd.underlying4
  a4 := Tryd.isAgg4
  z4 := Tryd.sizeOf4
  v4 := Tryd.zeroValue4
  t5 := Tryd.underlying5
  a5 := Tryd.isAgg5
  z5 := Tryd.sizeOf5
  v5 := Tryd.zeroValue5
  t9 := Tryd.underlying9
  a9 := Tryd.isAgg9
  z9 := Tryd.sizeOf9
  v9 := Tryd.zeroValue9 }
open Go.RowKit in
/-- strings.trimRightByte (no doc; what TrimRight and Trim call at a cutset of one ASCII byte): the trailing bytes that are c are cut off. The world is as it was. ('hs': a string's length is a number that an int holds.) (LAID: no walk: one application.) -/
theorem Tryd.strings_trimRightByte (s : ByteArray) (c : UInt8) (w : World) (hs : s.size ≤ 9223372036854775807) :
    Calls Tryd.prog 45 #[.string s, .int .u8 c.toNat] w fun e w' => e = .returned (.string ⟨(Lib.trimRightB s.data.toList c).toArray⟩) ∧ w' = w := Any.strings_trimRightByte Tryd.lays232 s c w hs
def Tryd.lays160_ren : Go.Shelf.Ren := ⟨fun | 160 => 24 | 232 => 45 | 231 => 44 | 227 => 46 | 234 => 48 | 233 => 47 | 236 => 50 | 235 => 49 | 228 => 70 | 271 => 73 | 151 => 72 | 197 => 71 | 120 => 92 | 152 => 91 | 260 => 90 | 137 => 105 | 119 => 106 | 224 => 103 | 225 => 102 | 217 => 101 | 266 => 113 | n => n, fun | 9 => 9 | 4 => 4 | 3 => 3 | 5 => 5 | 117 => 79 | 116 => 78 | 0 => 0 | 124 => 82 | 21 => 21 | 105 => 94 | 46 => 115 | 119 => 124 | 139 => 127 | 138 => 126 | n => n, fun | 3 => 1 | 4 => 2 | n => n⟩
theorem Tryd.lays160 : Go.Proofs.Lays.n160 Tryd.prog Tryd.lays160_ren := {
  mixed := by kernel_rfl
  f119 := Tryd.func106.trans (congrArg some (by kernel_rfl))
  f120 := Tryd.func92.trans (congrArg some (by kernel_rfl))
  f137 := Tryd.func105.trans (congrArg some (by kernel_rfl))
  f151 := Tryd.func72.trans (congrArg some (by kernel_rfl))
  f152 := Tryd.func91.trans (congrArg some (by kernel_rfl))
  f160 := Tryd.func24.trans (congrArg some (by kernel_rfl))
  f197 := Tryd.func71.trans (congrArg some (by kernel_rfl))
  f217 := Tryd.func101.trans (congrArg some (by kernel_rfl))
  f224 := Tryd.func103.trans (congrArg some (by kernel_rfl))
  f225 := Tryd.func102.trans (congrArg some (by kernel_rfl))
  f227 := Tryd.func46.trans (congrArg some (by kernel_rfl))
  f228 := Tryd.func70.trans (congrArg some (by kernel_rfl))
  f231 := Tryd.func44.trans (congrArg some (by kernel_rfl))
  f232 := Tryd.func45.trans (congrArg some (by kernel_rfl))
  f233 := Tryd.func47.trans (congrArg some (by kernel_rfl))
  f234 := Tryd.func48.trans (congrArg some (by kernel_rfl))
  f235 := Tryd.func49.trans (congrArg some (by kernel_rfl))
  f236 := Tryd.func50.trans (congrArg some (by kernel_rfl))
  f260 := Tryd.func90.trans (congrArg some (by kernel_rfl))
  f266 := Tryd.func113.trans (congrArg some (by kernel_rfl))
  f271 := Tryd.func73.trans (congrArg some (by kernel_rfl))
  t0 := Tryd.underlying0
  a0 := Tryd.isAgg0
  z0 := Tryd.sizeOf0
  v0 := Tryd.zeroValue0
  t3 := Tryd.underlying3
  a3 := Tryd.isAgg3
  z3 := Tryd.sizeOf3
  v3 := Tryd.zeroValue3
  t4 := Tryd.underlying4
  a4 := Tryd.isAgg4
  z4 := Tryd.sizeOf4
  v4 := Tryd.zeroValue4
  t5 := Tryd.underlying5
  a5 := Tryd.isAgg5
  z5 := Tryd.sizeOf5
  v5 := Tryd.zeroValue5
  t9 := Tryd.underlying9
  a9 := Tryd.isAgg9
  z9 := Tryd.sizeOf9
  v9 := Tryd.zeroValue9
  t21 := Tryd.underlying21
  a21 := Tryd.isAgg21
  z21 := Tryd.sizeOf21
  v21 := Tryd.zeroValue21
  t46 := Tryd.underlying115
  a46 := Tryd.isAgg115
  z46 := Tryd.sizeOf115
  v46 := Tryd.zeroValue115
  t105 := Tryd.underlying94
  a105 := Tryd.isAgg94
  z105 := Tryd.sizeOf94
  v105 := Tryd.zeroValue94
  t116 := Tryd.underlying78
  a116 := Tryd.isAgg78
  z116 := Tryd.sizeOf78
  t117 := Tryd.underlying79
  a117 := Tryd.isAgg79
  z117 := Tryd.sizeOf79
  v117 := Tryd.zeroValue79
  t119 := Tryd.underlying124
  a119 := Tryd.isAgg124
  z119 := Tryd.sizeOf124
  t124 := Tryd.underlying82
  a124 := Tryd.isAgg82
  z124 := Tryd.sizeOf82
  v124 := Tryd.zeroValue82
  t138 := Tryd.underlying126
  a138 := Tryd.isAgg126
  z138 := Tryd.sizeOf126
  v138 := Tryd.zeroValue126
  t139 := Tryd.underlying127
  a139 := Tryd.isAgg127
  z139 := Tryd.sizeOf127
  v139 := Tryd.zeroValue127
  g3 := by kernel_rfl
  g4 := by kernel_rfl }
open Go.RowKit in
/-- strings.Trim: "Trim returns a slice of the string s with all leading and trailing Unicode code points contained in cutset removed.": AT A cutset OF ONE ASCII BYTE. THE WORLD BEHIND IT: as it was, or (where s is not empty) with ONE DRAW MORE off the tape: the statement 'return trimLeftByte(trimRightByte(s, c), c)' draws its order of evaluation. (LAID: no walk: one application.) -/
theorem Tryd.strings_Trim_one (s : ByteArray) (c : UInt8) (hc : c.toNat < 128) (w : World) (hs : s.size ≤ 9223372036854775807) :
    Calls Tryd.prog 24 #[.string s, .string ⟨#[c]⟩] w fun e w' => e = .returned (.string ⟨(Lib.trimB s.data.toList c).toArray⟩) ∧ (w' = w ∨ w' = w.drew) := Any.strings_Trim_one Tryd.lays160 s c hc w hs
def Tryd.lays119_ren : Go.Shelf.Ren := ⟨fun | 119 => 106 | n => n, fun | 21 => 21 | 4 => 4 | n => n, fun | n => n⟩
theorem Tryd.lays119 : Go.Proofs.Lays.n119 Tryd.prog Tryd.lays119_ren := {
  mixed := by kernel_rfl
  f119 := Tryd.func106.trans (congrArg some (by kernel_rfl))
  t4 := Tryd.underlying4
  a4 := Tryd.isAgg4
  z4 := Tryd.sizeOf4
  v4 := Tryd.zeroValue4
  t21 := Tryd.underlying21
  a21 := Tryd.isAgg21
  z21 := Tryd.sizeOf21
  v21 := Tryd.zeroValue21 }
/-- utf8.ValidRune: "ValidRune reports whether r can be legally encoded as UTF-8. Code points that are out of range or a surrogate half are illegal.": IT RETURNS 'Lib.validRune r'; the world is as it was. (LAID: no walk: one application.) -/
theorem Tryd.utf8_ValidRune (r : Int) (w : World) :
    Calls Tryd.prog 106 #[.int .i32 r] w fun e w' => e = .returned (.bool (Lib.validRune r)) ∧ w' = w := Any.utf8_ValidRune Tryd.lays119 r w
def Tryd.lays120_ren : Go.Shelf.Ren := ⟨fun | 120 => 92 | n => n, fun | 5 => 5 | 4 => 4 | n => n, fun | n => n⟩
theorem Tryd.lays120 : Go.Proofs.Lays.n120 Tryd.prog Tryd.lays120_ren := {
  mixed := by kernel_rfl
  f120 := Tryd.func92.trans (congrArg some (by kernel_rfl))
  t4 := Tryd.underlying4
  a4 := Tryd.isAgg4
  z4 := Tryd.sizeOf4
  v4 := Tryd.zeroValue4
  t5 := Tryd.underlying5
  a5 := Tryd.isAgg5
  z5 := Tryd.sizeOf5
  v5 := Tryd.zeroValue5 }
/-- utf8.RuneStart: "RuneStart reports whether the byte could be the first byte of an encoded, possibly invalid rune. Second and subsequent bytes always have the top two bits set to 10.": IT RETURNS 'Lib.runeStart b'; the world is as it was. ('h0', 'h1': b is a byte: a caller has it of every byte that it was handed.) (LAID: no walk: one application.) -/
theorem Tryd.utf8_RuneStart (b : Int) (w : World) (h0 : 0 ≤ b) (h1 : b < 256) :
    Calls Tryd.prog 92 #[.int .u8 b] w fun e w' => e = .returned (.bool (Lib.runeStart b)) ∧ w' = w := Any.utf8_RuneStart Tryd.lays120 b w h0 h1
def Tryd.lays213_ren : Go.Shelf.Ren := ⟨fun | 213 => 61 | 265 => 82 | n => n, fun | 9 => 9 | 3 => 3 | n => n, fun | n => n⟩
theorem Tryd.lays213 : Go.Proofs.Lays.n213 Tryd.prog Tryd.lays213_ren := {
  mixed := by kernel_rfl
  f213 := Tryd.func61.trans (congrArg some (by kernel_rfl))
  f265 := Tryd.func82.trans (congrArg some (by kernel_rfl))
  t3 := Tryd.underlying3
  a3 := Tryd.isAgg3
  z3 := Tryd.sizeOf3
  v3 := Tryd.zeroValue3
  t9 := Tryd.underlying9
  a9 := Tryd.isAgg9
  z9 := Tryd.sizeOf9
  v9 := Tryd.zeroValue9 }
open Go.RowKit in
/-- internal/bytealg.CompareString (what strings.Compare calls): IT RETURNS 'Lib.compareBytes a b'; the world is as it was. (LAID: no walk: one application.) -/
theorem Tryd.bytealg_CompareString (a b : ByteArray) (w : World) :
    Calls Tryd.prog 61 #[.string a, .string b] w fun e w' => e = .returned (.int .i64 (Lib.compareBytes a.data.toList b.data.toList)) ∧ w' = w := Any.bytealg_CompareString Tryd.lays213 a b w
def Tryd.lays106_ren : Go.Shelf.Ren := ⟨fun | 106 => 32 | 213 => 61 | 265 => 82 | n => n, fun | 9 => 9 | 3 => 3 | n => n, fun | n => n⟩
theorem Tryd.lays106 : Go.Proofs.Lays.n106 Tryd.prog Tryd.lays106_ren := {
  mixed := by kernel_rfl
  f106 := Tryd.func32.trans (congrArg some (by kernel_rfl))
  f213 := Tryd.func61.trans (congrArg some (by kernel_rfl))
  f265 := Tryd.func82.trans (congrArg some (by kernel_rfl))
  t3 := Tryd.underlying3
  a3 := Tryd.isAgg3
  z3 := Tryd.sizeOf3
  v3 := Tryd.zeroValue3
  t9 := Tryd.underlying9
  a9 := Tryd.isAgg9
  z9 := Tryd.sizeOf9
  v9 := Tryd.zeroValue9 }
open Go.RowKit in
/-- strings.Compare: "Compare returns an integer comparing two strings lexicographically. The result will be 0 if a == b, -1 if a < b, and +1 if a > b.": IT RETURNS 'Lib.compareBytes a b'; the world is as it was. (LAID: no walk: one application.) -/
theorem Tryd.strings_Compare (a b : ByteArray) (w : World) :
    Calls Tryd.prog 32 #[.string a, .string b] w fun e w' => e = .returned (.int .i64 (Lib.compareBytes a.data.toList b.data.toList)) ∧ w' = w := Any.strings_Compare Tryd.lays106 a b w
def Tryd.lays137_ren : Go.Shelf.Ren := ⟨fun | 137 => 105 | 217 => 101 | 266 => 113 | n => n, fun | 9 => 9 | 5 => 5 | 3 => 3 | n => n, fun | n => n⟩
theorem Tryd.lays137 : Go.Proofs.Lays.n137 Tryd.prog Tryd.lays137_ren := {
  mixed := by kernel_rfl
  f137 := Tryd.func105.trans (congrArg some (by kernel_rfl))
  f217 := Tryd.func101.trans (congrArg some (by kernel_rfl))
  f266 := Tryd.func113.trans (congrArg some (by kernel_rfl))
  t3 := Tryd.underlying3
  a3 := Tryd.isAgg3
  z3 := Tryd.sizeOf3
  v3 := Tryd.zeroValue3
  t5 := Tryd.underlying5
  a5 := Tryd.isAgg5
  z5 := Tryd.sizeOf5
  v5 := Tryd.zeroValue5
  t9 := Tryd.underlying9
  a9 := Tryd.isAgg9
  z9 := Tryd.sizeOf9
  v9 := Tryd.zeroValue9 }
open Go.RowKit in
/-- strings.IndexByte: "IndexByte returns the index of the first instance of c in s, or -1 if c is not present in s.": IT RETURNS 'Lib.indexByte s c'; the world is as it was. (LAID: no walk: one application.) -/
theorem Tryd.strings_IndexByte (s : ByteArray) (c : Int) (w : World) :
    Calls Tryd.prog 105 #[.string s, .int .u8 c] w fun e w' => e = .returned (.int .i64 (Lib.indexByte s.data.toList c.toNat.toUInt8)) ∧ w' = w := Any.strings_IndexByte Tryd.lays137 s c w
def Tryd.lays129_ren : Go.Shelf.Ren := ⟨fun | 129 => 109 | n => n, fun | 53 => 117 | 3 => 3 | 4 => 4 | 46 => 115 | 5 => 5 | 9 => 9 | n => n, fun | n => n⟩
theorem Tryd.lays129 : Go.Proofs.Lays.n129 Tryd.prog Tryd.lays129_ren := {
  mixed := by kernel_rfl
  f129 := Tryd.func109.trans (congrArg some (by kernel_rfl))
  t3 := Tryd.underlying3
  a3 := Tryd.isAgg3
  z3 := Tryd.sizeOf3
  v3 := Tryd.zeroValue3
  t4 := Tryd.underlying4
  a4 := Tryd.isAgg4
  z4 := Tryd.sizeOf4
  v4 := Tryd.zeroValue4
  t5 := Tryd.underlying5
  a5 := Tryd.isAgg5
  z5 := Tryd.sizeOf5
  v5 := Tryd.zeroValue5
  t9 := Tryd.underlying9
  a9 := Tryd.isAgg9
  z9 := Tryd.sizeOf9
  v9 := Tryd.zeroValue9
  t46 := Tryd.underlying115
  a46 := Tryd.isAgg115
  z46 := Tryd.sizeOf115
  v46 := Tryd.zeroValue115
  t53 := Tryd.underlying117
  a53 := Tryd.isAgg117
  z53 := Tryd.sizeOf117
  v53 := Tryd.zeroValue117 }
/-- bits.Len64: "Len64 returns the minimum number of bits required to represent x; the result is 0 for x == 0.": IT RETURNS 'Lib.bitLen x'; the world is as it was. ('h0', 'h1': x is a uint64.) (LAID: no walk: one application.) -/
theorem Tryd.bits_Len64 (x : Int) (w : World) (h0 : 0 ≤ x) (h1 : x ≤ 18446744073709551615) :
    Calls Tryd.prog 109 #[.int .u64 x] w fun e w' => e = .returned (.int .i64 (Lib.bitLen x.toNat)) ∧ w' = w := Any.bits_Len64 Tryd.lays129 x w h0 h1
def Tryd.lays317_ren : Go.Shelf.Ren := ⟨fun | 317 => 108 | n => n, fun | 3 => 3 | 46 => 115 | n => n, fun | n => n⟩
theorem Tryd.lays317 : Go.Proofs.Lays.n317 Tryd.prog Tryd.lays317_ren := {
  mixed := by kernel_rfl
  f317 := Tryd.func108.trans (congrArg some (by kernel_rfl))
  t3 := Tryd.underlying3
  a3 := Tryd.isAgg3
  z3 := Tryd.sizeOf3
  v3 := Tryd.zeroValue3
  t46 := Tryd.underlying115
  a46 := Tryd.isAgg115
  z46 := Tryd.sizeOf115
  v46 := Tryd.zeroValue115 }
open Go.Lib in
/-- internal/strconv.log10Pow2: "log10Pow2(x) returns ⌊log₁₀ 2**x⌋ = ⌊x * log₁₀ 2⌋.": '(x * 78913) >> 18', at an x up to 64 (a length in bits). The world is as it was. (LAID: no walk: one application.) -/
theorem Tryd.internal_strconv_log10Pow2 (x : Nat) (h : x ≤ 64) (w : World) :
    Calls Tryd.prog 108 #[.int .i64 x] w fun e w' => e = .returned (.int .i64 (Lib.l10 x)) ∧ w' = w := Any.internal_strconv_log10Pow2 Tryd.lays317 x h w
def Tryd.lays318_ren : Go.Shelf.Ren := ⟨fun | 318 => 110 | n => n, fun | 3 => 3 | 4 => 4 | n => n, fun | n => n⟩
theorem Tryd.lays318 : Go.Proofs.Lays.n318 Tryd.prog Tryd.lays318_ren := {
  mixed := by kernel_rfl
  f318 := Tryd.func110.trans (congrArg some (by kernel_rfl))
  t3 := Tryd.underlying3
  a3 := Tryd.isAgg3
  z3 := Tryd.sizeOf3
  v3 := Tryd.zeroValue3
  t4 := Tryd.underlying4
  a4 := Tryd.isAgg4
  z4 := Tryd.sizeOf4
  v4 := Tryd.zeroValue4 }
open Go.Lib in
/-- internal/strconv.bool2: "bool2 converts b to an integer: 1 for true, 0 for false." The world is as it was. (LAID: no walk: one application.) -/
theorem Tryd.internal_strconv_bool2_int (b : Bool) (w : World) :
    Calls Tryd.prog 110 #[.bool b] w fun e w' => e = .returned (.int .i64 (if b then 1 else 0)) ∧ w' = w := Any.internal_strconv_bool2_int Tryd.lays318 b w
def Tryd.lays283_ren : Go.Shelf.Ren := ⟨fun | 283 => 96 | n => n, fun | 3 => 3 | 9 => 9 | 4 => 4 | n => n, fun | n => n⟩
theorem Tryd.lays283 : Go.Proofs.Lays.n283 Tryd.prog Tryd.lays283_ren := {
  mixed := by kernel_rfl
  f283 := Tryd.func96.trans (congrArg some (by kernel_rfl))
  t3 := Tryd.underlying3
  a3 := Tryd.isAgg3
  z3 := Tryd.sizeOf3
  v3 := Tryd.zeroValue3
  t4 := Tryd.underlying4
  a4 := Tryd.isAgg4
  z4 := Tryd.sizeOf4
  v4 := Tryd.zeroValue4
  t9 := Tryd.underlying9
  a9 := Tryd.isAgg9
  z9 := Tryd.sizeOf9
  v9 := Tryd.zeroValue9 }
open Go.Lib in
/-- internal/strconv.small: "small returns the string for an i with 0 <= i < nSmalls.": i's decimal numeral. The world is as it was. (LAID: no walk: one application.) -/
theorem Tryd.internal_strconv_small (i : Nat) (h : i < 100) (w : World) :
    Calls Tryd.prog 96 #[.int .i64 i] w fun e w' => e = .returned (.string ⟨(Lib.decDigits i).toArray⟩) ∧ w' = w := Any.internal_strconv_small Tryd.lays283 i h w
def Tryd.laysM284_ren : Go.Shelf.Ren := ⟨fun | 284 => 97 | 129 => 109 | 317 => 108 | 318 => 110 | n => n, fun | 53 => 117 | 3 => 3 | 212 => 129 | 0 => 0 | 4 => 4 | 46 => 115 | 5 => 5 | 9 => 9 | n => n, fun | 17 => 3 | n => n⟩
theorem Tryd.laysM284 : Go.Proofs.LaysM.n284 Tryd.prog Tryd.laysM284_ren := {
  mixed := by kernel_rfl
  f129 := Tryd.func109.trans (congrArg some (by kernel_rfl))
  f284 := Tryd.func97.trans (congrArg some (by kernel_rfl))
  f317 := Tryd.func108.trans (congrArg some (by kernel_rfl))
  f318 := Tryd.func110.trans (congrArg some (by kernel_rfl))
  t0 := Tryd.underlying0
  a0 := Tryd.isAgg0
  z0 := Tryd.sizeOf0
  v0 := Tryd.zeroValue0
  t3 := Tryd.underlying3
  a3 := Tryd.isAgg3
  z3 := Tryd.sizeOf3
  v3 := Tryd.zeroValue3
  t4 := Tryd.underlying4
  a4 := Tryd.isAgg4
  z4 := Tryd.sizeOf4
  v4 := Tryd.zeroValue4
  t5 := Tryd.underlying5
  a5 := Tryd.isAgg5
  z5 := Tryd.sizeOf5
  v5 := Tryd.zeroValue5
  t9 := Tryd.underlying9
  a9 := Tryd.isAgg9
  z9 := Tryd.sizeOf9
  v9 := Tryd.zeroValue9
  t46 := Tryd.underlying115
  a46 := Tryd.isAgg115
  z46 := Tryd.sizeOf115
  v46 := Tryd.zeroValue115
  t53 := Tryd.underlying117
  a53 := Tryd.isAgg117
  z53 := Tryd.sizeOf117
  v53 := Tryd.zeroValue117
  t212 := Tryd.underlying129
  a212 := Tryd.isAgg129
  z212 := Tryd.sizeOf129
  v212 := Tryd.zeroValue129
  g17 := by kernel_rfl
  i0 := by kernel_rfl
  i3 := by kernel_rfl
  i4 := by kernel_rfl
  i5 := by kernel_rfl
  i9 := by kernel_rfl
  i46 := by kernel_rfl
  i53 := by kernel_rfl
  i212 := by kernel_rfl
  m17 := by kernel_rfl }
open Go.Lib in
/-- internal/strconv.numDigits, at a d that is not 0: THE NUMBER OF d's DECIMAL DIGITS. The world is as it was. (LAID: no walk: one application.) -/
theorem Tryd.internal_strconv_numDigits (u : Nat) (h1 : 1 ≤ u) (h2 : u < 18446744073709551616) (w : World) (htab : Lib.TabIs Tryd.prog w "internal/strconv.uint64pow10" .u64 Lib.pow10Tab) :
    Calls Tryd.prog 97 #[.int .u64 u] w fun e w' => e = .returned (.int .i64 (Lib.nDigits u)) ∧ w' = w := Any.internal_strconv_numDigits Tryd.laysM284 u h1 h2 w htab
def Tryd.lays285_ren : Go.Shelf.Ren := ⟨fun | 285 => 98 | n => n, fun | 37 => 43 | 53 => 117 | 3 => 3 | 4 => 4 | 51 => 130 | 9 => 9 | 5 => 5 | 0 => 0 | n => n, fun | n => n⟩
theorem Tryd.lays285 : Go.Proofs.Lays.n285 Tryd.prog Tryd.lays285_ren := {
  mixed := by kernel_rfl
  f285 := Tryd.func98.trans (congrArg some (by kernel_rfl))
  t0 := Tryd.underlying0
  a0 := Tryd.isAgg0
  z0 := Tryd.sizeOf0
  v0 := Tryd.zeroValue0
  t3 := Tryd.underlying3
  a3 := Tryd.isAgg3
  z3 := Tryd.sizeOf3
  v3 := Tryd.zeroValue3
  t4 := Tryd.underlying4
  a4 := Tryd.isAgg4
  z4 := Tryd.sizeOf4
  v4 := Tryd.zeroValue4
  t5 := Tryd.underlying5
  a5 := Tryd.isAgg5
  z5 := Tryd.sizeOf5
  v5 := Tryd.zeroValue5
  t9 := Tryd.underlying9
  a9 := Tryd.isAgg9
  z9 := Tryd.sizeOf9
  v9 := Tryd.zeroValue9
  t37 := Tryd.underlying43
  a37 := Tryd.isAgg43
  z37 := Tryd.sizeOf43
  v37 := Tryd.zeroValue43
  t51 := Tryd.underlying130
  a51 := Tryd.isAgg130
  z51 := Tryd.sizeOf130
  v51 := Tryd.zeroValue130
  t53 := Tryd.underlying117
  a53 := Tryd.isAgg117
  z53 := Tryd.sizeOf117
  v53 := Tryd.zeroValue117 }
open Go.RowKit Go.Sort Go.Lib in
/-- internal/strconv.formatBase10: "formatBase10 formats the decimal representation of u into a. The caller is responsible for ensuring that a is big enough to hold u. If a is too big, leading zeros will be filled in as needed.": THE ROW HOLDS u's DIGITS ('FmtInv .. 0 ..': every place t holds 'dg u (len - 1 - t)'); all else is as it was but for the count of draws. (LAID: no walk: one application.) -/
theorem Tryd.internal_strconv_formatBase10 (blk off cap : Nat) (u : Nat) (d : Array UInt8) (w : World) (hH : Holds (fun (b : UInt8) => Value.int .u8 (b.toNat : Int)) w blk off d) (hu : u < 10 ^ d.size) (hu64 : u < 18446744073709551616) (hsz : d.size < 4611686018427387904) :
    Calls Tryd.prog 98 #[.slice (some ⟨blk, off, none⟩) d.size cap, .int .u64 u] w fun e w' =>
      e = .returned (.tuple #[]) ∧ ∃ (n v' : Nat) (dk : Array UInt8), w' = (putRow (fun (b : UInt8) => Value.int .u8 (b.toNat : Int)) w blk off dk).drewN n ∧ FmtInv d.size u 0 v' dk := Any.internal_strconv_formatBase10 Tryd.lays285 blk off cap u d w hH hu hu64 hsz
def Tryd.laysM246_ren : Go.Shelf.Ren := ⟨fun | 246 => 85 | 283 => 96 | 284 => 97 | 285 => 98 | 286 => 99 | 129 => 109 | 317 => 108 | 318 => 110 | 319 => 111 | 320 => 112 | 337 => 115 | 338 => 116 | n => n, fun | 2 => 2 | 3 => 3 | 9 => 9 | 4 => 4 | 171 => 116 | 0 => 0 | 53 => 117 | 37 => 43 | 5 => 5 | 173 => 120 | 212 => 129 | 51 => 130 | 20 => 20 | 213 => 131 | 46 => 115 | 232 => 137 | 233 => 138 | n => n, fun | 17 => 3 | 18 => 4 | 19 => 5 | n => n⟩
theorem Tryd.laysM246 : Go.Proofs.LaysM.n246 Tryd.prog Tryd.laysM246_ren := {
  mixed := by kernel_rfl
  f129 := Tryd.func109.trans (congrArg some (by kernel_rfl))
  f246 := Tryd.func85.trans (congrArg some (by kernel_rfl))
  f283 := Tryd.func96.trans (congrArg some (by kernel_rfl))
  f284 := Tryd.func97.trans (congrArg some (by kernel_rfl))
  f285 := Tryd.func98.trans (congrArg some (by kernel_rfl))
  f286 := Tryd.func99.trans (congrArg some (by kernel_rfl))
  f317 := Tryd.func108.trans (congrArg some (by kernel_rfl))
  f318 := Tryd.func110.trans (congrArg some (by kernel_rfl))
  f319 := Tryd.func111.trans (congrArg some (by kernel_rfl))
  f320 := Tryd.func112.trans (congrArg some (by kernel_rfl))
  f337 := Tryd.func115.trans (congrArg some (by kernel_rfl))
  f338 := Tryd.func116.trans (congrArg some (by kernel_rfl))
  t0 := Tryd.underlying0
  a0 := Tryd.isAgg0
  z0 := Tryd.sizeOf0
  v0 := Tryd.zeroValue0
  t2 := Tryd.underlying2
  a2 := Tryd.isAgg2
  z2 := Tryd.sizeOf2
  v2 := Tryd.zeroValue2
  t3 := Tryd.underlying3
  a3 := Tryd.isAgg3
  z3 := Tryd.sizeOf3
  v3 := Tryd.zeroValue3
  t4 := Tryd.underlying4
  a4 := Tryd.isAgg4
  z4 := Tryd.sizeOf4
  v4 := Tryd.zeroValue4
  t5 := Tryd.underlying5
  a5 := Tryd.isAgg5
  z5 := Tryd.sizeOf5
  v5 := Tryd.zeroValue5
  t9 := Tryd.underlying9
  a9 := Tryd.isAgg9
  z9 := Tryd.sizeOf9
  v9 := Tryd.zeroValue9
  t20 := Tryd.underlying20
  a20 := Tryd.isAgg20
  z20 := Tryd.sizeOf20
  v20 := Tryd.zeroValue20
  t37 := Tryd.underlying43
  a37 := Tryd.isAgg43
  z37 := Tryd.sizeOf43
  v37 := Tryd.zeroValue43
  t46 := Tryd.underlying115
  a46 := Tryd.isAgg115
  z46 := Tryd.sizeOf115
  v46 := Tryd.zeroValue115
  t51 := Tryd.underlying130
  a51 := Tryd.isAgg130
  z51 := Tryd.sizeOf130
  v51 := Tryd.zeroValue130
  t53 := Tryd.underlying117
  a53 := Tryd.isAgg117
  z53 := Tryd.sizeOf117
  v53 := Tryd.zeroValue117
  t171 := Tryd.underlying116
  a171 := Tryd.isAgg116
  z171 := Tryd.sizeOf116
  v171 := Tryd.zeroValue116
  t173 := Tryd.underlying120
  a173 := Tryd.isAgg120
  z173 := Tryd.sizeOf120
  v173 := Tryd.zeroValue120
  t212 := Tryd.underlying129
  a212 := Tryd.isAgg129
  z212 := Tryd.sizeOf129
  v212 := Tryd.zeroValue129
  t213 := Tryd.underlying131
  a213 := Tryd.isAgg131
  z213 := Tryd.sizeOf131
  t232 := Tryd.underlying137
  a232 := Tryd.isAgg137
  z232 := Tryd.sizeOf137
  v232 := Tryd.zeroValue137
  t233 := Tryd.underlying138
  a233 := Tryd.isAgg138
  z233 := Tryd.sizeOf138
  v233 := Tryd.zeroValue138
  g17 := by kernel_rfl
  g18 := by kernel_rfl
  g19 := by kernel_rfl
  i0 := by kernel_rfl
  i2 := by kernel_rfl
  i3 := by kernel_rfl
  i4 := by kernel_rfl
  i5 := by kernel_rfl
  i9 := by kernel_rfl
  i20 := by kernel_rfl
  i37 := by kernel_rfl
  i46 := by kernel_rfl
  i51 := by kernel_rfl
  i53 := by kernel_rfl
  i171 := by kernel_rfl
  i173 := by kernel_rfl
  i212 := by kernel_rfl
  i232 := by kernel_rfl
  i233 := by kernel_rfl
  m17 := by kernel_rfl
  m18 := by kernel_rfl
  m19 := by kernel_rfl }
open Go.RowKit Go.Sort Go.Lib in
/-- internal/strconv.FormatInt: "FormatInt returns the string representation of i in the given base": AT BASE 10: i's decimal numeral, for every int64. The world behind the call: the world before it, new blocks behind the heap, draws. (LAID: no walk: one application.) -/
theorem Tryd.internal_strconv_FormatInt_10 (n : Int) (h0 : -9223372036854775808 ≤ n) (h1 : n ≤ 9223372036854775807) (w : World) (htab : Lib.TabIs Tryd.prog w "internal/strconv.uint64pow10" .u64 Lib.pow10Tab) :
    Calls Tryd.prog 85 #[.int .i64 n, .int .i64 10] w fun e w' => e = .returned (.string ⟨(Lib.itoa n).toArray⟩) ∧ ∃ k os, w' = grow (w.drewN k) os := Any.internal_strconv_FormatInt_10 Tryd.laysM246 n h0 h1 w htab
def Tryd.lays246_ren : Go.Shelf.Ren := ⟨fun | 246 => 85 | 283 => 96 | 284 => 97 | 285 => 98 | 286 => 99 | 129 => 109 | 317 => 108 | 318 => 110 | 319 => 111 | 320 => 112 | 337 => 115 | 338 => 116 | n => n, fun | 2 => 2 | 3 => 3 | 9 => 9 | 4 => 4 | 171 => 116 | 0 => 0 | 53 => 117 | 37 => 43 | 5 => 5 | 173 => 120 | 212 => 129 | 51 => 130 | 20 => 20 | 213 => 131 | 46 => 115 | 232 => 137 | 233 => 138 | n => n, fun | 17 => 3 | 18 => 4 | 19 => 5 | n => n⟩
theorem Tryd.lays246 : Go.Proofs.Lays.n246 Tryd.prog Tryd.lays246_ren := {
  mixed := by kernel_rfl
  f129 := Tryd.func109.trans (congrArg some (by kernel_rfl))
  f246 := Tryd.func85.trans (congrArg some (by kernel_rfl))
  f283 := Tryd.func96.trans (congrArg some (by kernel_rfl))
  f284 := Tryd.func97.trans (congrArg some (by kernel_rfl))
  f285 := Tryd.func98.trans (congrArg some (by kernel_rfl))
  f286 := Tryd.func99.trans (congrArg some (by kernel_rfl))
  f317 := Tryd.func108.trans (congrArg some (by kernel_rfl))
  f318 := Tryd.func110.trans (congrArg some (by kernel_rfl))
  f319 := Tryd.func111.trans (congrArg some (by kernel_rfl))
  f320 := Tryd.func112.trans (congrArg some (by kernel_rfl))
  f337 := Tryd.func115.trans (congrArg some (by kernel_rfl))
  f338 := Tryd.func116.trans (congrArg some (by kernel_rfl))
  t0 := Tryd.underlying0
  a0 := Tryd.isAgg0
  z0 := Tryd.sizeOf0
  v0 := Tryd.zeroValue0
  t2 := Tryd.underlying2
  a2 := Tryd.isAgg2
  z2 := Tryd.sizeOf2
  v2 := Tryd.zeroValue2
  t3 := Tryd.underlying3
  a3 := Tryd.isAgg3
  z3 := Tryd.sizeOf3
  v3 := Tryd.zeroValue3
  t4 := Tryd.underlying4
  a4 := Tryd.isAgg4
  z4 := Tryd.sizeOf4
  v4 := Tryd.zeroValue4
  t5 := Tryd.underlying5
  a5 := Tryd.isAgg5
  z5 := Tryd.sizeOf5
  v5 := Tryd.zeroValue5
  t9 := Tryd.underlying9
  a9 := Tryd.isAgg9
  z9 := Tryd.sizeOf9
  v9 := Tryd.zeroValue9
  t20 := Tryd.underlying20
  a20 := Tryd.isAgg20
  z20 := Tryd.sizeOf20
  v20 := Tryd.zeroValue20
  t37 := Tryd.underlying43
  a37 := Tryd.isAgg43
  z37 := Tryd.sizeOf43
  v37 := Tryd.zeroValue43
  t46 := Tryd.underlying115
  a46 := Tryd.isAgg115
  z46 := Tryd.sizeOf115
  v46 := Tryd.zeroValue115
  t51 := Tryd.underlying130
  a51 := Tryd.isAgg130
  z51 := Tryd.sizeOf130
  v51 := Tryd.zeroValue130
  t53 := Tryd.underlying117
  a53 := Tryd.isAgg117
  z53 := Tryd.sizeOf117
  v53 := Tryd.zeroValue117
  t171 := Tryd.underlying116
  a171 := Tryd.isAgg116
  z171 := Tryd.sizeOf116
  v171 := Tryd.zeroValue116
  t173 := Tryd.underlying120
  a173 := Tryd.isAgg120
  z173 := Tryd.sizeOf120
  v173 := Tryd.zeroValue120
  t212 := Tryd.underlying129
  a212 := Tryd.isAgg129
  z212 := Tryd.sizeOf129
  v212 := Tryd.zeroValue129
  t213 := Tryd.underlying131
  a213 := Tryd.isAgg131
  z213 := Tryd.sizeOf131
  t232 := Tryd.underlying137
  a232 := Tryd.isAgg137
  z232 := Tryd.sizeOf137
  v232 := Tryd.zeroValue137
  t233 := Tryd.underlying138
  a233 := Tryd.isAgg138
  z233 := Tryd.sizeOf138
  v233 := Tryd.zeroValue138
  g17 := by kernel_rfl
  g18 := by kernel_rfl
  g19 := by kernel_rfl }
open Go.RowKit Go.Sort Go.Lib in
/-- THE ROAD WITHOUT THE TABLE: 0 <= i < 100: two constants are read, nothing is laid: no premise on the world, and the world is as it was. (LAID: no walk: one application.) -/
theorem Tryd.internal_strconv_FormatInt_10_small (i : Nat) (hi : i < 100) (w : World) :
    Calls Tryd.prog 85 #[.int .i64 i, .int .i64 10] w fun e w' => e = .returned (.string ⟨(Lib.decDigits i).toArray⟩) ∧ w' = w := Any.internal_strconv_FormatInt_10_small Tryd.lays246 i hi w
def Tryd.laysM243_ren : Go.Shelf.Ren := ⟨fun | 243 => 64 | 246 => 85 | 283 => 96 | 284 => 97 | 285 => 98 | 286 => 99 | 129 => 109 | 317 => 108 | 318 => 110 | 319 => 111 | 320 => 112 | 337 => 115 | 338 => 116 | n => n, fun | 3 => 3 | 9 => 9 | 2 => 2 | 4 => 4 | 171 => 116 | 0 => 0 | 53 => 117 | 37 => 43 | 5 => 5 | 173 => 120 | 212 => 129 | 51 => 130 | 20 => 20 | 213 => 131 | 46 => 115 | 232 => 137 | 233 => 138 | n => n, fun | 17 => 3 | 18 => 4 | 19 => 5 | n => n⟩
theorem Tryd.laysM243 : Go.Proofs.LaysM.n243 Tryd.prog Tryd.laysM243_ren := {
  mixed := by kernel_rfl
  f129 := Tryd.func109.trans (congrArg some (by kernel_rfl))
  f243 := Tryd.func64.trans (congrArg some (by kernel_rfl))
  f246 := Tryd.func85.trans (congrArg some (by kernel_rfl))
  f283 := Tryd.func96.trans (congrArg some (by kernel_rfl))
  f284 := Tryd.func97.trans (congrArg some (by kernel_rfl))
  f285 := Tryd.func98.trans (congrArg some (by kernel_rfl))
  f286 := Tryd.func99.trans (congrArg some (by kernel_rfl))
  f317 := Tryd.func108.trans (congrArg some (by kernel_rfl))
  f318 := Tryd.func110.trans (congrArg some (by kernel_rfl))
  f319 := Tryd.func111.trans (congrArg some (by kernel_rfl))
  f320 := Tryd.func112.trans (congrArg some (by kernel_rfl))
  f337 := Tryd.func115.trans (congrArg some (by kernel_rfl))
  f338 := Tryd.func116.trans (congrArg some (by kernel_rfl))
  t0 := Tryd.underlying0
  a0 := Tryd.isAgg0
  z0 := Tryd.sizeOf0
  v0 := Tryd.zeroValue0
  t2 := Tryd.underlying2
  a2 := Tryd.isAgg2
  z2 := Tryd.sizeOf2
  v2 := Tryd.zeroValue2
  t3 := Tryd.underlying3
  a3 := Tryd.isAgg3
  z3 := Tryd.sizeOf3
  v3 := Tryd.zeroValue3
  t4 := Tryd.underlying4
  a4 := Tryd.isAgg4
  z4 := Tryd.sizeOf4
  v4 := Tryd.zeroValue4
  t5 := Tryd.underlying5
  a5 := Tryd.isAgg5
  z5 := Tryd.sizeOf5
  v5 := Tryd.zeroValue5
  t9 := Tryd.underlying9
  a9 := Tryd.isAgg9
  z9 := Tryd.sizeOf9
  v9 := Tryd.zeroValue9
  t20 := Tryd.underlying20
  a20 := Tryd.isAgg20
  z20 := Tryd.sizeOf20
  v20 := Tryd.zeroValue20
  t37 := Tryd.underlying43
  a37 := Tryd.isAgg43
  z37 := Tryd.sizeOf43
  v37 := Tryd.zeroValue43
  t46 := Tryd.underlying115
  a46 := Tryd.isAgg115
  z46 := Tryd.sizeOf115
  v46 := Tryd.zeroValue115
  t51 := Tryd.underlying130
  a51 := Tryd.isAgg130
  z51 := Tryd.sizeOf130
  v51 := Tryd.zeroValue130
  t53 := Tryd.underlying117
  a53 := Tryd.isAgg117
  z53 := Tryd.sizeOf117
  v53 := Tryd.zeroValue117
  t171 := Tryd.underlying116
  a171 := Tryd.isAgg116
  z171 := Tryd.sizeOf116
  v171 := Tryd.zeroValue116
  t173 := Tryd.underlying120
  a173 := Tryd.isAgg120
  z173 := Tryd.sizeOf120
  v173 := Tryd.zeroValue120
  t212 := Tryd.underlying129
  a212 := Tryd.isAgg129
  z212 := Tryd.sizeOf129
  v212 := Tryd.zeroValue129
  t213 := Tryd.underlying131
  a213 := Tryd.isAgg131
  z213 := Tryd.sizeOf131
  t232 := Tryd.underlying137
  a232 := Tryd.isAgg137
  z232 := Tryd.sizeOf137
  v232 := Tryd.zeroValue137
  t233 := Tryd.underlying138
  a233 := Tryd.isAgg138
  z233 := Tryd.sizeOf138
  v233 := Tryd.zeroValue138
  g17 := by kernel_rfl
  g18 := by kernel_rfl
  g19 := by kernel_rfl
  i0 := by kernel_rfl
  i2 := by kernel_rfl
  i3 := by kernel_rfl
  i4 := by kernel_rfl
  i5 := by kernel_rfl
  i9 := by kernel_rfl
  i20 := by kernel_rfl
  i37 := by kernel_rfl
  i46 := by kernel_rfl
  i51 := by kernel_rfl
  i53 := by kernel_rfl
  i171 := by kernel_rfl
  i173 := by kernel_rfl
  i212 := by kernel_rfl
  i232 := by kernel_rfl
  i233 := by kernel_rfl
  m17 := by kernel_rfl
  m18 := by kernel_rfl
  m19 := by kernel_rfl }
open Go.RowKit Go.Sort Go.Lib in
/-- internal/strconv.Itoa: "Itoa is equivalent to FormatInt(int64(i), 10).": i's decimal numeral, for every int. (LAID: no walk: one application.) -/
theorem Tryd.internal_strconv_Itoa (n : Int) (h0 : -9223372036854775808 ≤ n) (h1 : n ≤ 9223372036854775807) (w : World) (htab : Lib.TabIs Tryd.prog w "internal/strconv.uint64pow10" .u64 Lib.pow10Tab) :
    Calls Tryd.prog 64 #[.int .i64 n] w fun e w' => e = .returned (.string ⟨(Lib.itoa n).toArray⟩) ∧ ∃ k os, w' = grow (w.drewN k) os := Any.internal_strconv_Itoa Tryd.laysM243 n h0 h1 w htab
def Tryd.lays243_ren : Go.Shelf.Ren := ⟨fun | 243 => 64 | 246 => 85 | 283 => 96 | 284 => 97 | 285 => 98 | 286 => 99 | 129 => 109 | 317 => 108 | 318 => 110 | 319 => 111 | 320 => 112 | 337 => 115 | 338 => 116 | n => n, fun | 3 => 3 | 9 => 9 | 2 => 2 | 4 => 4 | 171 => 116 | 0 => 0 | 53 => 117 | 37 => 43 | 5 => 5 | 173 => 120 | 212 => 129 | 51 => 130 | 20 => 20 | 213 => 131 | 46 => 115 | 232 => 137 | 233 => 138 | n => n, fun | 17 => 3 | 18 => 4 | 19 => 5 | n => n⟩
theorem Tryd.lays243 : Go.Proofs.Lays.n243 Tryd.prog Tryd.lays243_ren := {
  mixed := by kernel_rfl
  f129 := Tryd.func109.trans (congrArg some (by kernel_rfl))
  f243 := Tryd.func64.trans (congrArg some (by kernel_rfl))
  f246 := Tryd.func85.trans (congrArg some (by kernel_rfl))
  f283 := Tryd.func96.trans (congrArg some (by kernel_rfl))
  f284 := Tryd.func97.trans (congrArg some (by kernel_rfl))
  f285 := Tryd.func98.trans (congrArg some (by kernel_rfl))
  f286 := Tryd.func99.trans (congrArg some (by kernel_rfl))
  f317 := Tryd.func108.trans (congrArg some (by kernel_rfl))
  f318 := Tryd.func110.trans (congrArg some (by kernel_rfl))
  f319 := Tryd.func111.trans (congrArg some (by kernel_rfl))
  f320 := Tryd.func112.trans (congrArg some (by kernel_rfl))
  f337 := Tryd.func115.trans (congrArg some (by kernel_rfl))
  f338 := Tryd.func116.trans (congrArg some (by kernel_rfl))
  t0 := Tryd.underlying0
  a0 := Tryd.isAgg0
  z0 := Tryd.sizeOf0
  v0 := Tryd.zeroValue0
  t2 := Tryd.underlying2
  a2 := Tryd.isAgg2
  z2 := Tryd.sizeOf2
  v2 := Tryd.zeroValue2
  t3 := Tryd.underlying3
  a3 := Tryd.isAgg3
  z3 := Tryd.sizeOf3
  v3 := Tryd.zeroValue3
  t4 := Tryd.underlying4
  a4 := Tryd.isAgg4
  z4 := Tryd.sizeOf4
  v4 := Tryd.zeroValue4
  t5 := Tryd.underlying5
  a5 := Tryd.isAgg5
  z5 := Tryd.sizeOf5
  v5 := Tryd.zeroValue5
  t9 := Tryd.underlying9
  a9 := Tryd.isAgg9
  z9 := Tryd.sizeOf9
  v9 := Tryd.zeroValue9
  t20 := Tryd.underlying20
  a20 := Tryd.isAgg20
  z20 := Tryd.sizeOf20
  v20 := Tryd.zeroValue20
  t37 := Tryd.underlying43
  a37 := Tryd.isAgg43
  z37 := Tryd.sizeOf43
  v37 := Tryd.zeroValue43
  t46 := Tryd.underlying115
  a46 := Tryd.isAgg115
  z46 := Tryd.sizeOf115
  v46 := Tryd.zeroValue115
  t51 := Tryd.underlying130
  a51 := Tryd.isAgg130
  z51 := Tryd.sizeOf130
  v51 := Tryd.zeroValue130
  t53 := Tryd.underlying117
  a53 := Tryd.isAgg117
  z53 := Tryd.sizeOf117
  v53 := Tryd.zeroValue117
  t171 := Tryd.underlying116
  a171 := Tryd.isAgg116
  z171 := Tryd.sizeOf116
  v171 := Tryd.zeroValue116
  t173 := Tryd.underlying120
  a173 := Tryd.isAgg120
  z173 := Tryd.sizeOf120
  v173 := Tryd.zeroValue120
  t212 := Tryd.underlying129
  a212 := Tryd.isAgg129
  z212 := Tryd.sizeOf129
  v212 := Tryd.zeroValue129
  t213 := Tryd.underlying131
  a213 := Tryd.isAgg131
  z213 := Tryd.sizeOf131
  t232 := Tryd.underlying137
  a232 := Tryd.isAgg137
  z232 := Tryd.sizeOf137
  v232 := Tryd.zeroValue137
  t233 := Tryd.underlying138
  a233 := Tryd.isAgg138
  z233 := Tryd.sizeOf138
  v233 := Tryd.zeroValue138
  g17 := by kernel_rfl
  g18 := by kernel_rfl
  g19 := by kernel_rfl }
open Go.RowKit Go.Sort Go.Lib in
/-- THE ROAD WITHOUT THE TABLE: 0 <= i < 100. (LAID: no walk: one application.) -/
theorem Tryd.internal_strconv_Itoa_small (i : Nat) (hi : i < 100) (w : World) :
    Calls Tryd.prog 64 #[.int .i64 i] w fun e w' => e = .returned (.string ⟨(Lib.decDigits i).toArray⟩) ∧ w' = w := Any.internal_strconv_Itoa_small Tryd.lays243 i hi w
def Tryd.laysM171_ren : Go.Shelf.Ren := ⟨fun | 171 => 37 | 243 => 64 | 246 => 85 | 283 => 96 | 284 => 97 | 285 => 98 | 286 => 99 | 129 => 109 | 317 => 108 | 318 => 110 | 319 => 111 | 320 => 112 | 337 => 115 | 338 => 116 | n => n, fun | 3 => 3 | 9 => 9 | 2 => 2 | 4 => 4 | 171 => 116 | 0 => 0 | 53 => 117 | 37 => 43 | 5 => 5 | 173 => 120 | 212 => 129 | 51 => 130 | 20 => 20 | 213 => 131 | 46 => 115 | 232 => 137 | 233 => 138 | n => n, fun | 17 => 3 | 18 => 4 | 19 => 5 | n => n⟩
theorem Tryd.laysM171 : Go.Proofs.LaysM.n171 Tryd.prog Tryd.laysM171_ren := {
  mixed := by kernel_rfl
  f129 := Tryd.func109.trans (congrArg some (by kernel_rfl))
  f171 := Tryd.func37.trans (congrArg some (by kernel_rfl))
  f243 := Tryd.func64.trans (congrArg some (by kernel_rfl))
  f246 := Tryd.func85.trans (congrArg some (by kernel_rfl))
  f283 := Tryd.func96.trans (congrArg some (by kernel_rfl))
  f284 := Tryd.func97.trans (congrArg some (by kernel_rfl))
  f285 := Tryd.func98.trans (congrArg some (by kernel_rfl))
  f286 := Tryd.func99.trans (congrArg some (by kernel_rfl))
  f317 := Tryd.func108.trans (congrArg some (by kernel_rfl))
  f318 := Tryd.func110.trans (congrArg some (by kernel_rfl))
  f319 := Tryd.func111.trans (congrArg some (by kernel_rfl))
  f320 := Tryd.func112.trans (congrArg some (by kernel_rfl))
  f337 := Tryd.func115.trans (congrArg some (by kernel_rfl))
  f338 := Tryd.func116.trans (congrArg some (by kernel_rfl))
  t0 := Tryd.underlying0
  a0 := Tryd.isAgg0
  z0 := Tryd.sizeOf0
  v0 := Tryd.zeroValue0
  t2 := Tryd.underlying2
  a2 := Tryd.isAgg2
  z2 := Tryd.sizeOf2
  v2 := Tryd.zeroValue2
  t3 := Tryd.underlying3
  a3 := Tryd.isAgg3
  z3 := Tryd.sizeOf3
  v3 := Tryd.zeroValue3
  t4 := Tryd.underlying4
  a4 := Tryd.isAgg4
  z4 := Tryd.sizeOf4
  v4 := Tryd.zeroValue4
  t5 := Tryd.underlying5
  a5 := Tryd.isAgg5
  z5 := Tryd.sizeOf5
  v5 := Tryd.zeroValue5
  t9 := Tryd.underlying9
  a9 := Tryd.isAgg9
  z9 := Tryd.sizeOf9
  v9 := Tryd.zeroValue9
  t20 := Tryd.underlying20
  a20 := Tryd.isAgg20
  z20 := Tryd.sizeOf20
  v20 := Tryd.zeroValue20
  t37 := Tryd.underlying43
  a37 := Tryd.isAgg43
  z37 := Tryd.sizeOf43
  v37 := Tryd.zeroValue43
  t46 := Tryd.underlying115
  a46 := Tryd.isAgg115
  z46 := Tryd.sizeOf115
  v46 := Tryd.zeroValue115
  t51 := Tryd.underlying130
  a51 := Tryd.isAgg130
  z51 := Tryd.sizeOf130
  v51 := Tryd.zeroValue130
  t53 := Tryd.underlying117
  a53 := Tryd.isAgg117
  z53 := Tryd.sizeOf117
  v53 := Tryd.zeroValue117
  t171 := Tryd.underlying116
  a171 := Tryd.isAgg116
  z171 := Tryd.sizeOf116
  v171 := Tryd.zeroValue116
  t173 := Tryd.underlying120
  a173 := Tryd.isAgg120
  z173 := Tryd.sizeOf120
  v173 := Tryd.zeroValue120
  t212 := Tryd.underlying129
  a212 := Tryd.isAgg129
  z212 := Tryd.sizeOf129
  v212 := Tryd.zeroValue129
  t213 := Tryd.underlying131
  a213 := Tryd.isAgg131
  z213 := Tryd.sizeOf131
  t232 := Tryd.underlying137
  a232 := Tryd.isAgg137
  z232 := Tryd.sizeOf137
  v232 := Tryd.zeroValue137
  t233 := Tryd.underlying138
  a233 := Tryd.isAgg138
  z233 := Tryd.sizeOf138
  v233 := Tryd.zeroValue138
  g17 := by kernel_rfl
  g18 := by kernel_rfl
  g19 := by kernel_rfl
  i0 := by kernel_rfl
  i2 := by kernel_rfl
  i3 := by kernel_rfl
  i4 := by kernel_rfl
  i5 := by kernel_rfl
  i9 := by kernel_rfl
  i20 := by kernel_rfl
  i37 := by kernel_rfl
  i46 := by kernel_rfl
  i51 := by kernel_rfl
  i53 := by kernel_rfl
  i171 := by kernel_rfl
  i173 := by kernel_rfl
  i212 := by kernel_rfl
  i232 := by kernel_rfl
  i233 := by kernel_rfl
  m17 := by kernel_rfl
  m18 := by kernel_rfl
  m19 := by kernel_rfl }
open Go.RowKit Go.Sort Go.Lib in
/-- strconv.Itoa: "Itoa is equivalent to FormatInt(int64(i), 10).": i's DECIMAL NUMERAL ('Lib.itoa': a '-' where i is negative, then the digits), FOR EVERY int. The world behind the call: the world before it, new blocks behind the heap (the library's 'var a [24]byte'), draws. (LAID: no walk: one application.) -/
theorem Tryd.strconv_Itoa (n : Int) (h0 : -9223372036854775808 ≤ n) (h1 : n ≤ 9223372036854775807) (w : World) (htab : Lib.TabIs Tryd.prog w "internal/strconv.uint64pow10" .u64 Lib.pow10Tab) :
    Calls Tryd.prog 37 #[.int .i64 n] w fun e w' => e = .returned (.string ⟨(Lib.itoa n).toArray⟩) ∧ ∃ k os, w' = grow (w.drewN k) os := Any.strconv_Itoa Tryd.laysM171 n h0 h1 w htab
def Tryd.lays171_ren : Go.Shelf.Ren := ⟨fun | 171 => 37 | 243 => 64 | 246 => 85 | 283 => 96 | 284 => 97 | 285 => 98 | 286 => 99 | 129 => 109 | 317 => 108 | 318 => 110 | 319 => 111 | 320 => 112 | 337 => 115 | 338 => 116 | n => n, fun | 3 => 3 | 9 => 9 | 2 => 2 | 4 => 4 | 171 => 116 | 0 => 0 | 53 => 117 | 37 => 43 | 5 => 5 | 173 => 120 | 212 => 129 | 51 => 130 | 20 => 20 | 213 => 131 | 46 => 115 | 232 => 137 | 233 => 138 | n => n, fun | 17 => 3 | 18 => 4 | 19 => 5 | n => n⟩
theorem Tryd.lays171 : Go.Proofs.Lays.n171 Tryd.prog Tryd.lays171_ren := {
  mixed := by kernel_rfl
  f129 := Tryd.func109.trans (congrArg some (by kernel_rfl))
  f171 := Tryd.func37.trans (congrArg some (by kernel_rfl))
  f243 := Tryd.func64.trans (congrArg some (by kernel_rfl))
  f246 := Tryd.func85.trans (congrArg some (by kernel_rfl))
  f283 := Tryd.func96.trans (congrArg some (by kernel_rfl))
  f284 := Tryd.func97.trans (congrArg some (by kernel_rfl))
  f285 := Tryd.func98.trans (congrArg some (by kernel_rfl))
  f286 := Tryd.func99.trans (congrArg some (by kernel_rfl))
  f317 := Tryd.func108.trans (congrArg some (by kernel_rfl))
  f318 := Tryd.func110.trans (congrArg some (by kernel_rfl))
  f319 := Tryd.func111.trans (congrArg some (by kernel_rfl))
  f320 := Tryd.func112.trans (congrArg some (by kernel_rfl))
  f337 := Tryd.func115.trans (congrArg some (by kernel_rfl))
  f338 := Tryd.func116.trans (congrArg some (by kernel_rfl))
  t0 := Tryd.underlying0
  a0 := Tryd.isAgg0
  z0 := Tryd.sizeOf0
  v0 := Tryd.zeroValue0
  t2 := Tryd.underlying2
  a2 := Tryd.isAgg2
  z2 := Tryd.sizeOf2
  v2 := Tryd.zeroValue2
  t3 := Tryd.underlying3
  a3 := Tryd.isAgg3
  z3 := Tryd.sizeOf3
  v3 := Tryd.zeroValue3
  t4 := Tryd.underlying4
  a4 := Tryd.isAgg4
  z4 := Tryd.sizeOf4
  v4 := Tryd.zeroValue4
  t5 := Tryd.underlying5
  a5 := Tryd.isAgg5
  z5 := Tryd.sizeOf5
  v5 := Tryd.zeroValue5
  t9 := Tryd.underlying9
  a9 := Tryd.isAgg9
  z9 := Tryd.sizeOf9
  v9 := Tryd.zeroValue9
  t20 := Tryd.underlying20
  a20 := Tryd.isAgg20
  z20 := Tryd.sizeOf20
  v20 := Tryd.zeroValue20
  t37 := Tryd.underlying43
  a37 := Tryd.isAgg43
  z37 := Tryd.sizeOf43
  v37 := Tryd.zeroValue43
  t46 := Tryd.underlying115
  a46 := Tryd.isAgg115
  z46 := Tryd.sizeOf115
  v46 := Tryd.zeroValue115
  t51 := Tryd.underlying130
  a51 := Tryd.isAgg130
  z51 := Tryd.sizeOf130
  v51 := Tryd.zeroValue130
  t53 := Tryd.underlying117
  a53 := Tryd.isAgg117
  z53 := Tryd.sizeOf117
  v53 := Tryd.zeroValue117
  t171 := Tryd.underlying116
  a171 := Tryd.isAgg116
  z171 := Tryd.sizeOf116
  v171 := Tryd.zeroValue116
  t173 := Tryd.underlying120
  a173 := Tryd.isAgg120
  z173 := Tryd.sizeOf120
  v173 := Tryd.zeroValue120
  t212 := Tryd.underlying129
  a212 := Tryd.isAgg129
  z212 := Tryd.sizeOf129
  v212 := Tryd.zeroValue129
  t213 := Tryd.underlying131
  a213 := Tryd.isAgg131
  z213 := Tryd.sizeOf131
  t232 := Tryd.underlying137
  a232 := Tryd.isAgg137
  z232 := Tryd.sizeOf137
  v232 := Tryd.zeroValue137
  t233 := Tryd.underlying138
  a233 := Tryd.isAgg138
  z233 := Tryd.sizeOf138
  v233 := Tryd.zeroValue138
  g17 := by kernel_rfl
  g18 := by kernel_rfl
  g19 := by kernel_rfl }
open Go.RowKit Go.Sort Go.Lib in
/-- THE ROAD WITHOUT THE TABLE: 0 <= i < 100: NO PREMISE ON THE WORLD, AND THE WORLD IS AS IT WAS: a row that keeps its argument in that range need list no table ('laid = []'). (LAID: no walk: one application.) -/
theorem Tryd.strconv_Itoa_small (i : Nat) (hi : i < 100) (w : World) :
    Calls Tryd.prog 37 #[.int .i64 i] w fun e w' => e = .returned (.string ⟨(Lib.decDigits i).toArray⟩) ∧ w' = w := Any.strconv_Itoa_small Tryd.lays171 i hi w
def Tryd.laysM316_ren : Go.Shelf.Ren := ⟨fun | 316 => 79 | n => n, fun | 9 => 9 | 3 => 3 | 4 => 4 | 37 => 43 | 0 => 0 | 127 => 92 | 5 => 5 | n => n, fun | n => n⟩
theorem Tryd.laysM316 : Go.Proofs.LaysM.n316 Tryd.prog Tryd.laysM316_ren := {
  mixed := by kernel_rfl
  f316 := Tryd.func79.trans (congrArg some (by kernel_rfl))
  t0 := Tryd.underlying0
  a0 := Tryd.isAgg0
  z0 := Tryd.sizeOf0
  v0 := Tryd.zeroValue0
  t3 := Tryd.underlying3
  a3 := Tryd.isAgg3
  z3 := Tryd.sizeOf3
  v3 := Tryd.zeroValue3
  t4 := Tryd.underlying4
  a4 := Tryd.isAgg4
  z4 := Tryd.sizeOf4
  v4 := Tryd.zeroValue4
  t9 := Tryd.underlying9
  a9 := Tryd.isAgg9
  z9 := Tryd.sizeOf9
  v9 := Tryd.zeroValue9
  t37 := Tryd.underlying43
  a37 := Tryd.isAgg43
  z37 := Tryd.sizeOf43
  v37 := Tryd.zeroValue43
  t127 := Tryd.underlying92
  a127 := Tryd.isAgg92
  z127 := Tryd.sizeOf92
  v127 := Tryd.zeroValue92
  t5 := Tryd.underlying5
  a5 := Tryd.isAgg5
  z5 := Tryd.sizeOf5
  v5 := Tryd.zeroValue5
  i0 := by kernel_rfl
  i3 := by kernel_rfl
  i4 := by kernel_rfl
  i5 := by kernel_rfl
  i9 := by kernel_rfl
  i37 := by kernel_rfl
  i127 := by kernel_rfl }
open Go.RowKit in
/-- internal/stringslite.Clone (what strings.Clone calls): "Clone returns a fresh copy of s.": THE SAME BYTES. Of what was there nothing has turned (a new row is laid, and frozen, where s is not empty). (LAID: no walk: one application.) -/
theorem Tryd.stringslite_Clone (s : ByteArray) (w : World) (hlim : s.size ≤ 281474976710656) :
    Calls Tryd.prog 79 #[.string s] w fun e w' => e = .returned (.string s) ∧ Below w.heap.size w w' := Any.stringslite_Clone Tryd.laysM316 s w hlim
def Tryd.lays217_ren : Go.Shelf.Ren := ⟨fun | 217 => 101 | 266 => 113 | n => n, fun | 9 => 9 | 5 => 5 | 3 => 3 | n => n, fun | n => n⟩
theorem Tryd.lays217 : Go.Proofs.Lays.n217 Tryd.prog Tryd.lays217_ren := {
  mixed := by kernel_rfl
  f217 := Tryd.func101.trans (congrArg some (by kernel_rfl))
  f266 := Tryd.func113.trans (congrArg some (by kernel_rfl))
  t3 := Tryd.underlying3
  a3 := Tryd.isAgg3
  z3 := Tryd.sizeOf3
  v3 := Tryd.zeroValue3
  t5 := Tryd.underlying5
  a5 := Tryd.isAgg5
  z5 := Tryd.sizeOf5
  v5 := Tryd.zeroValue5
  t9 := Tryd.underlying9
  a9 := Tryd.isAgg9
  z9 := Tryd.sizeOf9
  v9 := Tryd.zeroValue9 }
open Go.RowKit Go.Lib in
/-- internal/stringslite.IndexByte (what strings.IndexByte calls): IT RETURNS 'Lib.indexByte s c'; the world is as it was. (LAID: no walk: one application.) -/
theorem Tryd.stringslite_IndexByte (s : ByteArray) (c : Int) (w : World) :
    Calls Tryd.prog 101 #[.string s, .int .u8 c] w fun e w' => e = .returned (.int .i64 (Lib.indexByte s.data.toList c.toNat.toUInt8)) ∧ w' = w := Any.stringslite_IndexByte Tryd.lays217 s c w
def Tryd.lays224_ren : Go.Shelf.Ren := ⟨fun | 224 => 103 | n => n, fun | 3 => 3 | n => n, fun | n => n⟩
theorem Tryd.lays224 : Go.Proofs.Lays.n224 Tryd.prog Tryd.lays224_ren := {
  mixed := by kernel_rfl
  f224 := Tryd.func103.trans (congrArg some (by kernel_rfl))
  t3 := Tryd.underlying3
  a3 := Tryd.isAgg3
  z3 := Tryd.sizeOf3
  v3 := Tryd.zeroValue3 }
open Go.RowKit Go.Lib in
/-- internal/bytealg.Cutover: "Cutover reports the number of failures of IndexByte we should tolerate before switching over to Index. n is the number of bytes processed so far.": on amd64: (n + 16) / 8. (LAID: no walk: one application.) -/
theorem Tryd.bytealg_Cutover (n : Int) (h0 : 0 ≤ n) (h1 : n < 4611686018427387904) (w : World) :
    Calls Tryd.prog 103 #[.int .i64 n] w fun e w' => e = .returned (.int .i64 ((n + 16) / 8)) ∧ w' = w := Any.bytealg_Cutover Tryd.lays224 n h0 h1 w
def Tryd.lays314_ren : Go.Shelf.Ren := ⟨fun | 314 => 114 | n => n, fun | 9 => 9 | 51 => 130 | 3 => 3 | 4 => 4 | 5 => 5 | 46 => 115 | n => n, fun | n => n⟩
theorem Tryd.lays314 : Go.Proofs.Lays.n314 Tryd.prog Tryd.lays314_ren := {
  mixed := by kernel_rfl
  f314 := Tryd.func114.trans (congrArg some (by kernel_rfl))
  t3 := Tryd.underlying3
  a3 := Tryd.isAgg3
  z3 := Tryd.sizeOf3
  v3 := Tryd.zeroValue3
  t4 := Tryd.underlying4
  a4 := Tryd.isAgg4
  z4 := Tryd.sizeOf4
  v4 := Tryd.zeroValue4
  t5 := Tryd.underlying5
  a5 := Tryd.isAgg5
  z5 := Tryd.sizeOf5
  v5 := Tryd.zeroValue5
  t9 := Tryd.underlying9
  a9 := Tryd.isAgg9
  z9 := Tryd.sizeOf9
  v9 := Tryd.zeroValue9
  t46 := Tryd.underlying115
  a46 := Tryd.isAgg115
  z46 := Tryd.sizeOf115
  v46 := Tryd.zeroValue115
  t51 := Tryd.underlying130
  a51 := Tryd.isAgg130
  z51 := Tryd.sizeOf130
  v51 := Tryd.zeroValue130 }
open Go.RowKit Go.Lib in
/-- hashStr: "returns the hash and the appropriate multiplicative factor for use in Rabin-Karp algorithm": THE HASH OF ALL OF sep, AND 16777619 ^ len(sep), both in uint32. (LAID: no walk: one application.) -/
theorem Tryd.bytealg_hashStr (sep : ByteArray) (hs : sep.size < 4294967281) (w : World) :
    Calls Tryd.prog 114 #[.string sep] w fun e w' => e = .returned (.tuple #[.int .u32 (RK.H sep.data.toList % 4294967296), .int .u32 (16777619 ^ sep.size % 4294967296)]) ∧ w' = w := Any.bytealg_hashStr Tryd.lays314 sep hs w
def Tryd.lays267_ren : Go.Shelf.Ren := ⟨fun | 267 => 104 | 314 => 114 | n => n, fun | 9 => 9 | 3 => 3 | 146 => 134 | 51 => 130 | 4 => 4 | 5 => 5 | 46 => 115 | n => n, fun | n => n⟩
theorem Tryd.lays267 : Go.Proofs.Lays.n267 Tryd.prog Tryd.lays267_ren := {
  mixed := by kernel_rfl
  f267 := Tryd.func104.trans (congrArg some (by kernel_rfl))
  f314 := Tryd.func114.trans (congrArg some (by kernel_rfl))
  t3 := Tryd.underlying3
  a3 := Tryd.isAgg3
  z3 := Tryd.sizeOf3
  v3 := Tryd.zeroValue3
  t4 := Tryd.underlying4
  a4 := Tryd.isAgg4
  z4 := Tryd.sizeOf4
  v4 := Tryd.zeroValue4
  t5 := Tryd.underlying5
  a5 := Tryd.isAgg5
  z5 := Tryd.sizeOf5
  v5 := Tryd.zeroValue5
  t9 := Tryd.underlying9
  a9 := Tryd.isAgg9
  z9 := Tryd.sizeOf9
  v9 := Tryd.zeroValue9
  t46 := Tryd.underlying115
  a46 := Tryd.isAgg115
  z46 := Tryd.sizeOf115
  v46 := Tryd.zeroValue115
  t51 := Tryd.underlying130
  a51 := Tryd.isAgg130
  z51 := Tryd.sizeOf130
  v51 := Tryd.zeroValue130
  t146 := Tryd.underlying134
  a146 := Tryd.isAgg134
  z146 := Tryd.sizeOf134
  v146 := Tryd.zeroValue134 }
open Go.RowKit Go.Lib in
theorem Tryd.bytealg_IndexRabinKarp (s sep : ByteArray) (h1 : 1 ≤ sep.size) (h2 : sep.size ≤ s.size) (hs : s.size < 4294967281) (w : World) :
    Calls Tryd.prog 104 #[.string s, .string sep] w fun e w' => e = .returned (.int .i64 (Lib.index s.data.toList sep.data.toList)) ∧ w' = w := Any.bytealg_IndexRabinKarp Tryd.lays267 s sep h1 h2 hs w
def Tryd.lays219_ren : Go.Shelf.Ren := ⟨fun | 219 => 89 | 217 => 101 | 225 => 102 | 224 => 103 | 267 => 104 | 266 => 113 | 314 => 114 | n => n, fun | 9 => 9 | 3 => 3 | 4 => 4 | 5 => 5 | 46 => 115 | 146 => 134 | 51 => 130 | n => n, fun | 1 => 0 | n => n⟩
theorem Tryd.lays219 : Go.Proofs.Lays.n219 Tryd.prog Tryd.lays219_ren := {
  mixed := by kernel_rfl
  f217 := Tryd.func101.trans (congrArg some (by kernel_rfl))
  f219 := Tryd.func89.trans (congrArg some (by kernel_rfl))
  f224 := Tryd.func103.trans (congrArg some (by kernel_rfl))
  f225 := Tryd.func102.trans (congrArg some (by kernel_rfl))
  f266 := Tryd.func113.trans (congrArg some (by kernel_rfl))
  f267 := Tryd.func104.trans (congrArg some (by kernel_rfl))
  f314 := Tryd.func114.trans (congrArg some (by kernel_rfl))
  t3 := Tryd.underlying3
  a3 := Tryd.isAgg3
  z3 := Tryd.sizeOf3
  v3 := Tryd.zeroValue3
  t4 := Tryd.underlying4
  a4 := Tryd.isAgg4
  z4 := Tryd.sizeOf4
  v4 := Tryd.zeroValue4
  t5 := Tryd.underlying5
  a5 := Tryd.isAgg5
  z5 := Tryd.sizeOf5
  v5 := Tryd.zeroValue5
  t9 := Tryd.underlying9
  a9 := Tryd.isAgg9
  z9 := Tryd.sizeOf9
  v9 := Tryd.zeroValue9
  t46 := Tryd.underlying115
  a46 := Tryd.isAgg115
  z46 := Tryd.sizeOf115
  v46 := Tryd.zeroValue115
  t51 := Tryd.underlying130
  a51 := Tryd.isAgg130
  z51 := Tryd.sizeOf130
  v51 := Tryd.zeroValue130
  t146 := Tryd.underlying134
  a146 := Tryd.isAgg134
  z146 := Tryd.sizeOf134
  v146 := Tryd.zeroValue134
  g1 := by kernel_rfl }
open Go.RowKit Go.Lib in
/-- internal/stringslite.Index (what strings.Index calls) AT A substr OF ONE BYTE c: IT RETURNS 'Lib.indexByte s c'; the world is as it was. (LAID: no walk: one application.) -/
theorem Tryd.stringslite_Index_one (s : ByteArray) (c : UInt8) (w : World) :
    Calls Tryd.prog 89 #[.string s, .string ⟨#[c]⟩] w fun e w' => e = .returned (.int .i64 (Lib.indexByte s.data.toList c)) ∧ w' = w := Any.stringslite_Index_one Tryd.lays219 s c w
open Go.RowKit Go.Lib in
/-- internal/stringslite.Index (what strings.Index calls) AT A substr OF WHATEVER LENGTH: IT RETURNS 'Lib.index s substr'; the world is as it was. 'm': what internal/bytealg.MaxLen holds: whatever. (LAID: no walk: one application.) -/
theorem Tryd.stringslite_Index (s sub : ByteArray) (m : Int) (w : World) (hs : s.size < 4294967281) (hm : w.cell? ⟨0, 0, none⟩ = some (.int .i64 m)) :
    Calls Tryd.prog 89 #[.string s, .string sub] w fun e w' => e = .returned (.int .i64 (Lib.index s.data.toList sub.data.toList)) ∧ w' = w := Any.stringslite_Index Tryd.lays219 s sub m w hs hm
def Tryd.lays143_ren : Go.Shelf.Ren := ⟨fun | 143 => 69 | 219 => 89 | 217 => 101 | 225 => 102 | 224 => 103 | 267 => 104 | 266 => 113 | 314 => 114 | n => n, fun | 9 => 9 | 3 => 3 | 4 => 4 | 5 => 5 | 46 => 115 | 146 => 134 | 51 => 130 | n => n, fun | 1 => 0 | n => n⟩
theorem Tryd.lays143 : Go.Proofs.Lays.n143 Tryd.prog Tryd.lays143_ren := {
  mixed := by kernel_rfl
  f143 := Tryd.func69.trans (congrArg some (by kernel_rfl))
  f217 := Tryd.func101.trans (congrArg some (by kernel_rfl))
  f219 := Tryd.func89.trans (congrArg some (by kernel_rfl))
  f224 := Tryd.func103.trans (congrArg some (by kernel_rfl))
  f225 := Tryd.func102.trans (congrArg some (by kernel_rfl))
  f266 := Tryd.func113.trans (congrArg some (by kernel_rfl))
  f267 := Tryd.func104.trans (congrArg some (by kernel_rfl))
  f314 := Tryd.func114.trans (congrArg some (by kernel_rfl))
  t3 := Tryd.underlying3
  a3 := Tryd.isAgg3
  z3 := Tryd.sizeOf3
  v3 := Tryd.zeroValue3
  t4 := Tryd.underlying4
  a4 := Tryd.isAgg4
  z4 := Tryd.sizeOf4
  v4 := Tryd.zeroValue4
  t5 := Tryd.underlying5
  a5 := Tryd.isAgg5
  z5 := Tryd.sizeOf5
  v5 := Tryd.zeroValue5
  t9 := Tryd.underlying9
  a9 := Tryd.isAgg9
  z9 := Tryd.sizeOf9
  v9 := Tryd.zeroValue9
  t46 := Tryd.underlying115
  a46 := Tryd.isAgg115
  z46 := Tryd.sizeOf115
  v46 := Tryd.zeroValue115
  t51 := Tryd.underlying130
  a51 := Tryd.isAgg130
  z51 := Tryd.sizeOf130
  v51 := Tryd.zeroValue130
  t146 := Tryd.underlying134
  a146 := Tryd.isAgg134
  z146 := Tryd.sizeOf134
  v146 := Tryd.zeroValue134
  g1 := by kernel_rfl }
open Go.RowKit Go.Lib in
/-- strings.Index: "Index returns the index of the first instance of substr in s, or -1 if substr is not present in s.": AT A substr OF ONE BYTE c: IT RETURNS 'Lib.indexByte s c'; the world is as it was. (LAID: no walk: one application.) -/
theorem Tryd.strings_Index_one (s : ByteArray) (c : UInt8) (w : World) :
    Calls Tryd.prog 69 #[.string s, .string ⟨#[c]⟩] w fun e w' => e = .returned (.int .i64 (Lib.indexByte s.data.toList c)) ∧ w' = w := Any.strings_Index_one Tryd.lays143 s c w
open Go.RowKit Go.Lib in
/-- strings.Index: "Index returns the index of the first instance of substr in s, or -1 if substr is not present in s.": IT RETURNS 'Lib.index s substr'; the world is as it was. (LAID: no walk: one application.) -/
theorem Tryd.strings_Index (s sub : ByteArray) (m : Int) (w : World) (hs : s.size < 4294967281) (hm : w.cell? ⟨0, 0, none⟩ = some (.int .i64 m)) :
    Calls Tryd.prog 69 #[.string s, .string sub] w fun e w' => e = .returned (.int .i64 (Lib.index s.data.toList sub.data.toList)) ∧ w' = w := Any.strings_Index Tryd.lays143 s sub m w hs hm
def Tryd.lays220_ren : Go.Shelf.Ren := ⟨fun | 220 => 93 | 219 => 89 | 217 => 101 | 225 => 102 | 224 => 103 | 267 => 104 | 266 => 113 | 314 => 114 | n => n, fun | 9 => 9 | 4 => 4 | 3 => 3 | 5 => 5 | 46 => 115 | 146 => 134 | 51 => 130 | n => n, fun | 1 => 0 | n => n⟩
theorem Tryd.lays220 : Go.Proofs.Lays.n220 Tryd.prog Tryd.lays220_ren := {
  mixed := by kernel_rfl
  f217 := Tryd.func101.trans (congrArg some (by kernel_rfl))
  f219 := Tryd.func89.trans (congrArg some (by kernel_rfl))
  f220 := Tryd.func93.trans (congrArg some (by kernel_rfl))
  f224 := Tryd.func103.trans (congrArg some (by kernel_rfl))
  f225 := Tryd.func102.trans (congrArg some (by kernel_rfl))
  f266 := Tryd.func113.trans (congrArg some (by kernel_rfl))
  f267 := Tryd.func104.trans (congrArg some (by kernel_rfl))
  f314 := Tryd.func114.trans (congrArg some (by kernel_rfl))
  t3 := Tryd.underlying3
  a3 := Tryd.isAgg3
  z3 := Tryd.sizeOf3
  v3 := Tryd.zeroValue3
  t4 := Tryd.underlying4
  a4 := Tryd.isAgg4
  z4 := Tryd.sizeOf4
  v4 := Tryd.zeroValue4
  t5 := Tryd.underlying5
  a5 := Tryd.isAgg5
  z5 := Tryd.sizeOf5
  v5 := Tryd.zeroValue5
  t9 := Tryd.underlying9
  a9 := Tryd.isAgg9
  z9 := Tryd.sizeOf9
  v9 := Tryd.zeroValue9
  t46 := Tryd.underlying115
  a46 := Tryd.isAgg115
  z46 := Tryd.sizeOf115
  v46 := Tryd.zeroValue115
  t51 := Tryd.underlying130
  a51 := Tryd.isAgg130
  z51 := Tryd.sizeOf130
  v51 := Tryd.zeroValue130
  t146 := Tryd.underlying134
  a146 := Tryd.isAgg134
  z146 := Tryd.sizeOf134
  v146 := Tryd.zeroValue134
  g1 := by kernel_rfl }
open Go.RowKit Go.Lib in
/-- internal/stringslite.Cut (what strings.Cut calls): IT RETURNS 'Lib.cut s sep'; the world is as it was but for the count of draws. (LAID: no walk: one application.) -/
theorem Tryd.stringslite_Cut (s sep : ByteArray) (m : Int) (w : World) (hs : s.size < 4294967281) (hm : w.cell? ⟨0, 0, none⟩ = some (.int .i64 m)) :
    Calls Tryd.prog 93 #[.string s, .string sep] w fun e w' => e = .returned (.tuple #[.string ⟨(Lib.cut s.data.toList sep.data.toList).1.toArray⟩, .string ⟨(Lib.cut s.data.toList sep.data.toList).2.1.toArray⟩, .bool (Lib.cut s.data.toList sep.data.toList).2.2]) ∧ ∃ n, w' = w.drewN n := Any.stringslite_Cut Tryd.lays220 s sep m w hs hm
def Tryd.lays145_ren : Go.Shelf.Ren := ⟨fun | 145 => 74 | 220 => 93 | 219 => 89 | 217 => 101 | 225 => 102 | 224 => 103 | 267 => 104 | 266 => 113 | 314 => 114 | n => n, fun | 9 => 9 | 4 => 4 | 59 => 97 | 3 => 3 | 5 => 5 | 46 => 115 | 146 => 134 | 51 => 130 | n => n, fun | 1 => 0 | n => n⟩
theorem Tryd.lays145 : Go.Proofs.Lays.n145 Tryd.prog Tryd.lays145_ren := {
  mixed := by kernel_rfl
  f145 := Tryd.func74.trans (congrArg some (by kernel_rfl))
  f217 := Tryd.func101.trans (congrArg some (by kernel_rfl))
  f219 := Tryd.func89.trans (congrArg some (by kernel_rfl))
  f220 := Tryd.func93.trans (congrArg some (by kernel_rfl))
  f224 := Tryd.func103.trans (congrArg some (by kernel_rfl))
  f225 := Tryd.func102.trans (congrArg some (by kernel_rfl))
  f266 := Tryd.func113.trans (congrArg some (by kernel_rfl))
  f267 := Tryd.func104.trans (congrArg some (by kernel_rfl))
  f314 := Tryd.func114.trans (congrArg some (by kernel_rfl))
  t3 := Tryd.underlying3
  a3 := Tryd.isAgg3
  z3 := Tryd.sizeOf3
  v3 := Tryd.zeroValue3
  t4 := Tryd.underlying4
  a4 := Tryd.isAgg4
  z4 := Tryd.sizeOf4
  v4 := Tryd.zeroValue4
  t5 := Tryd.underlying5
  a5 := Tryd.isAgg5
  z5 := Tryd.sizeOf5
  v5 := Tryd.zeroValue5
  t9 := Tryd.underlying9
  a9 := Tryd.isAgg9
  z9 := Tryd.sizeOf9
  v9 := Tryd.zeroValue9
  t46 := Tryd.underlying115
  a46 := Tryd.isAgg115
  z46 := Tryd.sizeOf115
  v46 := Tryd.zeroValue115
  t51 := Tryd.underlying130
  a51 := Tryd.isAgg130
  z51 := Tryd.sizeOf130
  v51 := Tryd.zeroValue130
  t59 := Tryd.underlying97
  a59 := Tryd.isAgg97
  z59 := Tryd.sizeOf97
  v59 := Tryd.zeroValue97
  t146 := Tryd.underlying134
  a146 := Tryd.isAgg134
  z146 := Tryd.sizeOf134
  v146 := Tryd.zeroValue134
  g1 := by kernel_rfl }
open Go.RowKit Go.Lib in
/-- strings.Cut: "Cut slices s around the first instance of sep, returning the text before and after sep. The found result reports whether sep appears in s. If sep does not appear in s, cut returns s, "", false.": IT RETURNS 'Lib.cut s sep'; the world is as it was but for the count of draws. (LAID: no walk: one application.) -/
theorem Tryd.strings_Cut (s sep : ByteArray) (m : Int) (w : World) (hs : s.size < 4294967281) (hm : w.cell? ⟨0, 0, none⟩ = some (.int .i64 m)) :
    Calls Tryd.prog 74 #[.string s, .string sep] w fun e w' => e = .returned (.tuple #[.string ⟨(Lib.cut s.data.toList sep.data.toList).1.toArray⟩, .string ⟨(Lib.cut s.data.toList sep.data.toList).2.1.toArray⟩, .bool (Lib.cut s.data.toList sep.data.toList).2.2]) ∧ ∃ n, w' = w.drewN n := Any.strings_Cut Tryd.lays145 s sep m w hs hm
def Tryd.lays138_ren : Go.Shelf.Ren := ⟨fun | 138 => 68 | 195 => 87 | 218 => 88 | 143 => 69 | 219 => 89 | 217 => 101 | 225 => 102 | 224 => 103 | 267 => 104 | 266 => 113 | 314 => 114 | n => n, fun | 9 => 9 | 3 => 3 | 4 => 4 | 5 => 5 | 0 => 0 | 46 => 115 | 146 => 134 | 51 => 130 | n => n, fun | 1 => 0 | n => n⟩
theorem Tryd.lays138 : Go.Proofs.Lays.n138 Tryd.prog Tryd.lays138_ren := {
  mixed := by kernel_rfl
  f138 := Tryd.func68.trans (congrArg some (by kernel_rfl))
  f143 := Tryd.func69.trans (congrArg some (by kernel_rfl))
  f195 := Tryd.func87.trans (congrArg some (by kernel_rfl))
  f217 := Tryd.func101.trans (congrArg some (by kernel_rfl))
  f218 := Tryd.func88.trans (congrArg some (by kernel_rfl))
  f219 := Tryd.func89.trans (congrArg some (by kernel_rfl))
  f224 := Tryd.func103.trans (congrArg some (by kernel_rfl))
  f225 := Tryd.func102.trans (congrArg some (by kernel_rfl))
  f266 := Tryd.func113.trans (congrArg some (by kernel_rfl))
  f267 := Tryd.func104.trans (congrArg some (by kernel_rfl))
  f314 := Tryd.func114.trans (congrArg some (by kernel_rfl))
  t0 := Tryd.underlying0
  a0 := Tryd.isAgg0
  z0 := Tryd.sizeOf0
  v0 := Tryd.zeroValue0
  t3 := Tryd.underlying3
  a3 := Tryd.isAgg3
  z3 := Tryd.sizeOf3
  v3 := Tryd.zeroValue3
  t4 := Tryd.underlying4
  a4 := Tryd.isAgg4
  z4 := Tryd.sizeOf4
  v4 := Tryd.zeroValue4
  t5 := Tryd.underlying5
  a5 := Tryd.isAgg5
  z5 := Tryd.sizeOf5
  v5 := Tryd.zeroValue5
  t9 := Tryd.underlying9
  a9 := Tryd.isAgg9
  z9 := Tryd.sizeOf9
  v9 := Tryd.zeroValue9
  t46 := Tryd.underlying115
  a46 := Tryd.isAgg115
  z46 := Tryd.sizeOf115
  v46 := Tryd.zeroValue115
  t51 := Tryd.underlying130
  a51 := Tryd.isAgg130
  z51 := Tryd.sizeOf130
  v51 := Tryd.zeroValue130
  t146 := Tryd.underlying134
  a146 := Tryd.isAgg134
  z146 := Tryd.sizeOf134
  v146 := Tryd.zeroValue134
  g1 := by kernel_rfl }
open Go.RowKit Go.Lib in
/-- strings.Count AT A substr OF ONE BYTE ('hp'): "Count counts the number of non-overlapping instances of substr in s.": IT RETURNS 'Lib.countByte s (that byte)'; the world is as it was. ✋ NO CONTRACT HERE YET at an empty substr (utf8.RuneCountInString) or at a longer one (a loop over strings.Index). (LAID: no walk: one application.) -/
theorem Tryd.strings_Count_one (s : ByteArray) (c : UInt8) (w : World) :
    Calls Tryd.prog 68 #[.string s, .string ⟨#[c]⟩] w fun e w' => e = .returned (.int .i64 (Lib.countByte s.data.toList c)) ∧ w' = w := Any.strings_Count_one Tryd.lays138 s c w
open Go.RowKit Go.Lib in
/-- strings.Count AT A substr OF TWO BYTES OR MORE: "Count counts the number of non-overlapping instances of substr in s.": IT RETURNS 'Lib.count s substr'; the world is as it was. (LAID: no walk: one application.) -/
theorem Tryd.strings_Count (s sub : ByteArray) (m : Int) (w : World) (hs : s.size < 4294967281) (hm : w.cell? ⟨0, 0, none⟩ = some (.int .i64 m)) (h2 : 2 ≤ sub.size) :
    Calls Tryd.prog 68 #[.string s, .string sub] w fun e w' => e = .returned (.int .i64 (Lib.countB s sub)) ∧ w' = w := Any.strings_Count Tryd.lays138 s sub m w hs hm h2
def Tryd.laysM219_ren : Go.Shelf.Ren := ⟨fun | 219 => 89 | 217 => 101 | 225 => 102 | 224 => 103 | 267 => 104 | 266 => 113 | 314 => 114 | n => n, fun | 9 => 9 | 3 => 3 | 4 => 4 | 5 => 5 | 46 => 115 | 146 => 134 | 51 => 130 | n => n, fun | 1 => 0 | n => n⟩
theorem Tryd.laysM219 : Go.Proofs.LaysM.n219 Tryd.prog Tryd.laysM219_ren := {
  mixed := by kernel_rfl
  f217 := Tryd.func101.trans (congrArg some (by kernel_rfl))
  f219 := Tryd.func89.trans (congrArg some (by kernel_rfl))
  f224 := Tryd.func103.trans (congrArg some (by kernel_rfl))
  f225 := Tryd.func102.trans (congrArg some (by kernel_rfl))
  f266 := Tryd.func113.trans (congrArg some (by kernel_rfl))
  f267 := Tryd.func104.trans (congrArg some (by kernel_rfl))
  f314 := Tryd.func114.trans (congrArg some (by kernel_rfl))
  t3 := Tryd.underlying3
  a3 := Tryd.isAgg3
  z3 := Tryd.sizeOf3
  v3 := Tryd.zeroValue3
  t4 := Tryd.underlying4
  a4 := Tryd.isAgg4
  z4 := Tryd.sizeOf4
  v4 := Tryd.zeroValue4
  t5 := Tryd.underlying5
  a5 := Tryd.isAgg5
  z5 := Tryd.sizeOf5
  v5 := Tryd.zeroValue5
  t9 := Tryd.underlying9
  a9 := Tryd.isAgg9
  z9 := Tryd.sizeOf9
  v9 := Tryd.zeroValue9
  t46 := Tryd.underlying115
  a46 := Tryd.isAgg115
  z46 := Tryd.sizeOf115
  v46 := Tryd.zeroValue115
  t51 := Tryd.underlying130
  a51 := Tryd.isAgg130
  z51 := Tryd.sizeOf130
  v51 := Tryd.zeroValue130
  t146 := Tryd.underlying134
  a146 := Tryd.isAgg134
  z146 := Tryd.sizeOf134
  v146 := Tryd.zeroValue134
  g1 := by kernel_rfl
  i3 := by kernel_rfl
  i4 := by kernel_rfl
  i5 := by kernel_rfl
  i9 := by kernel_rfl
  i46 := by kernel_rfl
  i51 := by kernel_rfl
  i146 := by kernel_rfl
  m1 := by kernel_rfl
  s1_3 := fun w h => Go.Proofs.cell_of_shapedOpen_int (zero := #[.int .i64 0]) (t := 3) h (of_decide_eq_true (by kernel_rfl)) (by kernel_rfl) rfl (by kernel_rfl) (by kernel_rfl) Tryd.underlying3 }
open Go.RowKit Go.Lib in
theorem Tryd.stringslite_Index_shaped (s sub : ByteArray) (w : World) (h : w.ShapedOpen Tryd.prog) (hs : s.size < 4294967281) :
    Calls Tryd.prog 89 #[.string s, .string sub] w fun e w' => e = .returned (.int .i64 (Lib.index s.data.toList sub.data.toList)) ∧ w' = w := Any.stringslite_Index_shaped Tryd.laysM219 s sub w h hs
def Tryd.laysM143_ren : Go.Shelf.Ren := ⟨fun | 143 => 69 | 219 => 89 | 217 => 101 | 225 => 102 | 224 => 103 | 267 => 104 | 266 => 113 | 314 => 114 | n => n, fun | 9 => 9 | 3 => 3 | 4 => 4 | 5 => 5 | 46 => 115 | 146 => 134 | 51 => 130 | n => n, fun | 1 => 0 | n => n⟩
theorem Tryd.laysM143 : Go.Proofs.LaysM.n143 Tryd.prog Tryd.laysM143_ren := {
  mixed := by kernel_rfl
  f143 := Tryd.func69.trans (congrArg some (by kernel_rfl))
  f217 := Tryd.func101.trans (congrArg some (by kernel_rfl))
  f219 := Tryd.func89.trans (congrArg some (by kernel_rfl))
  f224 := Tryd.func103.trans (congrArg some (by kernel_rfl))
  f225 := Tryd.func102.trans (congrArg some (by kernel_rfl))
  f266 := Tryd.func113.trans (congrArg some (by kernel_rfl))
  f267 := Tryd.func104.trans (congrArg some (by kernel_rfl))
  f314 := Tryd.func114.trans (congrArg some (by kernel_rfl))
  t3 := Tryd.underlying3
  a3 := Tryd.isAgg3
  z3 := Tryd.sizeOf3
  v3 := Tryd.zeroValue3
  t4 := Tryd.underlying4
  a4 := Tryd.isAgg4
  z4 := Tryd.sizeOf4
  v4 := Tryd.zeroValue4
  t5 := Tryd.underlying5
  a5 := Tryd.isAgg5
  z5 := Tryd.sizeOf5
  v5 := Tryd.zeroValue5
  t9 := Tryd.underlying9
  a9 := Tryd.isAgg9
  z9 := Tryd.sizeOf9
  v9 := Tryd.zeroValue9
  t46 := Tryd.underlying115
  a46 := Tryd.isAgg115
  z46 := Tryd.sizeOf115
  v46 := Tryd.zeroValue115
  t51 := Tryd.underlying130
  a51 := Tryd.isAgg130
  z51 := Tryd.sizeOf130
  v51 := Tryd.zeroValue130
  t146 := Tryd.underlying134
  a146 := Tryd.isAgg134
  z146 := Tryd.sizeOf134
  v146 := Tryd.zeroValue134
  g1 := by kernel_rfl
  i3 := by kernel_rfl
  i4 := by kernel_rfl
  i5 := by kernel_rfl
  i9 := by kernel_rfl
  i46 := by kernel_rfl
  i51 := by kernel_rfl
  i146 := by kernel_rfl
  m1 := by kernel_rfl
  s1_3 := fun w h => Go.Proofs.cell_of_shapedOpen_int (zero := #[.int .i64 0]) (t := 3) h (of_decide_eq_true (by kernel_rfl)) (by kernel_rfl) rfl (by kernel_rfl) (by kernel_rfl) Tryd.underlying3 }
open Go.RowKit Go.Lib in
theorem Tryd.strings_Index_shaped (s sub : ByteArray) (w : World) (h : w.ShapedOpen Tryd.prog) (hs : s.size < 4294967281) :
    Calls Tryd.prog 69 #[.string s, .string sub] w fun e w' => e = .returned (.int .i64 (Lib.index s.data.toList sub.data.toList)) ∧ w' = w := Any.strings_Index_shaped Tryd.laysM143 s sub w h hs
def Tryd.laysM220_ren : Go.Shelf.Ren := ⟨fun | 220 => 93 | 219 => 89 | 217 => 101 | 225 => 102 | 224 => 103 | 267 => 104 | 266 => 113 | 314 => 114 | n => n, fun | 9 => 9 | 4 => 4 | 3 => 3 | 5 => 5 | 46 => 115 | 146 => 134 | 51 => 130 | n => n, fun | 1 => 0 | n => n⟩
theorem Tryd.laysM220 : Go.Proofs.LaysM.n220 Tryd.prog Tryd.laysM220_ren := {
  mixed := by kernel_rfl
  f217 := Tryd.func101.trans (congrArg some (by kernel_rfl))
  f219 := Tryd.func89.trans (congrArg some (by kernel_rfl))
  f220 := Tryd.func93.trans (congrArg some (by kernel_rfl))
  f224 := Tryd.func103.trans (congrArg some (by kernel_rfl))
  f225 := Tryd.func102.trans (congrArg some (by kernel_rfl))
  f266 := Tryd.func113.trans (congrArg some (by kernel_rfl))
  f267 := Tryd.func104.trans (congrArg some (by kernel_rfl))
  f314 := Tryd.func114.trans (congrArg some (by kernel_rfl))
  t3 := Tryd.underlying3
  a3 := Tryd.isAgg3
  z3 := Tryd.sizeOf3
  v3 := Tryd.zeroValue3
  t4 := Tryd.underlying4
  a4 := Tryd.isAgg4
  z4 := Tryd.sizeOf4
  v4 := Tryd.zeroValue4
  t5 := Tryd.underlying5
  a5 := Tryd.isAgg5
  z5 := Tryd.sizeOf5
  v5 := Tryd.zeroValue5
  t9 := Tryd.underlying9
  a9 := Tryd.isAgg9
  z9 := Tryd.sizeOf9
  v9 := Tryd.zeroValue9
  t46 := Tryd.underlying115
  a46 := Tryd.isAgg115
  z46 := Tryd.sizeOf115
  v46 := Tryd.zeroValue115
  t51 := Tryd.underlying130
  a51 := Tryd.isAgg130
  z51 := Tryd.sizeOf130
  v51 := Tryd.zeroValue130
  t146 := Tryd.underlying134
  a146 := Tryd.isAgg134
  z146 := Tryd.sizeOf134
  v146 := Tryd.zeroValue134
  g1 := by kernel_rfl
  i3 := by kernel_rfl
  i4 := by kernel_rfl
  i5 := by kernel_rfl
  i9 := by kernel_rfl
  i46 := by kernel_rfl
  i51 := by kernel_rfl
  i146 := by kernel_rfl
  m1 := by kernel_rfl
  s1_3 := fun w h => Go.Proofs.cell_of_shapedOpen_int (zero := #[.int .i64 0]) (t := 3) h (of_decide_eq_true (by kernel_rfl)) (by kernel_rfl) rfl (by kernel_rfl) (by kernel_rfl) Tryd.underlying3 }
open Go.RowKit Go.Lib in
theorem Tryd.stringslite_Cut_shaped (s sep : ByteArray) (w : World) (h : w.ShapedOpen Tryd.prog) (hs : s.size < 4294967281) :
    Calls Tryd.prog 93 #[.string s, .string sep] w fun e w' => e = .returned (.tuple #[.string ⟨(Lib.cut s.data.toList sep.data.toList).1.toArray⟩, .string ⟨(Lib.cut s.data.toList sep.data.toList).2.1.toArray⟩, .bool (Lib.cut s.data.toList sep.data.toList).2.2]) ∧ ∃ n, w' = w.drewN n := Any.stringslite_Cut_shaped Tryd.laysM220 s sep w h hs
def Tryd.laysM145_ren : Go.Shelf.Ren := ⟨fun | 145 => 74 | 220 => 93 | 219 => 89 | 217 => 101 | 225 => 102 | 224 => 103 | 267 => 104 | 266 => 113 | 314 => 114 | n => n, fun | 9 => 9 | 4 => 4 | 59 => 97 | 3 => 3 | 5 => 5 | 46 => 115 | 146 => 134 | 51 => 130 | n => n, fun | 1 => 0 | n => n⟩
theorem Tryd.laysM145 : Go.Proofs.LaysM.n145 Tryd.prog Tryd.laysM145_ren := {
  mixed := by kernel_rfl
  f145 := Tryd.func74.trans (congrArg some (by kernel_rfl))
  f217 := Tryd.func101.trans (congrArg some (by kernel_rfl))
  f219 := Tryd.func89.trans (congrArg some (by kernel_rfl))
  f220 := Tryd.func93.trans (congrArg some (by kernel_rfl))
  f224 := Tryd.func103.trans (congrArg some (by kernel_rfl))
  f225 := Tryd.func102.trans (congrArg some (by kernel_rfl))
  f266 := Tryd.func113.trans (congrArg some (by kernel_rfl))
  f267 := Tryd.func104.trans (congrArg some (by kernel_rfl))
  f314 := Tryd.func114.trans (congrArg some (by kernel_rfl))
  t3 := Tryd.underlying3
  a3 := Tryd.isAgg3
  z3 := Tryd.sizeOf3
  v3 := Tryd.zeroValue3
  t4 := Tryd.underlying4
  a4 := Tryd.isAgg4
  z4 := Tryd.sizeOf4
  v4 := Tryd.zeroValue4
  t5 := Tryd.underlying5
  a5 := Tryd.isAgg5
  z5 := Tryd.sizeOf5
  v5 := Tryd.zeroValue5
  t9 := Tryd.underlying9
  a9 := Tryd.isAgg9
  z9 := Tryd.sizeOf9
  v9 := Tryd.zeroValue9
  t46 := Tryd.underlying115
  a46 := Tryd.isAgg115
  z46 := Tryd.sizeOf115
  v46 := Tryd.zeroValue115
  t51 := Tryd.underlying130
  a51 := Tryd.isAgg130
  z51 := Tryd.sizeOf130
  v51 := Tryd.zeroValue130
  t59 := Tryd.underlying97
  a59 := Tryd.isAgg97
  z59 := Tryd.sizeOf97
  v59 := Tryd.zeroValue97
  t146 := Tryd.underlying134
  a146 := Tryd.isAgg134
  z146 := Tryd.sizeOf134
  v146 := Tryd.zeroValue134
  g1 := by kernel_rfl
  i3 := by kernel_rfl
  i4 := by kernel_rfl
  i5 := by kernel_rfl
  i9 := by kernel_rfl
  i46 := by kernel_rfl
  i51 := by kernel_rfl
  i59 := by kernel_rfl
  i146 := by kernel_rfl
  m1 := by kernel_rfl
  s1_3 := fun w h => Go.Proofs.cell_of_shapedOpen_int (zero := #[.int .i64 0]) (t := 3) h (of_decide_eq_true (by kernel_rfl)) (by kernel_rfl) rfl (by kernel_rfl) (by kernel_rfl) Tryd.underlying3 }
open Go.RowKit Go.Lib in
theorem Tryd.strings_Cut_shaped (s sep : ByteArray) (w : World) (h : w.ShapedOpen Tryd.prog) (hs : s.size < 4294967281) :
    Calls Tryd.prog 74 #[.string s, .string sep] w fun e w' => e = .returned (.tuple #[.string ⟨(Lib.cut s.data.toList sep.data.toList).1.toArray⟩, .string ⟨(Lib.cut s.data.toList sep.data.toList).2.1.toArray⟩, .bool (Lib.cut s.data.toList sep.data.toList).2.2]) ∧ ∃ n, w' = w.drewN n := Any.strings_Cut_shaped Tryd.laysM145 s sep w h hs
def Tryd.laysM138_ren : Go.Shelf.Ren := ⟨fun | 138 => 68 | 195 => 87 | 218 => 88 | 143 => 69 | 219 => 89 | 217 => 101 | 225 => 102 | 224 => 103 | 267 => 104 | 266 => 113 | 314 => 114 | n => n, fun | 9 => 9 | 3 => 3 | 4 => 4 | 5 => 5 | 0 => 0 | 46 => 115 | 146 => 134 | 51 => 130 | n => n, fun | 1 => 0 | n => n⟩
theorem Tryd.laysM138 : Go.Proofs.LaysM.n138 Tryd.prog Tryd.laysM138_ren := {
  mixed := by kernel_rfl
  f138 := Tryd.func68.trans (congrArg some (by kernel_rfl))
  f143 := Tryd.func69.trans (congrArg some (by kernel_rfl))
  f195 := Tryd.func87.trans (congrArg some (by kernel_rfl))
  f217 := Tryd.func101.trans (congrArg some (by kernel_rfl))
  f218 := Tryd.func88.trans (congrArg some (by kernel_rfl))
  f219 := Tryd.func89.trans (congrArg some (by kernel_rfl))
  f224 := Tryd.func103.trans (congrArg some (by kernel_rfl))
  f225 := Tryd.func102.trans (congrArg some (by kernel_rfl))
  f266 := Tryd.func113.trans (congrArg some (by kernel_rfl))
  f267 := Tryd.func104.trans (congrArg some (by kernel_rfl))
  f314 := Tryd.func114.trans (congrArg some (by kernel_rfl))
  t0 := Tryd.underlying0
  a0 := Tryd.isAgg0
  z0 := Tryd.sizeOf0
  v0 := Tryd.zeroValue0
  t3 := Tryd.underlying3
  a3 := Tryd.isAgg3
  z3 := Tryd.sizeOf3
  v3 := Tryd.zeroValue3
  t4 := Tryd.underlying4
  a4 := Tryd.isAgg4
  z4 := Tryd.sizeOf4
  v4 := Tryd.zeroValue4
  t5 := Tryd.underlying5
  a5 := Tryd.isAgg5
  z5 := Tryd.sizeOf5
  v5 := Tryd.zeroValue5
  t9 := Tryd.underlying9
  a9 := Tryd.isAgg9
  z9 := Tryd.sizeOf9
  v9 := Tryd.zeroValue9
  t46 := Tryd.underlying115
  a46 := Tryd.isAgg115
  z46 := Tryd.sizeOf115
  v46 := Tryd.zeroValue115
  t51 := Tryd.underlying130
  a51 := Tryd.isAgg130
  z51 := Tryd.sizeOf130
  v51 := Tryd.zeroValue130
  t146 := Tryd.underlying134
  a146 := Tryd.isAgg134
  z146 := Tryd.sizeOf134
  v146 := Tryd.zeroValue134
  g1 := by kernel_rfl
  i0 := by kernel_rfl
  i3 := by kernel_rfl
  i4 := by kernel_rfl
  i5 := by kernel_rfl
  i9 := by kernel_rfl
  i46 := by kernel_rfl
  i51 := by kernel_rfl
  i146 := by kernel_rfl
  m1 := by kernel_rfl
  s1_3 := fun w h => Go.Proofs.cell_of_shapedOpen_int (zero := #[.int .i64 0]) (t := 3) h (of_decide_eq_true (by kernel_rfl)) (by kernel_rfl) rfl (by kernel_rfl) (by kernel_rfl) Tryd.underlying3 }
open Go.RowKit Go.Lib in
theorem Tryd.strings_Count_shaped (s sub : ByteArray) (w : World) (h : w.ShapedOpen Tryd.prog) (hs : s.size < 4294967281) (h2 : 2 ≤ sub.size) :
    Calls Tryd.prog 68 #[.string s, .string sub] w fun e w' => e = .returned (.int .i64 (Lib.countB s sub)) ∧ w' = w := Any.strings_Count_shaped Tryd.laysM138 s sub w h hs h2
open Go.RowKit Go.Lib in
/-- strings.Count at whatever sep that is not empty: the two roads under one statement. (LAID: no walk: one application.) -/
theorem Tryd.strings_Count_any (s sep : ByteArray) (m : Int) (w : World) (hs : s.size < 4294967281) (hm : w.cell? ⟨0, 0, none⟩ = some (.int .i64 m)) (h1 : 1 ≤ sep.size) :
    Calls Tryd.prog 68 #[.string s, .string sep] w fun e w' => e = .returned (.int .i64 (Lib.countB s sep)) ∧ w' = w := Any.strings_Count_any Tryd.lays138 s sep m w hs hm h1
def Tryd.lays221_ren : Go.Shelf.Ren := ⟨fun | 221 => 43 | 268 => 67 | 138 => 68 | 143 => 69 | 195 => 87 | 197 => 71 | 218 => 88 | 219 => 89 | 260 => 90 | 217 => 101 | 225 => 102 | 224 => 103 | 267 => 104 | 266 => 113 | 314 => 114 | n => n, fun | 9 => 9 | 3 => 3 | 31 => 35 | 4 => 4 | 0 => 0 | 105 => 94 | 21 => 21 | 5 => 5 | 46 => 115 | 119 => 124 | 139 => 127 | 138 => 126 | 146 => 134 | 51 => 130 | n => n, fun | 1 => 0 | 3 => 1 | 4 => 2 | n => n⟩
theorem Tryd.lays221 : Go.Proofs.Lays.n221 Tryd.prog Tryd.lays221_ren := {
  mixed := by kernel_rfl
  f138 := Tryd.func68.trans (congrArg some (by kernel_rfl))
  f143 := Tryd.func69.trans (congrArg some (by kernel_rfl))
  f195 := Tryd.func87.trans (congrArg some (by kernel_rfl))
  f197 := Tryd.func71.trans (congrArg some (by kernel_rfl))
  f217 := Tryd.func101.trans (congrArg some (by kernel_rfl))
  f218 := Tryd.func88.trans (congrArg some (by kernel_rfl))
  f219 := Tryd.func89.trans (congrArg some (by kernel_rfl))
  f221 := Tryd.func43.trans (congrArg some (by kernel_rfl))
  f224 := Tryd.func103.trans (congrArg some (by kernel_rfl))
  f225 := Tryd.func102.trans (congrArg some (by kernel_rfl))
  f260 := Tryd.func90.trans (congrArg some (by kernel_rfl))
  f266 := Tryd.func113.trans (congrArg some (by kernel_rfl))
  f267 := Tryd.func104.trans (congrArg some (by kernel_rfl))
  f268 := Tryd.func67.trans (congrArg some (by kernel_rfl))
  f314 := Tryd.func114.trans (congrArg some (by kernel_rfl))
  t0 := Tryd.underlying0
  a0 := Tryd.isAgg0
  z0 := Tryd.sizeOf0
  v0 := Tryd.zeroValue0
  t3 := Tryd.underlying3
  a3 := Tryd.isAgg3
  z3 := Tryd.sizeOf3
  v3 := Tryd.zeroValue3
  t4 := Tryd.underlying4
  a4 := Tryd.isAgg4
  z4 := Tryd.sizeOf4
  v4 := Tryd.zeroValue4
  t5 := Tryd.underlying5
  a5 := Tryd.isAgg5
  z5 := Tryd.sizeOf5
  v5 := Tryd.zeroValue5
  t9 := Tryd.underlying9
  a9 := Tryd.isAgg9
  z9 := Tryd.sizeOf9
  v9 := Tryd.zeroValue9
  t21 := Tryd.underlying21
  a21 := Tryd.isAgg21
  z21 := Tryd.sizeOf21
  v21 := Tryd.zeroValue21
  t31 := Tryd.underlying35
  a31 := Tryd.isAgg35
  z31 := Tryd.sizeOf35
  v31 := Tryd.zeroValue35
  t46 := Tryd.underlying115
  a46 := Tryd.isAgg115
  z46 := Tryd.sizeOf115
  v46 := Tryd.zeroValue115
  t51 := Tryd.underlying130
  a51 := Tryd.isAgg130
  z51 := Tryd.sizeOf130
  v51 := Tryd.zeroValue130
  t105 := Tryd.underlying94
  a105 := Tryd.isAgg94
  z105 := Tryd.sizeOf94
  v105 := Tryd.zeroValue94
  t119 := Tryd.underlying124
  a119 := Tryd.isAgg124
  z119 := Tryd.sizeOf124
  t138 := Tryd.underlying126
  a138 := Tryd.isAgg126
  z138 := Tryd.sizeOf126
  v138 := Tryd.zeroValue126
  t139 := Tryd.underlying127
  a139 := Tryd.isAgg127
  z139 := Tryd.sizeOf127
  v139 := Tryd.zeroValue127
  t146 := Tryd.underlying134
  a146 := Tryd.isAgg134
  z146 := Tryd.sizeOf134
  v146 := Tryd.zeroValue134
  g1 := by kernel_rfl
  g3 := by kernel_rfl
  g4 := by kernel_rfl }
open Go.RowKit Go.Lib in
theorem Tryd.strings_genSplit (s sep : ByteArray) (sv : Nat) (n : Int) (N : Nat) (m : Int) (w : World) (hs : s.size < 4294967281) (hm : w.cell? ⟨0, 0, none⟩ = some (.int .i64 m)) (h1 : 1 ≤ sep.size) (hsv : sv ≤ sep.size) (hn0 : n ≠ 0) (hn63 : n ≤ 9223372036854775807) (hN : (N : Int) = min (if n < 0 then (Lib.countB s sep : Int) + 1 else n) ((s.size : Int) + 1)) :
    Calls Tryd.prog 43 #[.string s, .string sep, .int .i64 sv, .int .i64 n] w fun e w' =>
      e = .returned (.slice (some ⟨w.heap.size, 0, none⟩) (Lib.splitB sep sv (N - 1) s).length N) ∧ w' = w.alloc (.cells (Lib.cellsOf (Lib.splitB sep sv (N - 1) s) N) 9) := Any.strings_genSplit Tryd.lays221 (by kernel_rfl) s sep sv n N m w hs hm h1 hsv hn0 hn63 hN
def Tryd.lays146_ren : Go.Shelf.Ren := ⟨fun | 146 => 23 | 221 => 43 | 268 => 67 | 138 => 68 | 143 => 69 | 195 => 87 | 197 => 71 | 218 => 88 | 219 => 89 | 260 => 90 | 217 => 101 | 225 => 102 | 224 => 103 | 267 => 104 | 266 => 113 | 314 => 114 | n => n, fun | 9 => 9 | 31 => 35 | 3 => 3 | 4 => 4 | 0 => 0 | 105 => 94 | 21 => 21 | 5 => 5 | 46 => 115 | 119 => 124 | 139 => 127 | 138 => 126 | 146 => 134 | 51 => 130 | n => n, fun | 1 => 0 | 3 => 1 | 4 => 2 | n => n⟩
theorem Tryd.lays146 : Go.Proofs.Lays.n146 Tryd.prog Tryd.lays146_ren := {
  mixed := by kernel_rfl
  f138 := Tryd.func68.trans (congrArg some (by kernel_rfl))
  f143 := Tryd.func69.trans (congrArg some (by kernel_rfl))
  f146 := Tryd.func23.trans (congrArg some (by kernel_rfl))
  f195 := Tryd.func87.trans (congrArg some (by kernel_rfl))
  f197 := Tryd.func71.trans (congrArg some (by kernel_rfl))
  f217 := Tryd.func101.trans (congrArg some (by kernel_rfl))
  f218 := Tryd.func88.trans (congrArg some (by kernel_rfl))
  f219 := Tryd.func89.trans (congrArg some (by kernel_rfl))
  f221 := Tryd.func43.trans (congrArg some (by kernel_rfl))
  f224 := Tryd.func103.trans (congrArg some (by kernel_rfl))
  f225 := Tryd.func102.trans (congrArg some (by kernel_rfl))
  f260 := Tryd.func90.trans (congrArg some (by kernel_rfl))
  f266 := Tryd.func113.trans (congrArg some (by kernel_rfl))
  f267 := Tryd.func104.trans (congrArg some (by kernel_rfl))
  f268 := Tryd.func67.trans (congrArg some (by kernel_rfl))
  f314 := Tryd.func114.trans (congrArg some (by kernel_rfl))
  t0 := Tryd.underlying0
  a0 := Tryd.isAgg0
  z0 := Tryd.sizeOf0
  v0 := Tryd.zeroValue0
  t3 := Tryd.underlying3
  a3 := Tryd.isAgg3
  z3 := Tryd.sizeOf3
  v3 := Tryd.zeroValue3
  t4 := Tryd.underlying4
  a4 := Tryd.isAgg4
  z4 := Tryd.sizeOf4
  v4 := Tryd.zeroValue4
  t5 := Tryd.underlying5
  a5 := Tryd.isAgg5
  z5 := Tryd.sizeOf5
  v5 := Tryd.zeroValue5
  t9 := Tryd.underlying9
  a9 := Tryd.isAgg9
  z9 := Tryd.sizeOf9
  v9 := Tryd.zeroValue9
  t21 := Tryd.underlying21
  a21 := Tryd.isAgg21
  z21 := Tryd.sizeOf21
  v21 := Tryd.zeroValue21
  t31 := Tryd.underlying35
  a31 := Tryd.isAgg35
  z31 := Tryd.sizeOf35
  v31 := Tryd.zeroValue35
  t46 := Tryd.underlying115
  a46 := Tryd.isAgg115
  z46 := Tryd.sizeOf115
  v46 := Tryd.zeroValue115
  t51 := Tryd.underlying130
  a51 := Tryd.isAgg130
  z51 := Tryd.sizeOf130
  v51 := Tryd.zeroValue130
  t105 := Tryd.underlying94
  a105 := Tryd.isAgg94
  z105 := Tryd.sizeOf94
  v105 := Tryd.zeroValue94
  t119 := Tryd.underlying124
  a119 := Tryd.isAgg124
  z119 := Tryd.sizeOf124
  t138 := Tryd.underlying126
  a138 := Tryd.isAgg126
  z138 := Tryd.sizeOf126
  v138 := Tryd.zeroValue126
  t139 := Tryd.underlying127
  a139 := Tryd.isAgg127
  z139 := Tryd.sizeOf127
  v139 := Tryd.zeroValue127
  t146 := Tryd.underlying134
  a146 := Tryd.isAgg134
  z146 := Tryd.sizeOf134
  v146 := Tryd.zeroValue134
  g1 := by kernel_rfl
  g3 := by kernel_rfl
  g4 := by kernel_rfl }
open Go.RowKit Go.Lib in
/-- strings.Split. (LAID: no walk: one application.) -/
theorem Tryd.strings_Split (s sep : ByteArray) (m : Int) (w : World) (hs : s.size < 4294967281) (hm : w.cell? ⟨0, 0, none⟩ = some (.int .i64 m)) (h1 : 1 ≤ sep.size) :
    Calls Tryd.prog 23 #[.string s, .string sep] w fun e w' =>
      e = .returned (.slice (some ⟨w.heap.size, 0, none⟩) (Lib.countB s sep + 1) (Lib.countB s sep + 1)) ∧ w' = w.alloc (.cells ((Lib.splitB sep 0 (Lib.countB s sep) s).map Value.string).toArray 9) := Any.strings_Split Tryd.lays146 (by kernel_rfl) s sep m w hs hm h1
def Tryd.laysM146_ren : Go.Shelf.Ren := ⟨fun | 146 => 23 | 221 => 43 | 268 => 67 | 138 => 68 | 143 => 69 | 195 => 87 | 197 => 71 | 218 => 88 | 219 => 89 | 260 => 90 | 217 => 101 | 225 => 102 | 224 => 103 | 267 => 104 | 266 => 113 | 314 => 114 | n => n, fun | 9 => 9 | 31 => 35 | 3 => 3 | 4 => 4 | 0 => 0 | 105 => 94 | 21 => 21 | 5 => 5 | 46 => 115 | 119 => 124 | 139 => 127 | 138 => 126 | 146 => 134 | 51 => 130 | n => n, fun | 1 => 0 | 3 => 1 | 4 => 2 | n => n⟩
theorem Tryd.laysM146 : Go.Proofs.LaysM.n146 Tryd.prog Tryd.laysM146_ren := {
  mixed := by kernel_rfl
  f138 := Tryd.func68.trans (congrArg some (by kernel_rfl))
  f143 := Tryd.func69.trans (congrArg some (by kernel_rfl))
  f146 := Tryd.func23.trans (congrArg some (by kernel_rfl))
  f195 := Tryd.func87.trans (congrArg some (by kernel_rfl))
  f197 := Tryd.func71.trans (congrArg some (by kernel_rfl))
  f217 := Tryd.func101.trans (congrArg some (by kernel_rfl))
  f218 := Tryd.func88.trans (congrArg some (by kernel_rfl))
  f219 := Tryd.func89.trans (congrArg some (by kernel_rfl))
  f221 := Tryd.func43.trans (congrArg some (by kernel_rfl))
  f224 := Tryd.func103.trans (congrArg some (by kernel_rfl))
  f225 := Tryd.func102.trans (congrArg some (by kernel_rfl))
  f260 := Tryd.func90.trans (congrArg some (by kernel_rfl))
  f266 := Tryd.func113.trans (congrArg some (by kernel_rfl))
  f267 := Tryd.func104.trans (congrArg some (by kernel_rfl))
  f268 := Tryd.func67.trans (congrArg some (by kernel_rfl))
  f314 := Tryd.func114.trans (congrArg some (by kernel_rfl))
  t0 := Tryd.underlying0
  a0 := Tryd.isAgg0
  z0 := Tryd.sizeOf0
  v0 := Tryd.zeroValue0
  t3 := Tryd.underlying3
  a3 := Tryd.isAgg3
  z3 := Tryd.sizeOf3
  v3 := Tryd.zeroValue3
  t4 := Tryd.underlying4
  a4 := Tryd.isAgg4
  z4 := Tryd.sizeOf4
  v4 := Tryd.zeroValue4
  t5 := Tryd.underlying5
  a5 := Tryd.isAgg5
  z5 := Tryd.sizeOf5
  v5 := Tryd.zeroValue5
  t9 := Tryd.underlying9
  a9 := Tryd.isAgg9
  z9 := Tryd.sizeOf9
  v9 := Tryd.zeroValue9
  t21 := Tryd.underlying21
  a21 := Tryd.isAgg21
  z21 := Tryd.sizeOf21
  v21 := Tryd.zeroValue21
  t31 := Tryd.underlying35
  a31 := Tryd.isAgg35
  z31 := Tryd.sizeOf35
  v31 := Tryd.zeroValue35
  t46 := Tryd.underlying115
  a46 := Tryd.isAgg115
  z46 := Tryd.sizeOf115
  v46 := Tryd.zeroValue115
  t51 := Tryd.underlying130
  a51 := Tryd.isAgg130
  z51 := Tryd.sizeOf130
  v51 := Tryd.zeroValue130
  t105 := Tryd.underlying94
  a105 := Tryd.isAgg94
  z105 := Tryd.sizeOf94
  v105 := Tryd.zeroValue94
  t119 := Tryd.underlying124
  a119 := Tryd.isAgg124
  z119 := Tryd.sizeOf124
  t138 := Tryd.underlying126
  a138 := Tryd.isAgg126
  z138 := Tryd.sizeOf126
  v138 := Tryd.zeroValue126
  t139 := Tryd.underlying127
  a139 := Tryd.isAgg127
  z139 := Tryd.sizeOf127
  v139 := Tryd.zeroValue127
  t146 := Tryd.underlying134
  a146 := Tryd.isAgg134
  z146 := Tryd.sizeOf134
  v146 := Tryd.zeroValue134
  g1 := by kernel_rfl
  g3 := by kernel_rfl
  g4 := by kernel_rfl
  i0 := by kernel_rfl
  i3 := by kernel_rfl
  i4 := by kernel_rfl
  i5 := by kernel_rfl
  i9 := by kernel_rfl
  i21 := by kernel_rfl
  i31 := by kernel_rfl
  i46 := by kernel_rfl
  i51 := by kernel_rfl
  i105 := by kernel_rfl
  i138 := by kernel_rfl
  i139 := by kernel_rfl
  i146 := by kernel_rfl
  m1 := by kernel_rfl
  s1_3 := fun w h => Go.Proofs.cell_of_shapedOpen_int (zero := #[.int .i64 0]) (t := 3) h (of_decide_eq_true (by kernel_rfl)) (by kernel_rfl) rfl (by kernel_rfl) (by kernel_rfl) Tryd.underlying3
  m3 := by kernel_rfl
  m4 := by kernel_rfl }
open Go.RowKit Go.Lib in
/-- strings.Split, sep not empty. (LAID: no walk: one application.) -/
theorem Tryd.strings_Split_shaped (s sep : ByteArray) (w : World) (h : w.ShapedOpen Tryd.prog) (hs : s.size < 4294967281) (h1 : 1 ≤ sep.size) :
    Calls Tryd.prog 23 #[.string s, .string sep] w fun e w' =>
      e = .returned (.slice (some ⟨w.heap.size, 0, none⟩) (Lib.countB s sep + 1) (Lib.countB s sep + 1)) ∧ w' = w.alloc (.cells ((Lib.splitB sep 0 (Lib.countB s sep) s).map Value.string).toArray 9) := Any.strings_Split_shaped Tryd.laysM146 s sep w h hs h1
def Tryd.lays152_ren : Go.Shelf.Ren := ⟨fun | 152 => 91 | 137 => 105 | 119 => 106 | 224 => 103 | 225 => 102 | 217 => 101 | 266 => 113 | n => n, fun | 9 => 9 | 21 => 21 | 3 => 3 | 4 => 4 | 5 => 5 | 0 => 0 | 46 => 115 | n => n, fun | n => n⟩
theorem Tryd.lays152 : Go.Proofs.Lays.n152 Tryd.prog Tryd.lays152_ren := {
  mixed := by kernel_rfl
  f119 := Tryd.func106.trans (congrArg some (by kernel_rfl))
  f137 := Tryd.func105.trans (congrArg some (by kernel_rfl))
  f152 := Tryd.func91.trans (congrArg some (by kernel_rfl))
  f217 := Tryd.func101.trans (congrArg some (by kernel_rfl))
  f224 := Tryd.func103.trans (congrArg some (by kernel_rfl))
  f225 := Tryd.func102.trans (congrArg some (by kernel_rfl))
  f266 := Tryd.func113.trans (congrArg some (by kernel_rfl))
  t0 := Tryd.underlying0
  a0 := Tryd.isAgg0
  z0 := Tryd.sizeOf0
  v0 := Tryd.zeroValue0
  t3 := Tryd.underlying3
  a3 := Tryd.isAgg3
  z3 := Tryd.sizeOf3
  v3 := Tryd.zeroValue3
  t4 := Tryd.underlying4
  a4 := Tryd.isAgg4
  z4 := Tryd.sizeOf4
  v4 := Tryd.zeroValue4
  t5 := Tryd.underlying5
  a5 := Tryd.isAgg5
  z5 := Tryd.sizeOf5
  v5 := Tryd.zeroValue5
  t9 := Tryd.underlying9
  a9 := Tryd.isAgg9
  z9 := Tryd.sizeOf9
  v9 := Tryd.zeroValue9
  t21 := Tryd.underlying21
  a21 := Tryd.isAgg21
  z21 := Tryd.sizeOf21
  v21 := Tryd.zeroValue21
  t46 := Tryd.underlying115
  a46 := Tryd.isAgg115
  z46 := Tryd.sizeOf115
  v46 := Tryd.zeroValue115 }
open Go.RowKit Go.Lib in
theorem Tryd.strings_IndexRune_ascii (s : ByteArray) (r : Int) (w : World) (h0 : 0 ≤ r) (h1 : r < 128) :
    Calls Tryd.prog 91 #[.string s, .int .i32 r] w fun e w' => e = .returned (.int .i64 (Lib.indexByte s.data.toList r.toNat.toUInt8)) ∧ w' = w := Any.strings_IndexRune_ascii Tryd.lays152 s r w h0 h1
def Tryd.lays151_ren : Go.Shelf.Ren := ⟨fun | 151 => 72 | 152 => 91 | 137 => 105 | 119 => 106 | 224 => 103 | 225 => 102 | 217 => 101 | 266 => 113 | n => n, fun | 9 => 9 | 21 => 21 | 4 => 4 | 3 => 3 | 5 => 5 | 0 => 0 | 46 => 115 | n => n, fun | n => n⟩
theorem Tryd.lays151 : Go.Proofs.Lays.n151 Tryd.prog Tryd.lays151_ren := {
  mixed := by kernel_rfl
  f119 := Tryd.func106.trans (congrArg some (by kernel_rfl))
  f137 := Tryd.func105.trans (congrArg some (by kernel_rfl))
  f151 := Tryd.func72.trans (congrArg some (by kernel_rfl))
  f152 := Tryd.func91.trans (congrArg some (by kernel_rfl))
  f217 := Tryd.func101.trans (congrArg some (by kernel_rfl))
  f224 := Tryd.func103.trans (congrArg some (by kernel_rfl))
  f225 := Tryd.func102.trans (congrArg some (by kernel_rfl))
  f266 := Tryd.func113.trans (congrArg some (by kernel_rfl))
  t0 := Tryd.underlying0
  a0 := Tryd.isAgg0
  z0 := Tryd.sizeOf0
  v0 := Tryd.zeroValue0
  t3 := Tryd.underlying3
  a3 := Tryd.isAgg3
  z3 := Tryd.sizeOf3
  v3 := Tryd.zeroValue3
  t4 := Tryd.underlying4
  a4 := Tryd.isAgg4
  z4 := Tryd.sizeOf4
  v4 := Tryd.zeroValue4
  t5 := Tryd.underlying5
  a5 := Tryd.isAgg5
  z5 := Tryd.sizeOf5
  v5 := Tryd.zeroValue5
  t9 := Tryd.underlying9
  a9 := Tryd.isAgg9
  z9 := Tryd.sizeOf9
  v9 := Tryd.zeroValue9
  t21 := Tryd.underlying21
  a21 := Tryd.isAgg21
  z21 := Tryd.sizeOf21
  v21 := Tryd.zeroValue21
  t46 := Tryd.underlying115
  a46 := Tryd.isAgg115
  z46 := Tryd.sizeOf115
  v46 := Tryd.zeroValue115 }
open Go.RowKit Go.Lib in
theorem Tryd.strings_ContainsRune_ascii (s : ByteArray) (r : Int) (w : World) (h0 : 0 ≤ r) (h1 : r < 128) :
    Calls Tryd.prog 72 #[.string s, .int .i32 r] w fun e w' => e = .returned (.bool (decide (0 ≤ Lib.indexByte s.data.toList r.toNat.toUInt8))) ∧ w' = w := Any.strings_ContainsRune_ascii Tryd.lays151 s r w h0 h1
def Tryd.lays227_ren : Go.Shelf.Ren := ⟨fun | 227 => 46 | n => n, fun | 9 => 9 | 116 => 78 | 4 => 4 | 0 => 0 | 3 => 3 | 5 => 5 | n => n, fun | n => n⟩
theorem Tryd.lays227 : Go.Proofs.Lays.n227 Tryd.prog Tryd.lays227_ren := {
  mixed := by kernel_rfl
  f227 := Tryd.func46.trans (congrArg some (by kernel_rfl))
  t0 := Tryd.underlying0
  a0 := Tryd.isAgg0
  z0 := Tryd.sizeOf0
  v0 := Tryd.zeroValue0
  t3 := Tryd.underlying3
  a3 := Tryd.isAgg3
  z3 := Tryd.sizeOf3
  v3 := Tryd.zeroValue3
  t4 := Tryd.underlying4
  a4 := Tryd.isAgg4
  z4 := Tryd.sizeOf4
  v4 := Tryd.zeroValue4
  t5 := Tryd.underlying5
  a5 := Tryd.isAgg5
  z5 := Tryd.sizeOf5
  v5 := Tryd.zeroValue5
  t9 := Tryd.underlying9
  a9 := Tryd.isAgg9
  z9 := Tryd.sizeOf9
  v9 := Tryd.zeroValue9
  t116 := Tryd.underlying78
  a116 := Tryd.isAgg78
  z116 := Tryd.sizeOf78 }
open Go.RowKit Go.Lib in
theorem Tryd.strings_makeASCIISet (hv116 : ∀ w, (zeroValue 78).run Tryd.prog w = .ok (.agg (Array.replicate 256 (.bool false))) w) (chars : ByteArray) (w : World) (hs : chars.size < 4294967281) (hascii : ∀ (j : Nat) b, chars.data.toList[j]? = some b → b.toNat < 128) :
    Calls Tryd.prog 46 #[.string chars] w fun e w' => e = .returned (.tuple #[.agg (Lib.setCells chars.data.toList), .bool true]) ∧ w' = w.alloc (.cells (Lib.setCells chars.data.toList) 78) := Any.strings_makeASCIISet Tryd.lays227 hv116 (by kernel_rfl) chars w hs hascii
def Tryd.lays228_ren : Go.Shelf.Ren := ⟨fun | 228 => 70 | n => n, fun | 124 => 82 | 5 => 5 | 4 => 4 | 0 => 0 | 116 => 78 | n => n, fun | n => n⟩
theorem Tryd.lays228 : Go.Proofs.Lays.n228 Tryd.prog Tryd.lays228_ren := {
  mixed := by kernel_rfl
  f228 := Tryd.func70.trans (congrArg some (by kernel_rfl))
  t0 := Tryd.underlying0
  a0 := Tryd.isAgg0
  z0 := Tryd.sizeOf0
  v0 := Tryd.zeroValue0
  t4 := Tryd.underlying4
  a4 := Tryd.isAgg4
  z4 := Tryd.sizeOf4
  v4 := Tryd.zeroValue4
  t5 := Tryd.underlying5
  a5 := Tryd.isAgg5
  z5 := Tryd.sizeOf5
  v5 := Tryd.zeroValue5
  t116 := Tryd.underlying78
  a116 := Tryd.isAgg78
  z116 := Tryd.sizeOf78
  t124 := Tryd.underlying82
  a124 := Tryd.isAgg82
  z124 := Tryd.sizeOf82
  v124 := Tryd.zeroValue82 }
open Go.RowKit Go.Lib in
/-- '(as *asciiSet) contains(c)': 'as[c]': the set lies at block b, whole. (LAID: no walk: one application.) -/
theorem Tryd.asciiSet_contains (b : Nat) (x : UInt8) (v : Bool) (w : World) (hc : w.cell? ⟨b, x.toNat, none⟩ = some (.bool v)) :
    Calls Tryd.prog 70 #[.pointer (some ⟨b, 0, none⟩), .int .u8 x.toNat] w fun e w' => e = .returned (.bool v) ∧ w' = w := Any.asciiSet_contains Tryd.lays228 b x v w hc
def Tryd.lays260_ren : Go.Shelf.Ren := ⟨fun | 260 => 90 | n => n, fun | 9 => 9 | 21 => 21 | 3 => 3 | 4 => 4 | 5 => 5 | 119 => 124 | 0 => 0 | 46 => 115 | 139 => 127 | 138 => 126 | n => n, fun | 3 => 1 | 4 => 2 | n => n⟩
theorem Tryd.lays260 : Go.Proofs.Lays.n260 Tryd.prog Tryd.lays260_ren := {
  mixed := by kernel_rfl
  f260 := Tryd.func90.trans (congrArg some (by kernel_rfl))
  t0 := Tryd.underlying0
  a0 := Tryd.isAgg0
  z0 := Tryd.sizeOf0
  v0 := Tryd.zeroValue0
  t3 := Tryd.underlying3
  a3 := Tryd.isAgg3
  z3 := Tryd.sizeOf3
  v3 := Tryd.zeroValue3
  t4 := Tryd.underlying4
  a4 := Tryd.isAgg4
  z4 := Tryd.sizeOf4
  v4 := Tryd.zeroValue4
  t5 := Tryd.underlying5
  a5 := Tryd.isAgg5
  z5 := Tryd.sizeOf5
  v5 := Tryd.zeroValue5
  t9 := Tryd.underlying9
  a9 := Tryd.isAgg9
  z9 := Tryd.sizeOf9
  v9 := Tryd.zeroValue9
  t21 := Tryd.underlying21
  a21 := Tryd.isAgg21
  z21 := Tryd.sizeOf21
  v21 := Tryd.zeroValue21
  t46 := Tryd.underlying115
  a46 := Tryd.isAgg115
  z46 := Tryd.sizeOf115
  v46 := Tryd.zeroValue115
  t119 := Tryd.underlying124
  a119 := Tryd.isAgg124
  z119 := Tryd.sizeOf124
  t138 := Tryd.underlying126
  a138 := Tryd.isAgg126
  z138 := Tryd.sizeOf126
  v138 := Tryd.zeroValue126
  t139 := Tryd.underlying127
  a139 := Tryd.isAgg127
  z139 := Tryd.sizeOf127
  v139 := Tryd.zeroValue127
  g3 := by kernel_rfl
  g4 := by kernel_rfl }
open Go.RowKit Go.Lib in
theorem Tryd.utf8_decodeRuneInStringSlow (s : ByteArray) (w : World) (hT : Lib.Utf8Tabs 1 2 w) :
    Calls Tryd.prog 90 #[.string s] w fun e w' => e = .returned (.tuple #[.int .i32 (Lib.decodeGo s).1, .int .i64 (Lib.decodeGo s).2]) ∧ Below w.heap.size w w' := Any.utf8_decodeRuneInStringSlow Tryd.lays260 s w hT
def Tryd.lays229_ren : Go.Shelf.Ren := ⟨fun | 229 => 75 | n => n, fun | 9 => 9 | 40 => 100 | 31 => 35 | 152 => 111 | 3 => 3 | 0 => 0 | 4 => 4 | 21 => 21 | 154 => 113 | n => n, fun | n => n⟩
theorem Tryd.lays229 : Go.Proofs.Lays.n229 Tryd.prog Tryd.lays229_ren := {
  mixed := by kernel_rfl
  f229 := Tryd.func75.trans (congrArg some (by kernel_rfl))
  t0 := Tryd.underlying0
  a0 := Tryd.isAgg0
  z0 := Tryd.sizeOf0
  v0 := Tryd.zeroValue0
  t3 := Tryd.underlying3
  a3 := Tryd.isAgg3
  z3 := Tryd.sizeOf3
  v3 := Tryd.zeroValue3
  t4 := Tryd.underlying4
  a4 := Tryd.isAgg4
  z4 := Tryd.sizeOf4
  v4 := Tryd.zeroValue4
  t9 := Tryd.underlying9
  a9 := Tryd.isAgg9
  z9 := Tryd.sizeOf9
  v9 := Tryd.zeroValue9
  t21 := Tryd.underlying21
  a21 := Tryd.isAgg21
  z21 := Tryd.sizeOf21
  v21 := Tryd.zeroValue21
  t31 := Tryd.underlying35
  a31 := Tryd.isAgg35
  z31 := Tryd.sizeOf35
  v31 := Tryd.zeroValue35
  t40 := Tryd.underlying100
  a40 := Tryd.isAgg100
  z40 := Tryd.sizeOf100
  v40 := Tryd.zeroValue100
  t152 := Tryd.underlying111
  a152 := Tryd.isAgg111
  z152 := Tryd.sizeOf111
  v152 := Tryd.zeroValue111
  t154 := Tryd.underlying113
  a154 := Tryd.isAgg113
  z154 := Tryd.sizeOf113
  v154 := Tryd.zeroValue113 }
open Go.RowKit Go.Lib in
theorem Tryd.strings_FieldsFunc_runes (g : Nat) (lb : Array Value) (eg : ∀ args w, (callFunc g args).run Tryd.prog w = .ok (.enter g args) w) (p : Nat → Bool) (s : ByteArray) (w : World) (hs : s.size ≤ 4294967296) (hp : PredAtRunes Tryd.prog g lb p w) :
    Calls Tryd.prog 75 #[.string s, .func (.func g) #[] lb] w fun e w' => ∃ A, e = .returned (.slice (some ⟨A, 0, none⟩) (Lib.goFieldsP p s).length (Lib.goFieldsP p s).length) ∧ w.heap.size ≤ A ∧
      w'.ownsRow w.heap.size 9 1 (.slice (some ⟨A, 0, none⟩) (Lib.goFieldsP p s).length (Lib.goFieldsP p s).length) (Lib.goFieldsP p s).length ((Lib.goFieldsP p s).map Value.string) ∧ Below w.heap.size w w' := Any.strings_FieldsFunc_runes Tryd.lays229 g lb eg p s w hs hp (by kernel_rfl) (by kernel_rfl)
open Go.RowKit Go.Lib in
/-- .. over a hand of the authors' house's premise as it stands. (LAID: no walk: one application.) -/
theorem Tryd.strings_FieldsFunc (g : Nat) (lb : Array Value) (eg : ∀ args w, (callFunc g args).run Tryd.prog w = .ok (.enter g args) w) (p : Nat → Bool) (s : ByteArray) (w : World) (hs : s.size ≤ 4294967296) (hp : PredAt Tryd.prog g lb encR p w) :
    Calls Tryd.prog 75 #[.string s, .func (.func g) #[] lb] w fun e w' => ∃ A, e = .returned (.slice (some ⟨A, 0, none⟩) (Lib.goFieldsP p s).length (Lib.goFieldsP p s).length) ∧ w.heap.size ≤ A ∧
      w'.ownsRow w.heap.size 9 1 (.slice (some ⟨A, 0, none⟩) (Lib.goFieldsP p s).length (Lib.goFieldsP p s).length) (Lib.goFieldsP p s).length ((Lib.goFieldsP p s).map Value.string) ∧ Below w.heap.size w w' := Any.strings_FieldsFunc Tryd.lays229 g lb eg p s w hs hp (by kernel_rfl) (by kernel_rfl)
def Tryd.laysNm216_ren : Go.Shelf.Ren := ⟨fun | 16 => 29 | n => n, fun | 24 => 35 | 9 => 9 | 4 => 4 | n => n, fun | n => n⟩
theorem Tryd.laysNm216 : Go.Proofs.Lays2.n16 Tryd.prog Tryd.laysNm216_ren := {
  mixed := by kernel_rfl
  f16 := Tryd.func29.trans (congrArg some (by kernel_rfl))
  t4 := Tryd.underlying4
  a4 := Tryd.isAgg4
  z4 := Tryd.sizeOf4
  v4 := Tryd.zeroValue4
  t9 := Tryd.underlying9
  a9 := Tryd.isAgg9
  z9 := Tryd.sizeOf9
  v9 := Tryd.zeroValue9
  t24 := Tryd.underlying35
  a24 := Tryd.isAgg35
  z24 := Tryd.sizeOf35
  v24 := Tryd.zeroValue35
  i9 := by kernel_rfl }
open Go.RowKit Go.Lib in
/-- slices.Clone at []string: "Clone returns a copy of the slice. The elements are copied using assignment, so this is a shallow clone. The result may have additional unused capacity. The result preserves the nilness of s.": OF A SLICE THAT IS NOT nil IT RETURNS A SLICE THAT IS NOT nil, OF THE SAME ELEMENTS, IN MEMORY OF THE CALL's OWN: in the how-to's words (6f): 'w'.ownsRow B e 1 v' n cells': v' begins at the head of a row among the blocks from B on (B: the heap's size at the call), not frozen, whose first cells are the elements · 'Below B w w'': below B all is as it was. The capacity is whatever the run-time gives. 'zs': what the cells behind the slice's address hold; 'zs.take n': its elements. (LAID: no walk: one application.) -/
theorem Tryd.slices_Clone_string (b off n c : Nat) (zs : List ByteArray) (w : World) (hz : n ≤ zs.length) (hbig : n * 16 ≤ 140737488355328) (hc : ∀ j, j < zs.length → w.cell? ⟨b, off + j, none⟩ = some (.string (zs.getD j ByteArray.empty))) :
    Calls Tryd.prog 29 #[.slice (some ⟨b, off, none⟩) n c] w fun e w' => ∃ v', e = .returned v' ∧ w'.ownsRow w.heap.size 9 1 v' n ((zs.take n).map (Value.string)) ∧ v' ≠ .slice none 0 0 ∧ Below w.heap.size w w' := Any.slices_Clone_string Tryd.laysNm216 b off n c zs w hz hbig hc
open Go.RowKit Go.Lib in
/-- The same at nil: nil comes back; the world is as it was. (LAID: no walk: one application.) -/
theorem Tryd.slices_Clone_string_nil (n c : Nat) (w : World) :
    Calls Tryd.prog 29 #[.slice none n c] w fun e w' => e = .returned (.slice none 0 0) ∧ w' = w := Any.slices_Clone_string_nil Tryd.laysNm216 n c w
open Go.RowKit Go.Lib in
/-- The same at a slice of length 0 that is not nil, WHATEVER ITS ADDRESS (no cell is asked for): a slice that is not nil and owns nothing comes back. (LAID: no walk: one application.) -/
theorem Tryd.slices_Clone_string_zero (a : Addr) (c : Nat) (w : World) :
    Calls Tryd.prog 29 #[.slice (some a) 0 c] w fun e w' => ∃ v', e = .returned v' ∧ w'.ownsRow w.heap.size 9 1 v' 0 [] ∧ v' ≠ .slice none 0 0 ∧ Below w.heap.size w w' := Any.slices_Clone_string_zero Tryd.laysNm216 a c w
end Go.Proofs
