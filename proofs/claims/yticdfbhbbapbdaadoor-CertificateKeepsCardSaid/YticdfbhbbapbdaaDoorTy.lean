/- What the abstract machine knows of the types of the program. -/
import Derived.Test.YticdfbhbbapbdaaDoorAmC
import Derived.Test.YticdfbhbbapbdaaDoorChecked
import Derived.WalkKit
namespace Go.Proofs.YticdfbhbbapbdaaDoor.Am
open Go.RowKit

theorem ty_1 : TyOk Tryd.prog 1 ⟨1, 8, .nilFunc, .other⟩ := ⟨by kernel_rfl, ⟨_, Tryd.underlying1, (fun h => h)⟩, rfl⟩
theorem ty_2 : TyOk Tryd.prog 2 ⟨1, 8, .int .i64 0, .int .i64⟩ := ⟨by kernel_rfl, ⟨_, Tryd.underlying2, rfl⟩, rfl⟩
theorem ty_3 : TyOk Tryd.prog 3 ⟨1, 8, .int .i64 0, .int .i64⟩ := ⟨by kernel_rfl, ⟨_, Tryd.underlying3, rfl⟩, rfl⟩
theorem ty_4 : TyOk Tryd.prog 4 ⟨1, 1, .bool false, .bool⟩ := ⟨by kernel_rfl, ⟨_, Tryd.underlying4, trivial⟩, rfl⟩
theorem ty_5 : TyOk Tryd.prog 5 ⟨1, 1, .int .u8 0, .int .u8⟩ := ⟨by kernel_rfl, ⟨_, Tryd.underlying5, rfl⟩, rfl⟩
theorem ty_6 : TyOk Tryd.prog 6 ⟨1, 1, .int .u8 0, .int .u8⟩ := ⟨by kernel_rfl, ⟨_, Tryd.underlying6, rfl⟩, rfl⟩
theorem ty_7 : TyOk Tryd.prog 7 ⟨4, 24, .agg #[.int .i64 0, .int .i64 0, .bool false, .int .u8 0], .struct [(0, 2), (1, 3), (2, 4), (3, 6)]⟩ := ⟨by kernel_rfl, ⟨_, Tryd.underlying7, rfl⟩, rfl⟩
theorem ty_8 : TyOk Tryd.prog 8 ⟨4, 24, .agg #[.int .i64 0, .int .i64 0, .bool false, .int .u8 0], .struct [(0, 2), (1, 3), (2, 4), (3, 6)]⟩ := ⟨by kernel_rfl, ⟨_, Tryd.underlying8, rfl⟩, rfl⟩
theorem ty_9 : TyOk Tryd.prog 9 ⟨1, 16, .string .empty, .str⟩ := ⟨by kernel_rfl, ⟨_, Tryd.underlying9, trivial⟩, rfl⟩
theorem ty_10 : TyOk Tryd.prog 10 ⟨1, 16, .string .empty, .str⟩ := ⟨by kernel_rfl, ⟨_, Tryd.underlying10, trivial⟩, rfl⟩
theorem ty_11 : TyOk Tryd.prog 11 ⟨1, 16, .string .empty, .str⟩ := ⟨by kernel_rfl, ⟨_, Tryd.underlying11, trivial⟩, rfl⟩
theorem ty_12 : TyOk Tryd.prog 12 ⟨1, 8, .int .u64 0, .int .u64⟩ := ⟨by kernel_rfl, ⟨_, Tryd.underlying12, rfl⟩, rfl⟩
theorem ty_13 : TyOk Tryd.prog 13 ⟨2, 24, .agg #[.string .empty, .int .u64 0], .struct [(0, 9), (1, 12)]⟩ := ⟨by kernel_rfl, ⟨_, Tryd.underlying13, rfl⟩, rfl⟩
theorem ty_14 : TyOk Tryd.prog 14 ⟨2, 24, .agg #[.string .empty, .int .u64 0], .struct [(0, 9), (1, 12)]⟩ := ⟨by kernel_rfl, ⟨_, Tryd.underlying14, rfl⟩, rfl⟩
theorem ty_15 : TyOk Tryd.prog 15 ⟨1, 8, .pointer none, .ptr⟩ := ⟨by kernel_rfl, ⟨_, Tryd.underlying15, trivial⟩, rfl⟩
theorem ty_16 : TyOk Tryd.prog 16 ⟨1, 8, .pointer none, .ptr⟩ := ⟨by kernel_rfl, ⟨_, Tryd.underlying16, trivial⟩, rfl⟩
theorem ty_17 : TyOk Tryd.prog 17 ⟨1, 8, .pointer none, .ptr⟩ := ⟨by kernel_rfl, ⟨_, Tryd.underlying17, trivial⟩, rfl⟩
theorem ty_18 : TyOk Tryd.prog 18 ⟨1, 8, .agg #[.pointer none], .struct [(0, 17)]⟩ := ⟨by kernel_rfl, ⟨_, Tryd.underlying18, rfl⟩, rfl⟩
theorem ty_19 : TyOk Tryd.prog 19 ⟨1, 8, .agg #[.pointer none], .struct [(0, 17)]⟩ := ⟨by kernel_rfl, ⟨_, Tryd.underlying19, rfl⟩, rfl⟩
theorem ty_20 : TyOk Tryd.prog 20 ⟨1, 16, .nilIface, .iface⟩ := ⟨by kernel_rfl, ⟨_, Tryd.underlying20, trivial⟩, rfl⟩
theorem ty_21 : TyOk Tryd.prog 21 ⟨1, 4, .int .i32 0, .int .i32⟩ := ⟨by kernel_rfl, ⟨_, Tryd.underlying21, rfl⟩, rfl⟩
theorem ty_22 : TyOk Tryd.prog 22 ⟨1, 8, .nilFunc, .other⟩ := ⟨by kernel_rfl, ⟨_, Tryd.underlying22, (fun h => h)⟩, rfl⟩
theorem ty_23 : TyOk Tryd.prog 23 ⟨1, 24, .slice none 0 0, .slice 45⟩ := ⟨by kernel_rfl, ⟨_, Tryd.underlying23, rfl⟩, rfl⟩
theorem ty_24 : TyOk Tryd.prog 24 ⟨2, 32, .agg #[.int .i64 0, .slice none 0 0], .struct [(0, 3), (1, 23)]⟩ := ⟨by kernel_rfl, ⟨_, Tryd.underlying24, rfl⟩, rfl⟩
theorem ty_25 : TyOk Tryd.prog 25 ⟨2, 32, .agg #[.int .i64 0, .slice none 0 0], .struct [(0, 3), (1, 23)]⟩ := ⟨by kernel_rfl, ⟨_, Tryd.underlying25, rfl⟩, rfl⟩
theorem ty_26 : TyOk Tryd.prog 26 ⟨1, 8, .nilFunc, .other⟩ := ⟨by kernel_rfl, ⟨_, Tryd.underlying26, (fun h => h)⟩, rfl⟩
theorem ty_27 : TyOk Tryd.prog 27 ⟨1, 16, .nilIface, .iface⟩ := ⟨by kernel_rfl, ⟨_, Tryd.underlying27, trivial⟩, rfl⟩
theorem ty_28 : TyOk Tryd.prog 28 ⟨1, 16, .nilIface, .iface⟩ := ⟨by kernel_rfl, ⟨_, Tryd.underlying28, trivial⟩, rfl⟩
theorem ty_29 : TyOk Tryd.prog 29 ⟨1, 8, .nilFunc, .other⟩ := ⟨by kernel_rfl, ⟨_, Tryd.underlying29, (fun h => h)⟩, rfl⟩
theorem ty_30 : TyOk Tryd.prog 30 ⟨1, 8, .nilFunc, .other⟩ := ⟨by kernel_rfl, ⟨_, Tryd.underlying30, (fun h => h)⟩, rfl⟩
theorem ty_31 : TyOk Tryd.prog 31 ⟨1, 8, .nilFunc, .other⟩ := ⟨by kernel_rfl, ⟨_, Tryd.underlying31, (fun h => h)⟩, rfl⟩
theorem ty_32 : TyOk Tryd.prog 32 ⟨1, 8, .nilFunc, .other⟩ := ⟨by kernel_rfl, ⟨_, Tryd.underlying32, (fun h => h)⟩, rfl⟩
theorem ty_34 : TyOk Tryd.prog 34 ⟨1, 8, .nilFunc, .other⟩ := ⟨by kernel_rfl, ⟨_, Tryd.underlying34, (fun h => h)⟩, rfl⟩
theorem ty_35 : TyOk Tryd.prog 35 ⟨1, 8, .nilFunc, .other⟩ := ⟨by kernel_rfl, ⟨_, Tryd.underlying35, (fun h => h)⟩, rfl⟩
theorem ty_36 : TyOk Tryd.prog 36 ⟨1, 24, .slice none 0 0, .slice 3⟩ := ⟨by kernel_rfl, ⟨_, Tryd.underlying36, rfl⟩, rfl⟩
theorem ty_37 : TyOk Tryd.prog 37 ⟨1, 8, .nilFunc, .other⟩ := ⟨by kernel_rfl, ⟨_, Tryd.underlying37, (fun h => h)⟩, rfl⟩
theorem ty_38 : TyOk Tryd.prog 38 ⟨1, 8, .nilFunc, .other⟩ := ⟨by kernel_rfl, ⟨_, Tryd.underlying38, (fun h => h)⟩, rfl⟩
theorem ty_39 : TyOk Tryd.prog 39 ⟨1, 8, .nilFunc, .other⟩ := ⟨by kernel_rfl, ⟨_, Tryd.underlying39, (fun h => h)⟩, rfl⟩
theorem ty_40 : TyOk Tryd.prog 40 ⟨1, 8, .nilFunc, .other⟩ := ⟨by kernel_rfl, ⟨_, Tryd.underlying40, (fun h => h)⟩, rfl⟩
theorem ty_41 : TyOk Tryd.prog 41 ⟨1, 8, .nilFunc, .other⟩ := ⟨by kernel_rfl, ⟨_, Tryd.underlying41, (fun h => h)⟩, rfl⟩
theorem ty_42 : TyOk Tryd.prog 42 ⟨1, 8, .nilFunc, .other⟩ := ⟨by kernel_rfl, ⟨_, Tryd.underlying42, (fun h => h)⟩, rfl⟩
theorem ty_43 : TyOk Tryd.prog 43 ⟨1, 24, .slice none 0 0, .slice 54⟩ := ⟨by kernel_rfl, ⟨_, Tryd.underlying43, rfl⟩, rfl⟩
theorem ty_44 : TyOk Tryd.prog 44 ⟨2, 32, .agg #[.slice none 0 0, .int .i64 0], .struct [(0, 43), (1, 3)]⟩ := ⟨by kernel_rfl, ⟨_, Tryd.underlying44, rfl⟩, rfl⟩
theorem ty_45 : TyOk Tryd.prog 45 ⟨2, 32, .agg #[.slice none 0 0, .int .i64 0], .struct [(0, 43), (1, 3)]⟩ := ⟨by kernel_rfl, ⟨_, Tryd.underlying45, rfl⟩, rfl⟩
theorem ty_46 : TyOk Tryd.prog 46 ⟨1, 8, .nilFunc, .other⟩ := ⟨by kernel_rfl, ⟨_, Tryd.underlying46, (fun h => h)⟩, rfl⟩
theorem ty_48 : TyOk Tryd.prog 48 ⟨1, 8, .nilFunc, .other⟩ := ⟨by kernel_rfl, ⟨_, Tryd.underlying48, (fun h => h)⟩, rfl⟩
theorem ty_50 : TyOk Tryd.prog 50 ⟨1, 8, .nilFunc, .other⟩ := ⟨by kernel_rfl, ⟨_, Tryd.underlying50, (fun h => h)⟩, rfl⟩
theorem ty_51 : TyOk Tryd.prog 51 ⟨1, 8, .nilFunc, .other⟩ := ⟨by kernel_rfl, ⟨_, Tryd.underlying51, (fun h => h)⟩, rfl⟩
theorem ty_52 : TyOk Tryd.prog 52 ⟨1, 8, .nilFunc, .other⟩ := ⟨by kernel_rfl, ⟨_, Tryd.underlying52, (fun h => h)⟩, rfl⟩
theorem ty_53 : TyOk Tryd.prog 53 ⟨2, 16, .agg #[.int .i64 0, .int .i64 0], .struct [(0, 3), (1, 3)]⟩ := ⟨by kernel_rfl, ⟨_, Tryd.underlying53, rfl⟩, rfl⟩
theorem ty_54 : TyOk Tryd.prog 54 ⟨2, 16, .agg #[.int .i64 0, .int .i64 0], .struct [(0, 3), (1, 3)]⟩ := ⟨by kernel_rfl, ⟨_, Tryd.underlying54, rfl⟩, rfl⟩
theorem ty_55 : TyOk Tryd.prog 55 ⟨1, 8, .int .i64 0, .int .i64⟩ := ⟨by kernel_rfl, ⟨_, Tryd.underlying55, rfl⟩, rfl⟩
theorem ty_57 : TyOk Tryd.prog 57 ⟨1, 8, .nilFunc, .other⟩ := ⟨by kernel_rfl, ⟨_, Tryd.underlying57, (fun h => h)⟩, rfl⟩
theorem ty_58 : TyOk Tryd.prog 58 ⟨1, 8, .pointer none, .ptr⟩ := ⟨by kernel_rfl, ⟨_, Tryd.underlying58, trivial⟩, rfl⟩
theorem ty_59 : TyOk Tryd.prog 59 ⟨1, 24, .slice none 0 0, .slice 5⟩ := ⟨by kernel_rfl, ⟨_, Tryd.underlying59, rfl⟩, rfl⟩
theorem ty_60 : TyOk Tryd.prog 60 ⟨2, 32, .agg #[.pointer none, .slice none 0 0], .struct [(0, 58), (1, 59)]⟩ := ⟨by kernel_rfl, ⟨_, Tryd.underlying60, rfl⟩, rfl⟩
theorem ty_61 : TyOk Tryd.prog 61 ⟨2, 32, .agg #[.pointer none, .slice none 0 0], .struct [(0, 58), (1, 59)]⟩ := ⟨by kernel_rfl, ⟨_, Tryd.underlying61, rfl⟩, rfl⟩
theorem ty_63 : TyOk Tryd.prog 63 ⟨1, 8, .nilFunc, .other⟩ := ⟨by kernel_rfl, ⟨_, Tryd.underlying63, (fun h => h)⟩, rfl⟩
theorem ty_64 : TyOk Tryd.prog 64 ⟨1, 8, .nilFunc, .other⟩ := ⟨by kernel_rfl, ⟨_, Tryd.underlying64, (fun h => h)⟩, rfl⟩
theorem ty_65 : TyOk Tryd.prog 65 ⟨1, 8, .nilFunc, .other⟩ := ⟨by kernel_rfl, ⟨_, Tryd.underlying65, (fun h => h)⟩, rfl⟩
theorem ty_66 : TyOk Tryd.prog 66 ⟨1, 8, .nilFunc, .other⟩ := ⟨by kernel_rfl, ⟨_, Tryd.underlying66, (fun h => h)⟩, rfl⟩
theorem ty_67 : TyOk Tryd.prog 67 ⟨1, 8, .nilFunc, .other⟩ := ⟨by kernel_rfl, ⟨_, Tryd.underlying67, (fun h => h)⟩, rfl⟩
theorem ty_68 : TyOk Tryd.prog 68 ⟨1, 8, .nilFunc, .other⟩ := ⟨by kernel_rfl, ⟨_, Tryd.underlying68, (fun h => h)⟩, rfl⟩
theorem ty_69 : TyOk Tryd.prog 69 ⟨1, 8, .nilFunc, .other⟩ := ⟨by kernel_rfl, ⟨_, Tryd.underlying69, (fun h => h)⟩, rfl⟩
theorem ty_70 : TyOk Tryd.prog 70 ⟨1, 8, .nilFunc, .other⟩ := ⟨by kernel_rfl, ⟨_, Tryd.underlying70, (fun h => h)⟩, rfl⟩
theorem ty_71 : TyOk Tryd.prog 71 ⟨1, 8, .nilFunc, .other⟩ := ⟨by kernel_rfl, ⟨_, Tryd.underlying71, (fun h => h)⟩, rfl⟩
theorem ty_72 : TyOk Tryd.prog 72 ⟨1, 8, .nilFunc, .other⟩ := ⟨by kernel_rfl, ⟨_, Tryd.underlying72, (fun h => h)⟩, rfl⟩
theorem ty_73 : TyOk Tryd.prog 73 ⟨1, 8, .nilFunc, .other⟩ := ⟨by kernel_rfl, ⟨_, Tryd.underlying73, (fun h => h)⟩, rfl⟩
theorem ty_74 : TyOk Tryd.prog 74 ⟨1, 8, .nilFunc, .other⟩ := ⟨by kernel_rfl, ⟨_, Tryd.underlying74, (fun h => h)⟩, rfl⟩
theorem ty_75 : TyOk Tryd.prog 75 ⟨1, 24, .slice none 0 0, .slice 9⟩ := ⟨by kernel_rfl, ⟨_, Tryd.underlying75, rfl⟩, rfl⟩
theorem ty_76 : TyOk Tryd.prog 76 ⟨1, 8, .nilFunc, .other⟩ := ⟨by kernel_rfl, ⟨_, Tryd.underlying76, (fun h => h)⟩, rfl⟩
theorem ty_78 : TyOk Tryd.prog 78 ⟨1, 8, .nilFunc, .other⟩ := ⟨by kernel_rfl, ⟨_, Tryd.underlying78, (fun h => h)⟩, rfl⟩
theorem ty_80 : TyOk Tryd.prog 80 ⟨1, 8, .nilFunc, .other⟩ := ⟨by kernel_rfl, ⟨_, Tryd.underlying80, (fun h => h)⟩, rfl⟩
theorem ty_82 : TyOk Tryd.prog 82 ⟨1, 8, .nilFunc, .other⟩ := ⟨by kernel_rfl, ⟨_, Tryd.underlying82, (fun h => h)⟩, rfl⟩
theorem ty_83 : TyOk Tryd.prog 83 ⟨1, 8, .pointer none, .ptr⟩ := ⟨by kernel_rfl, ⟨_, Tryd.underlying83, trivial⟩, rfl⟩
theorem ty_84 : TyOk Tryd.prog 84 ⟨1, 8, .nilFunc, .other⟩ := ⟨by kernel_rfl, ⟨_, Tryd.underlying84, (fun h => h)⟩, rfl⟩
theorem ty_85 : TyOk Tryd.prog 85 ⟨1, 8, .nilFunc, .other⟩ := ⟨by kernel_rfl, ⟨_, Tryd.underlying85, (fun h => h)⟩, rfl⟩
theorem ty_86 : TyOk Tryd.prog 86 ⟨1, 8, .nilFunc, .other⟩ := ⟨by kernel_rfl, ⟨_, Tryd.underlying86, (fun h => h)⟩, rfl⟩
theorem ty_87 : TyOk Tryd.prog 87 ⟨1, 8, .nilFunc, .other⟩ := ⟨by kernel_rfl, ⟨_, Tryd.underlying87, (fun h => h)⟩, rfl⟩
theorem ty_88 : TyOk Tryd.prog 88 ⟨1, 8, .nilFunc, .other⟩ := ⟨by kernel_rfl, ⟨_, Tryd.underlying88, (fun h => h)⟩, rfl⟩
theorem ty_90 : TyOk Tryd.prog 90 ⟨1, 8, .nilFunc, .other⟩ := ⟨by kernel_rfl, ⟨_, Tryd.underlying90, (fun h => h)⟩, rfl⟩
theorem ty_92 : TyOk Tryd.prog 92 ⟨1, 8, .nilFunc, .other⟩ := ⟨by kernel_rfl, ⟨_, Tryd.underlying92, (fun h => h)⟩, rfl⟩
theorem ty_93 : TyOk Tryd.prog 93 ⟨1, 8, .nilFunc, .other⟩ := ⟨by kernel_rfl, ⟨_, Tryd.underlying93, (fun h => h)⟩, rfl⟩
theorem ty_95 : TyOk Tryd.prog 95 ⟨1, 8, .nilFunc, .other⟩ := ⟨by kernel_rfl, ⟨_, Tryd.underlying95, (fun h => h)⟩, rfl⟩
theorem ty_97 : TyOk Tryd.prog 97 ⟨1, 8, .nilFunc, .other⟩ := ⟨by kernel_rfl, ⟨_, Tryd.underlying97, (fun h => h)⟩, rfl⟩
theorem ty_98 : TyOk Tryd.prog 98 ⟨1, 8, .nilFunc, .other⟩ := ⟨by kernel_rfl, ⟨_, Tryd.underlying98, (fun h => h)⟩, rfl⟩
theorem ty_99 : TyOk Tryd.prog 99 ⟨1, 8, .nilFunc, .other⟩ := ⟨by kernel_rfl, ⟨_, Tryd.underlying99, (fun h => h)⟩, rfl⟩
theorem ty_100 : TyOk Tryd.prog 100 ⟨1, 8, .nilFunc, .other⟩ := ⟨by kernel_rfl, ⟨_, Tryd.underlying100, (fun h => h)⟩, rfl⟩
theorem ty_101 : TyOk Tryd.prog 101 ⟨1, 8, .nilFunc, .other⟩ := ⟨by kernel_rfl, ⟨_, Tryd.underlying101, (fun h => h)⟩, rfl⟩
theorem ty_102 : TyOk Tryd.prog 102 ⟨1, 8, .nilFunc, .other⟩ := ⟨by kernel_rfl, ⟨_, Tryd.underlying102, (fun h => h)⟩, rfl⟩
theorem ty_103 : TyOk Tryd.prog 103 ⟨24, 24, .agg #[.int .u8 0, .int .u8 0, .int .u8 0, .int .u8 0, .int .u8 0, .int .u8 0, .int .u8 0, .int .u8 0, .int .u8 0, .int .u8 0, .int .u8 0, .int .u8 0, .int .u8 0, .int .u8 0, .int .u8 0, .int .u8 0, .int .u8 0, .int .u8 0, .int .u8 0, .int .u8 0, .int .u8 0, .int .u8 0, .int .u8 0, .int .u8 0], .array 24 5⟩ := ⟨by kernel_rfl, ⟨_, Tryd.underlying103, ⟨rfl, rfl⟩⟩, rfl⟩
theorem ty_104 : TyOk Tryd.prog 104 ⟨1, 8, .int .u64 0, .int .u64⟩ := ⟨by kernel_rfl, ⟨_, Tryd.underlying104, rfl⟩, rfl⟩
theorem ty_105 : TyOk Tryd.prog 105 ⟨1, 8, .nilFunc, .other⟩ := ⟨by kernel_rfl, ⟨_, Tryd.underlying105, (fun h => h)⟩, rfl⟩
theorem ty_106 : TyOk Tryd.prog 106 ⟨1, 8, .nilFunc, .other⟩ := ⟨by kernel_rfl, ⟨_, Tryd.underlying106, (fun h => h)⟩, rfl⟩
theorem ty_108 : TyOk Tryd.prog 108 ⟨1, 8, .nilFunc, .other⟩ := ⟨by kernel_rfl, ⟨_, Tryd.underlying108, (fun h => h)⟩, rfl⟩
theorem ty_109 : TyOk Tryd.prog 109 ⟨1, 8, .int .u64 0, .int .u64⟩ := ⟨by kernel_rfl, ⟨_, Tryd.underlying109, rfl⟩, rfl⟩
theorem ty_110 : TyOk Tryd.prog 110 ⟨1, 8, .nilFunc, .other⟩ := ⟨by kernel_rfl, ⟨_, Tryd.underlying110, (fun h => h)⟩, rfl⟩
theorem ty_112 : TyOk Tryd.prog 112 ⟨1, 8, .nilFunc, .other⟩ := ⟨by kernel_rfl, ⟨_, Tryd.underlying112, (fun h => h)⟩, rfl⟩
theorem ty_113 : TyOk Tryd.prog 113 ⟨1, 8, .nilFunc, .other⟩ := ⟨by kernel_rfl, ⟨_, Tryd.underlying113, (fun h => h)⟩, rfl⟩
theorem ty_114 : TyOk Tryd.prog 114 ⟨1, 8, .nilFunc, .other⟩ := ⟨by kernel_rfl, ⟨_, Tryd.underlying114, (fun h => h)⟩, rfl⟩
theorem ty_115 : TyOk Tryd.prog 115 ⟨1, 8, .nilFunc, .other⟩ := ⟨by kernel_rfl, ⟨_, Tryd.underlying115, (fun h => h)⟩, rfl⟩
theorem ty_116 : TyOk Tryd.prog 116 ⟨1, 8, .nilFunc, .other⟩ := ⟨by kernel_rfl, ⟨_, Tryd.underlying116, (fun h => h)⟩, rfl⟩
theorem ty_117 : TyOk Tryd.prog 117 ⟨20, 160, .agg #[.int .u64 0, .int .u64 0, .int .u64 0, .int .u64 0, .int .u64 0, .int .u64 0, .int .u64 0, .int .u64 0, .int .u64 0, .int .u64 0, .int .u64 0, .int .u64 0, .int .u64 0, .int .u64 0, .int .u64 0, .int .u64 0, .int .u64 0, .int .u64 0, .int .u64 0, .int .u64 0], .array 20 104⟩ := ⟨by kernel_rfl, ⟨_, Tryd.underlying117, ⟨rfl, rfl⟩⟩, rfl⟩
theorem ty_118 : TyOk Tryd.prog 118 ⟨1, 4, .int .u32 0, .int .u32⟩ := ⟨by kernel_rfl, ⟨_, Tryd.underlying118, rfl⟩, rfl⟩
theorem ty_120 : TyOk Tryd.prog 120 ⟨1, 8, .nilFunc, .other⟩ := ⟨by kernel_rfl, ⟨_, Tryd.underlying120, (fun h => h)⟩, rfl⟩
theorem ty_121 : TyOk Tryd.prog 121 ⟨1, 8, .nilFunc, .other⟩ := ⟨by kernel_rfl, ⟨_, Tryd.underlying121, (fun h => h)⟩, rfl⟩
theorem ty_123 : TyOk Tryd.prog 123 ⟨2, 2, .agg #[.int .u8 0, .int .u8 0], .struct [(0, 5), (1, 5)]⟩ := ⟨by kernel_rfl, ⟨_, Tryd.underlying123, rfl⟩, rfl⟩
theorem ty_124 : TyOk Tryd.prog 124 ⟨2, 2, .agg #[.int .u8 0, .int .u8 0], .struct [(0, 5), (1, 5)]⟩ := ⟨by kernel_rfl, ⟨_, Tryd.underlying124, rfl⟩, rfl⟩
theorem ty_125 : TyOk Tryd.prog 125 ⟨32, 32, .agg #[.int .u8 0, .int .u8 0, .int .u8 0, .int .u8 0, .int .u8 0, .int .u8 0, .int .u8 0, .int .u8 0, .int .u8 0, .int .u8 0, .int .u8 0, .int .u8 0, .int .u8 0, .int .u8 0, .int .u8 0, .int .u8 0, .int .u8 0, .int .u8 0, .int .u8 0, .int .u8 0, .int .u8 0, .int .u8 0, .int .u8 0, .int .u8 0, .int .u8 0, .int .u8 0, .int .u8 0, .int .u8 0, .int .u8 0, .int .u8 0, .int .u8 0, .int .u8 0], .array 16 124⟩ := ⟨by kernel_rfl, ⟨_, Tryd.underlying125, ⟨rfl, rfl⟩⟩, rfl⟩
theorem ty_127 : TyOk Tryd.prog 127 ⟨1, 8, .nilFunc, .other⟩ := ⟨by kernel_rfl, ⟨_, Tryd.underlying127, (fun h => h)⟩, rfl⟩
theorem ty_128 : TyOk Tryd.prog 128 ⟨32, 32, .agg #[.int .u8 0, .int .u8 0, .int .u8 0, .int .u8 0, .int .u8 0, .int .u8 0, .int .u8 0, .int .u8 0, .int .u8 0, .int .u8 0, .int .u8 0, .int .u8 0, .int .u8 0, .int .u8 0, .int .u8 0, .int .u8 0, .int .u8 0, .int .u8 0, .int .u8 0, .int .u8 0, .int .u8 0, .int .u8 0, .int .u8 0, .int .u8 0, .int .u8 0, .int .u8 0, .int .u8 0, .int .u8 0, .int .u8 0, .int .u8 0, .int .u8 0, .int .u8 0], .array 32 5⟩ := ⟨by kernel_rfl, ⟨_, Tryd.underlying128, ⟨rfl, rfl⟩⟩, rfl⟩
theorem ty_130 : TyOk Tryd.prog 130 ⟨4, 40, .agg #[.pointer none, .pointer none, .pointer none, .string .empty], .struct [(0, 17), (1, 17), (2, 17), (3, 9)]⟩ := ⟨by kernel_rfl, ⟨_, Tryd.underlying130, rfl⟩, rfl⟩
theorem ty_131 : TyOk Tryd.prog 131 ⟨4, 40, .agg #[.pointer none, .pointer none, .pointer none, .string .empty], .struct [(0, 17), (1, 17), (2, 17), (3, 9)]⟩ := ⟨by kernel_rfl, ⟨_, Tryd.underlying131, rfl⟩, rfl⟩
theorem ty_132 : TyOk Tryd.prog 132 ⟨0, 0, .agg #[], .array 0 16⟩ := ⟨by kernel_rfl, ⟨_, Tryd.underlying132, ⟨rfl, rfl⟩⟩, rfl⟩
theorem ty_133 : TyOk Tryd.prog 133 ⟨0, 0, .agg #[], .struct [(0, 132)]⟩ := ⟨by kernel_rfl, ⟨_, Tryd.underlying133, rfl⟩, rfl⟩
theorem ty_134 : TyOk Tryd.prog 134 ⟨0, 0, .agg #[], .struct [(0, 132)]⟩ := ⟨by kernel_rfl, ⟨_, Tryd.underlying134, rfl⟩, rfl⟩
theorem ty_135 : TyOk Tryd.prog 135 ⟨1, 1, .int .u8 0, .int .u8⟩ := ⟨by kernel_rfl, ⟨_, Tryd.underlying135, rfl⟩, rfl⟩
theorem ty_136 : TyOk Tryd.prog 136 ⟨1, 1, .int .u8 0, .int .u8⟩ := ⟨by kernel_rfl, ⟨_, Tryd.underlying136, rfl⟩, rfl⟩
theorem ty_137 : TyOk Tryd.prog 137 ⟨1, 8, .nilFunc, .other⟩ := ⟨by kernel_rfl, ⟨_, Tryd.underlying137, (fun h => h)⟩, rfl⟩
theorem ty_138 : TyOk Tryd.prog 138 ⟨1, 4, .int .i32 0, .int .i32⟩ := ⟨by kernel_rfl, ⟨_, Tryd.underlying138, rfl⟩, rfl⟩
theorem ty_139 : TyOk Tryd.prog 139 ⟨1, 4, .int .i32 0, .int .i32⟩ := ⟨by kernel_rfl, ⟨_, Tryd.underlying139, rfl⟩, rfl⟩
theorem ty_140 : TyOk Tryd.prog 140 ⟨11, 48, .agg #[.int .u64 0, .int .u64 0, .int .u32 0, .int .u8 0, .int .u8 0, .int .u8 0, .int .u8 0, .nilFunc, .pointer none, .int .i32 0, .int .i32 0], .struct [(0, 12), (1, 12), (2, 118), (3, 135), (4, 5), (5, 5), (6, 136), (7, 137), (8, 83), (9, 138), (10, 139)]⟩ := ⟨by kernel_rfl, ⟨_, Tryd.underlying140, rfl⟩, rfl⟩
theorem ty_141 : TyOk Tryd.prog 141 ⟨11, 48, .agg #[.int .u64 0, .int .u64 0, .int .u32 0, .int .u8 0, .int .u8 0, .int .u8 0, .int .u8 0, .nilFunc, .pointer none, .int .i32 0, .int .i32 0], .struct [(0, 12), (1, 12), (2, 118), (3, 135), (4, 5), (5, 5), (6, 136), (7, 137), (8, 83), (9, 138), (10, 139)]⟩ := ⟨by kernel_rfl, ⟨_, Tryd.underlying141, rfl⟩, rfl⟩
def allTy (P : Program) : Nat → List (Option TI) → Prop
  | _, [] => True
  | k, none :: r => allTy P (k + 1) r
  | k, some ti :: r => TyOk P k ti ∧ allTy P (k + 1) r
theorem allTy_at {P : Program} : ∀ {l : List (Option TI)} {k : Nat}, allTy P k l → ∀ (t : Nat) (ti : TI), l[t]? = some (some ti) → TyOk P (k + t) ti
  | [], _, _, t, ti, h => by simp at h
  | none :: r, k, ha, t, ti, h => by
    cases t with
    | zero => simp at h
    | succ t =>
      have := allTy_at (l := r) (k := k + 1) ha t ti (by simpa using h)
      rw [show k + (t + 1) = k + 1 + t from by omega]
      exact this
  | some x :: r, k, ha, t, ti, h => by
    cases t with
    | zero => simp at h; subst h; exact ha.1
    | succ t =>
      have := allTy_at (l := r) (k := k + 1) ha.2 t ti (by simpa using h)
      rw [show k + (t + 1) = k + 1 + t from by omega]
      exact this
def tyTab : List (Option TI) := [none,
  some ⟨1, 8, .nilFunc, .other⟩,
  some ⟨1, 8, .int .i64 0, .int .i64⟩,
  some ⟨1, 8, .int .i64 0, .int .i64⟩,
  some ⟨1, 1, .bool false, .bool⟩,
  some ⟨1, 1, .int .u8 0, .int .u8⟩,
  some ⟨1, 1, .int .u8 0, .int .u8⟩,
  some ⟨4, 24, .agg #[.int .i64 0, .int .i64 0, .bool false, .int .u8 0], .struct [(0, 2), (1, 3), (2, 4), (3, 6)]⟩,
  some ⟨4, 24, .agg #[.int .i64 0, .int .i64 0, .bool false, .int .u8 0], .struct [(0, 2), (1, 3), (2, 4), (3, 6)]⟩,
  some ⟨1, 16, .string .empty, .str⟩,
  some ⟨1, 16, .string .empty, .str⟩,
  some ⟨1, 16, .string .empty, .str⟩,
  some ⟨1, 8, .int .u64 0, .int .u64⟩,
  some ⟨2, 24, .agg #[.string .empty, .int .u64 0], .struct [(0, 9), (1, 12)]⟩,
  some ⟨2, 24, .agg #[.string .empty, .int .u64 0], .struct [(0, 9), (1, 12)]⟩,
  some ⟨1, 8, .pointer none, .ptr⟩,
  some ⟨1, 8, .pointer none, .ptr⟩,
  some ⟨1, 8, .pointer none, .ptr⟩,
  some ⟨1, 8, .agg #[.pointer none], .struct [(0, 17)]⟩,
  some ⟨1, 8, .agg #[.pointer none], .struct [(0, 17)]⟩,
  some ⟨1, 16, .nilIface, .iface⟩,
  some ⟨1, 4, .int .i32 0, .int .i32⟩,
  some ⟨1, 8, .nilFunc, .other⟩,
  some ⟨1, 24, .slice none 0 0, .slice 45⟩,
  some ⟨2, 32, .agg #[.int .i64 0, .slice none 0 0], .struct [(0, 3), (1, 23)]⟩,
  some ⟨2, 32, .agg #[.int .i64 0, .slice none 0 0], .struct [(0, 3), (1, 23)]⟩,
  some ⟨1, 8, .nilFunc, .other⟩,
  some ⟨1, 16, .nilIface, .iface⟩,
  some ⟨1, 16, .nilIface, .iface⟩,
  some ⟨1, 8, .nilFunc, .other⟩,
  some ⟨1, 8, .nilFunc, .other⟩,
  some ⟨1, 8, .nilFunc, .other⟩,
  some ⟨1, 8, .nilFunc, .other⟩,
  none,
  some ⟨1, 8, .nilFunc, .other⟩,
  some ⟨1, 8, .nilFunc, .other⟩,
  some ⟨1, 24, .slice none 0 0, .slice 3⟩,
  some ⟨1, 8, .nilFunc, .other⟩,
  some ⟨1, 8, .nilFunc, .other⟩,
  some ⟨1, 8, .nilFunc, .other⟩,
  some ⟨1, 8, .nilFunc, .other⟩,
  some ⟨1, 8, .nilFunc, .other⟩,
  some ⟨1, 8, .nilFunc, .other⟩,
  some ⟨1, 24, .slice none 0 0, .slice 54⟩,
  some ⟨2, 32, .agg #[.slice none 0 0, .int .i64 0], .struct [(0, 43), (1, 3)]⟩,
  some ⟨2, 32, .agg #[.slice none 0 0, .int .i64 0], .struct [(0, 43), (1, 3)]⟩,
  some ⟨1, 8, .nilFunc, .other⟩,
  none,
  some ⟨1, 8, .nilFunc, .other⟩,
  none,
  some ⟨1, 8, .nilFunc, .other⟩,
  some ⟨1, 8, .nilFunc, .other⟩,
  some ⟨1, 8, .nilFunc, .other⟩,
  some ⟨2, 16, .agg #[.int .i64 0, .int .i64 0], .struct [(0, 3), (1, 3)]⟩,
  some ⟨2, 16, .agg #[.int .i64 0, .int .i64 0], .struct [(0, 3), (1, 3)]⟩,
  some ⟨1, 8, .int .i64 0, .int .i64⟩,
  none,
  some ⟨1, 8, .nilFunc, .other⟩,
  some ⟨1, 8, .pointer none, .ptr⟩,
  some ⟨1, 24, .slice none 0 0, .slice 5⟩,
  some ⟨2, 32, .agg #[.pointer none, .slice none 0 0], .struct [(0, 58), (1, 59)]⟩,
  some ⟨2, 32, .agg #[.pointer none, .slice none 0 0], .struct [(0, 58), (1, 59)]⟩,
  none,
  some ⟨1, 8, .nilFunc, .other⟩,
  some ⟨1, 8, .nilFunc, .other⟩,
  some ⟨1, 8, .nilFunc, .other⟩,
  some ⟨1, 8, .nilFunc, .other⟩,
  some ⟨1, 8, .nilFunc, .other⟩,
  some ⟨1, 8, .nilFunc, .other⟩,
  some ⟨1, 8, .nilFunc, .other⟩,
  some ⟨1, 8, .nilFunc, .other⟩,
  some ⟨1, 8, .nilFunc, .other⟩,
  some ⟨1, 8, .nilFunc, .other⟩,
  some ⟨1, 8, .nilFunc, .other⟩,
  some ⟨1, 8, .nilFunc, .other⟩,
  some ⟨1, 24, .slice none 0 0, .slice 9⟩,
  some ⟨1, 8, .nilFunc, .other⟩,
  none,
  some ⟨1, 8, .nilFunc, .other⟩,
  none,
  some ⟨1, 8, .nilFunc, .other⟩,
  none,
  some ⟨1, 8, .nilFunc, .other⟩,
  some ⟨1, 8, .pointer none, .ptr⟩,
  some ⟨1, 8, .nilFunc, .other⟩,
  some ⟨1, 8, .nilFunc, .other⟩,
  some ⟨1, 8, .nilFunc, .other⟩,
  some ⟨1, 8, .nilFunc, .other⟩,
  some ⟨1, 8, .nilFunc, .other⟩,
  none,
  some ⟨1, 8, .nilFunc, .other⟩,
  none,
  some ⟨1, 8, .nilFunc, .other⟩,
  some ⟨1, 8, .nilFunc, .other⟩,
  none,
  some ⟨1, 8, .nilFunc, .other⟩,
  none,
  some ⟨1, 8, .nilFunc, .other⟩,
  some ⟨1, 8, .nilFunc, .other⟩,
  some ⟨1, 8, .nilFunc, .other⟩,
  some ⟨1, 8, .nilFunc, .other⟩,
  some ⟨1, 8, .nilFunc, .other⟩,
  some ⟨1, 8, .nilFunc, .other⟩,
  some ⟨24, 24, .agg #[.int .u8 0, .int .u8 0, .int .u8 0, .int .u8 0, .int .u8 0, .int .u8 0, .int .u8 0, .int .u8 0, .int .u8 0, .int .u8 0, .int .u8 0, .int .u8 0, .int .u8 0, .int .u8 0, .int .u8 0, .int .u8 0, .int .u8 0, .int .u8 0, .int .u8 0, .int .u8 0, .int .u8 0, .int .u8 0, .int .u8 0, .int .u8 0], .array 24 5⟩,
  some ⟨1, 8, .int .u64 0, .int .u64⟩,
  some ⟨1, 8, .nilFunc, .other⟩,
  some ⟨1, 8, .nilFunc, .other⟩,
  none,
  some ⟨1, 8, .nilFunc, .other⟩,
  some ⟨1, 8, .int .u64 0, .int .u64⟩,
  some ⟨1, 8, .nilFunc, .other⟩,
  none,
  some ⟨1, 8, .nilFunc, .other⟩,
  some ⟨1, 8, .nilFunc, .other⟩,
  some ⟨1, 8, .nilFunc, .other⟩,
  some ⟨1, 8, .nilFunc, .other⟩,
  some ⟨1, 8, .nilFunc, .other⟩,
  some ⟨20, 160, .agg #[.int .u64 0, .int .u64 0, .int .u64 0, .int .u64 0, .int .u64 0, .int .u64 0, .int .u64 0, .int .u64 0, .int .u64 0, .int .u64 0, .int .u64 0, .int .u64 0, .int .u64 0, .int .u64 0, .int .u64 0, .int .u64 0, .int .u64 0, .int .u64 0, .int .u64 0, .int .u64 0], .array 20 104⟩,
  some ⟨1, 4, .int .u32 0, .int .u32⟩,
  none,
  some ⟨1, 8, .nilFunc, .other⟩,
  some ⟨1, 8, .nilFunc, .other⟩,
  none,
  some ⟨2, 2, .agg #[.int .u8 0, .int .u8 0], .struct [(0, 5), (1, 5)]⟩,
  some ⟨2, 2, .agg #[.int .u8 0, .int .u8 0], .struct [(0, 5), (1, 5)]⟩,
  some ⟨32, 32, .agg #[.int .u8 0, .int .u8 0, .int .u8 0, .int .u8 0, .int .u8 0, .int .u8 0, .int .u8 0, .int .u8 0, .int .u8 0, .int .u8 0, .int .u8 0, .int .u8 0, .int .u8 0, .int .u8 0, .int .u8 0, .int .u8 0, .int .u8 0, .int .u8 0, .int .u8 0, .int .u8 0, .int .u8 0, .int .u8 0, .int .u8 0, .int .u8 0, .int .u8 0, .int .u8 0, .int .u8 0, .int .u8 0, .int .u8 0, .int .u8 0, .int .u8 0, .int .u8 0], .array 16 124⟩,
  none,
  some ⟨1, 8, .nilFunc, .other⟩,
  some ⟨32, 32, .agg #[.int .u8 0, .int .u8 0, .int .u8 0, .int .u8 0, .int .u8 0, .int .u8 0, .int .u8 0, .int .u8 0, .int .u8 0, .int .u8 0, .int .u8 0, .int .u8 0, .int .u8 0, .int .u8 0, .int .u8 0, .int .u8 0, .int .u8 0, .int .u8 0, .int .u8 0, .int .u8 0, .int .u8 0, .int .u8 0, .int .u8 0, .int .u8 0, .int .u8 0, .int .u8 0, .int .u8 0, .int .u8 0, .int .u8 0, .int .u8 0, .int .u8 0, .int .u8 0], .array 32 5⟩,
  none,
  some ⟨4, 40, .agg #[.pointer none, .pointer none, .pointer none, .string .empty], .struct [(0, 17), (1, 17), (2, 17), (3, 9)]⟩,
  some ⟨4, 40, .agg #[.pointer none, .pointer none, .pointer none, .string .empty], .struct [(0, 17), (1, 17), (2, 17), (3, 9)]⟩,
  some ⟨0, 0, .agg #[], .array 0 16⟩,
  some ⟨0, 0, .agg #[], .struct [(0, 132)]⟩,
  some ⟨0, 0, .agg #[], .struct [(0, 132)]⟩,
  some ⟨1, 1, .int .u8 0, .int .u8⟩,
  some ⟨1, 1, .int .u8 0, .int .u8⟩,
  some ⟨1, 8, .nilFunc, .other⟩,
  some ⟨1, 4, .int .i32 0, .int .i32⟩,
  some ⟨1, 4, .int .i32 0, .int .i32⟩,
  some ⟨11, 48, .agg #[.int .u64 0, .int .u64 0, .int .u32 0, .int .u8 0, .int .u8 0, .int .u8 0, .int .u8 0, .nilFunc, .pointer none, .int .i32 0, .int .i32 0], .struct [(0, 12), (1, 12), (2, 118), (3, 135), (4, 5), (5, 5), (6, 136), (7, 137), (8, 83), (9, 138), (10, 139)]⟩,
  some ⟨11, 48, .agg #[.int .u64 0, .int .u64 0, .int .u32 0, .int .u8 0, .int .u8 0, .int .u8 0, .int .u8 0, .nilFunc, .pointer none, .int .i32 0, .int .i32 0], .struct [(0, 12), (1, 12), (2, 118), (3, 135), (4, 5), (5, 5), (6, 136), (7, 137), (8, 83), (9, 138), (10, 139)]⟩]
theorem tyAll : allTy Tryd.prog 0 tyTab := ⟨ty_1, ty_2, ty_3, ty_4, ty_5, ty_6, ty_7, ty_8, ty_9, ty_10, ty_11, ty_12, ty_13, ty_14, ty_15, ty_16, ty_17, ty_18, ty_19, ty_20, ty_21, ty_22, ty_23, ty_24, ty_25, ty_26, ty_27, ty_28, ty_29, ty_30, ty_31, ty_32, ty_34, ty_35, ty_36, ty_37, ty_38, ty_39, ty_40, ty_41, ty_42, ty_43, ty_44, ty_45, ty_46, ty_48, ty_50, ty_51, ty_52, ty_53, ty_54, ty_55, ty_57, ty_58, ty_59, ty_60, ty_61, ty_63, ty_64, ty_65, ty_66, ty_67, ty_68, ty_69, ty_70, ty_71, ty_72, ty_73, ty_74, ty_75, ty_76, ty_78, ty_80, ty_82, ty_83, ty_84, ty_85, ty_86, ty_87, ty_88, ty_90, ty_92, ty_93, ty_95, ty_97, ty_98, ty_99, ty_100, ty_101, ty_102, ty_103, ty_104, ty_105, ty_106, ty_108, ty_109, ty_110, ty_112, ty_113, ty_114, ty_115, ty_116, ty_117, ty_118, ty_120, ty_121, ty_123, ty_124, ty_125, ty_127, ty_128, ty_130, ty_131, ty_132, ty_133, ty_134, ty_135, ty_136, ty_137, ty_138, ty_139, ty_140, ty_141, trivial⟩
theorem tyTab_ok (t : Nat) (ti : TI) (h : tyTab[t]? = some (some ti)) : TyOk Tryd.prog t ti := by
  have := allTy_at tyAll t ti h
  rwa [Nat.zero_add] at this
end Go.Proofs.YticdfbhbbapbdaaDoor.Am
