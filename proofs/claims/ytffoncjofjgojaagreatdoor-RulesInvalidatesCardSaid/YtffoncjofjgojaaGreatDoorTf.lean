/- Facts on the types of this translation, laid by a program of our own. -/
import Derived.Test.YtffoncjofjgojaaGreatDoorEg
import Derived.Test.YtffoncjofjgojaaGreatDoorRows
import Derived.KernelRfl
set_option linter.all false
namespace Go.Av
open Go.Proofs
@[simp] theorem tyAgg_3 : tyAgg Tryz.prog 3 = some false := by kernel_rfl
@[simp] theorem tySize_3 : tySize Tryz.prog 3 = some 1 := by kernel_rfl
@[simp] theorem isSomeT_3 : Av.isSome Tryz.prog 3 = true := by kernel_rfl
@[simp] theorem intOfT_3 : Av.intOf Tryz.prog 3 = some .i64 := by kernel_rfl
@[simp] theorem tyAgg_4 : tyAgg Tryz.prog 4 = some false := by kernel_rfl
@[simp] theorem tySize_4 : tySize Tryz.prog 4 = some 1 := by kernel_rfl
@[simp] theorem zeroC_4 : zeroC Tryz.prog 4 = some [.sc (.bool false)] := by kernel_rfl
@[simp] theorem isBoolT_4 : isBool Tryz.prog 4 = true := by kernel_rfl
@[simp] theorem tyAgg_5 : tyAgg Tryz.prog 5 = some false := by kernel_rfl
@[simp] theorem tySize_5 : tySize Tryz.prog 5 = some 1 := by kernel_rfl
@[simp] theorem isSomeT_5 : Av.isSome Tryz.prog 5 = true := by kernel_rfl
@[simp] theorem intOfT_5 : Av.intOf Tryz.prog 5 = some .u8 := by kernel_rfl
@[simp] theorem tyAgg_9 : tyAgg Tryz.prog 9 = some false := by kernel_rfl
@[simp] theorem tySize_9 : tySize Tryz.prog 9 = some 1 := by kernel_rfl
@[simp] theorem isSomeT_9 : Av.isSome Tryz.prog 9 = true := by kernel_rfl
@[simp] theorem isStrT_9 : isStr Tryz.prog 9 = true := by kernel_rfl
@[simp] theorem zeroC_9 : zeroC Tryz.prog 9 = some [.str []] := by kernel_rfl
@[simp] theorem zeroC_23 : zeroC Tryz.prog 23 = some [.str [], .str [], .sc (.int .i64 0), .str [], .sc (.int .i64 0)] := by kernel_rfl
@[simp] theorem fieldsOk_23 : fieldsOk Tryz.prog 23 = true := by kernel_rfl
@[simp] theorem placeP_23_0 : placeP Tryz.prog 23 0 = some (0, 1) := by kernel_rfl
@[simp] theorem placeP_23_1 : placeP Tryz.prog 23 1 = some (1, 1) := by kernel_rfl
@[simp] theorem placeP_23_2 : placeP Tryz.prog 23 2 = some (2, 1) := by kernel_rfl
@[simp] theorem placeP_23_4 : placeP Tryz.prog 23 4 = some (4, 1) := by kernel_rfl
@[simp] theorem fld_23_0 : fld Tryz.prog 23 0 = some (0, 1, false) := by kernel_rfl
@[simp] theorem fld_23_2 : fld Tryz.prog 23 2 = some (2, 1, false) := by kernel_rfl
@[simp] theorem tyAgg_24 : tyAgg Tryz.prog 24 = some false := by kernel_rfl
@[simp] theorem tySize_24 : tySize Tryz.prog 24 = some 1 := by kernel_rfl
@[simp] theorem elSize_24 : elSize Tryz.prog 24 = some 2 := by kernel_rfl
@[simp] theorem elTy_24 : elTy Tryz.prog 24 = some (49, 2, 32) := by kernel_rfl
@[simp] theorem tyAgg_25 : tyAgg Tryz.prog 25 = some false := by kernel_rfl
@[simp] theorem tySize_25 : tySize Tryz.prog 25 = some 1 := by kernel_rfl
@[simp] theorem isStrT_25 : isStr Tryz.prog 25 = false := by kernel_rfl
@[simp] theorem elSize_25 : elSize Tryz.prog 25 = some 1 := by kernel_rfl
@[simp] theorem elTy_25 : elTy Tryz.prog 25 = some (5, 1, 1) := by kernel_rfl
@[simp] theorem isBytesT_25 : isBytes Tryz.prog 25 = true := by kernel_rfl
@[simp] theorem tyAgg_27 : tyAgg Tryz.prog 27 = some true := by kernel_rfl
@[simp] theorem tySize_27 : tySize Tryz.prog 27 = some 7 := by kernel_rfl
@[simp] theorem zeroC_27 : zeroC Tryz.prog 27 = some [.str [], .str [], .sc (.int .i64 0), .str [], .sc (.int .i64 0), .nil, .nil] := by kernel_rfl
@[simp] theorem fieldsOk_27 : fieldsOk Tryz.prog 27 = true := by kernel_rfl
@[simp] theorem placeP_27_0 : placeP Tryz.prog 27 0 = some (0, 5) := by kernel_rfl
@[simp] theorem placeP_27_1 : placeP Tryz.prog 27 1 = some (5, 1) := by kernel_rfl
@[simp] theorem fld_27_0 : fld Tryz.prog 27 0 = some (0, 5, true) := by kernel_rfl
@[simp] theorem fld_27_1 : fld Tryz.prog 27 1 = some (5, 1, false) := by kernel_rfl
@[simp] theorem fld_27_2 : fld Tryz.prog 27 2 = some (6, 1, false) := by kernel_rfl
@[simp] theorem tyAgg_29 : tyAgg Tryz.prog 29 = some true := by kernel_rfl
@[simp] theorem tySize_29 : tySize Tryz.prog 29 = some 2 := by kernel_rfl
@[simp] theorem zeroC_29 : zeroC Tryz.prog 29 = some [.sc (.int .i64 0), .sc (.int .i64 0)] := by kernel_rfl
@[simp] theorem fieldsOk_29 : fieldsOk Tryz.prog 29 = true := by kernel_rfl
@[simp] theorem fld_29_0 : fld Tryz.prog 29 0 = some (0, 1, false) := by kernel_rfl
@[simp] theorem fld_29_1 : fld Tryz.prog 29 1 = some (1, 1, false) := by kernel_rfl
@[simp] theorem tyAgg_42 : tyAgg Tryz.prog 42 = some true := by kernel_rfl
@[simp] theorem tySize_42 : tySize Tryz.prog 42 = some 11 := by kernel_rfl
@[simp] theorem zeroC_42 : zeroC Tryz.prog 42 = some [.sc (.bool false), .sc (.bool false), .sc (.bool false), .sc (.bool false), .sc (.bool false), .sc (.bool false), .sc (.bool false), .sc (.int .i64 0), .sc (.int .i64 0), .sc (.int .i64 0), .sc (.int .i64 0)] := by kernel_rfl
@[simp] theorem fieldsOk_42 : fieldsOk Tryz.prog 42 = true := by kernel_rfl
@[simp] theorem placeP_42_7 : placeP Tryz.prog 42 7 = some (7, 1) := by kernel_rfl
@[simp] theorem placeP_42_8 : placeP Tryz.prog 42 8 = some (8, 1) := by kernel_rfl
@[simp] theorem placeP_42_9 : placeP Tryz.prog 42 9 = some (9, 1) := by kernel_rfl
@[simp] theorem placeP_42_10 : placeP Tryz.prog 42 10 = some (10, 1) := by kernel_rfl
@[simp] theorem fld_42_0 : fld Tryz.prog 42 0 = some (0, 1, false) := by kernel_rfl
@[simp] theorem fld_42_1 : fld Tryz.prog 42 1 = some (1, 1, false) := by kernel_rfl
@[simp] theorem fld_42_2 : fld Tryz.prog 42 2 = some (2, 1, false) := by kernel_rfl
@[simp] theorem fld_42_3 : fld Tryz.prog 42 3 = some (3, 1, false) := by kernel_rfl
@[simp] theorem fld_42_4 : fld Tryz.prog 42 4 = some (4, 1, false) := by kernel_rfl
@[simp] theorem fld_42_5 : fld Tryz.prog 42 5 = some (5, 1, false) := by kernel_rfl
@[simp] theorem fld_42_6 : fld Tryz.prog 42 6 = some (6, 1, false) := by kernel_rfl
@[simp] theorem fld_42_7 : fld Tryz.prog 42 7 = some (7, 1, false) := by kernel_rfl
@[simp] theorem fld_42_8 : fld Tryz.prog 42 8 = some (8, 1, false) := by kernel_rfl
@[simp] theorem fld_42_9 : fld Tryz.prog 42 9 = some (9, 1, false) := by kernel_rfl
@[simp] theorem fld_42_10 : fld Tryz.prog 42 10 = some (10, 1, false) := by kernel_rfl
@[simp] theorem tyAgg_49 : tyAgg Tryz.prog 49 = some true := by kernel_rfl
@[simp] theorem tySize_49 : tySize Tryz.prog 49 = some 2 := by kernel_rfl
@[simp] theorem zeroC_49 : zeroC Tryz.prog 49 = some [.str [], .str []] := by kernel_rfl
@[simp] theorem fieldsOk_49 : fieldsOk Tryz.prog 49 = true := by kernel_rfl
@[simp] theorem placeP_49_0 : placeP Tryz.prog 49 0 = some (0, 1) := by kernel_rfl
@[simp] theorem placeP_49_1 : placeP Tryz.prog 49 1 = some (1, 1) := by kernel_rfl
@[simp] theorem fld_49_0 : fld Tryz.prog 49 0 = some (0, 1, false) := by kernel_rfl
@[simp] theorem fld_49_1 : fld Tryz.prog 49 1 = some (1, 1, false) := by kernel_rfl
@[simp] theorem tyAgg_54 : tyAgg Tryz.prog 54 = some true := by kernel_rfl
@[simp] theorem tySize_54 : tySize Tryz.prog 54 = some 3 := by kernel_rfl
@[simp] theorem zeroC_54 : zeroC Tryz.prog 54 = some [.str [], .sc (.int .i64 0), .str []] := by kernel_rfl
@[simp] theorem fieldsOk_54 : fieldsOk Tryz.prog 54 = true := by kernel_rfl
@[simp] theorem fldL_54 : fldL Tryz.prog 54 = some [(0, 9), (1, 3), (2, 9)] := by kernel_rfl
@[simp] theorem eqOkT_54 : eqOkT Tryz.prog 54 = true := by kernel_rfl
@[simp] theorem placeP_54_0 : placeP Tryz.prog 54 0 = some (0, 1) := by kernel_rfl
@[simp] theorem placeP_54_1 : placeP Tryz.prog 54 1 = some (1, 1) := by kernel_rfl
@[simp] theorem placeP_54_2 : placeP Tryz.prog 54 2 = some (2, 1) := by kernel_rfl
@[simp] theorem fld_54_0 : fld Tryz.prog 54 0 = some (0, 1, false) := by kernel_rfl
@[simp] theorem fld_54_1 : fld Tryz.prog 54 1 = some (1, 1, false) := by kernel_rfl
@[simp] theorem fld_54_2 : fld Tryz.prog 54 2 = some (2, 1, false) := by kernel_rfl
@[simp] theorem elSize_55 : elSize Tryz.prog 55 = some 3 := by kernel_rfl
@[simp] theorem elTy_55 : elTy Tryz.prog 55 = some (54, 3, 40) := by kernel_rfl
@[simp] theorem elSize_61 : elSize Tryz.prog 61 = some 1 := by kernel_rfl
@[simp] theorem elTy_61 : elTy Tryz.prog 61 = some (9, 1, 16) := by kernel_rfl
@[simp] theorem intOfT_61 : Av.intOf Tryz.prog 61 = none := by kernel_rfl
@[simp] theorem tyAgg_72 : tyAgg Tryz.prog 72 = some true := by kernel_rfl
@[simp] theorem tySize_72 : tySize Tryz.prog 72 = some 20 := by kernel_rfl
@[simp] theorem zeroC_72 : zeroC Tryz.prog 72 = some [.str [], .str [], .sc (.int .i64 0), .str [], .sc (.int .i64 0), .nil, .nil, .sc (.bool false), .sc (.bool false), .sc (.bool false), .sc (.bool false), .sc (.bool false), .sc (.bool false), .sc (.bool false), .sc (.int .i64 0), .sc (.int .i64 0), .sc (.int .i64 0), .sc (.int .i64 0), .sc (.int .i64 0), .sc (.int .i64 0)] := by kernel_rfl
@[simp] theorem fieldsOk_72 : fieldsOk Tryz.prog 72 = true := by kernel_rfl
@[simp] theorem placeP_72_0 : placeP Tryz.prog 72 0 = some (0, 7) := by kernel_rfl
@[simp] theorem placeP_72_1 : placeP Tryz.prog 72 1 = some (7, 11) := by kernel_rfl
@[simp] theorem placeP_72_2 : placeP Tryz.prog 72 2 = some (18, 1) := by kernel_rfl
@[simp] theorem fld_72_0 : fld Tryz.prog 72 0 = some (0, 7, true) := by kernel_rfl
@[simp] theorem fld_72_1 : fld Tryz.prog 72 1 = some (7, 11, true) := by kernel_rfl
@[simp] theorem fld_72_2 : fld Tryz.prog 72 2 = some (18, 1, false) := by kernel_rfl
@[simp] theorem fld_72_3 : fld Tryz.prog 72 3 = some (19, 1, false) := by kernel_rfl
@[simp] theorem elSize_79 : elSize Tryz.prog 79 = some 7 := by kernel_rfl
@[simp] theorem elTy_79 : elTy Tryz.prog 79 = some (27, 7, 112) := by kernel_rfl
@[simp] theorem tyAgg_81 : tyAgg Tryz.prog 81 = some true := by kernel_rfl
@[simp] theorem tySize_81 : tySize Tryz.prog 81 = some 18 := by kernel_rfl
@[simp] theorem zeroC_81 : zeroC Tryz.prog 81 = some [.str [], .str [], .sc (.int .i64 0), .str [], .sc (.int .i64 0), .nil, .nil, .sc (.bool false), .sc (.bool false), .sc (.bool false), .sc (.bool false), .sc (.bool false), .sc (.bool false), .sc (.bool false), .sc (.int .i64 0), .sc (.int .i64 0), .sc (.int .i64 0), .sc (.int .i64 0)] := by kernel_rfl
@[simp] theorem fieldsOk_81 : fieldsOk Tryz.prog 81 = true := by kernel_rfl
@[simp] theorem placeP_81_0 : placeP Tryz.prog 81 0 = some (0, 7) := by kernel_rfl
@[simp] theorem placeP_81_1 : placeP Tryz.prog 81 1 = some (7, 11) := by kernel_rfl
@[simp] theorem fld_81_0 : fld Tryz.prog 81 0 = some (0, 7, true) := by kernel_rfl
@[simp] theorem fld_81_1 : fld Tryz.prog 81 1 = some (7, 11, true) := by kernel_rfl
@[simp] theorem elSize_111 : elSize Tryz.prog 111 = some 1 := by kernel_rfl
@[simp] theorem elTy_111 : elTy Tryz.prog 111 = some (3, 1, 8) := by kernel_rfl
@[simp] theorem tyAgg_135 : tyAgg Tryz.prog 135 = some true := by kernel_rfl
@[simp] theorem tySize_135 : tySize Tryz.prog 135 = some 3 := by kernel_rfl
@[simp] theorem zeroC_135 : zeroC Tryz.prog 135 = some [.str [], .str [], .sc (.bool false)] := by kernel_rfl
@[simp] theorem fieldsOk_135 : fieldsOk Tryz.prog 135 = true := by kernel_rfl
@[simp] theorem placeP_135_0 : placeP Tryz.prog 135 0 = some (0, 1) := by kernel_rfl
@[simp] theorem placeP_135_1 : placeP Tryz.prog 135 1 = some (1, 1) := by kernel_rfl
@[simp] theorem placeP_135_2 : placeP Tryz.prog 135 2 = some (2, 1) := by kernel_rfl
@[simp] theorem fld_135_0 : fld Tryz.prog 135 0 = some (0, 1, false) := by kernel_rfl
@[simp] theorem fld_135_1 : fld Tryz.prog 135 1 = some (1, 1, false) := by kernel_rfl
@[simp] theorem fld_135_2 : fld Tryz.prog 135 2 = some (2, 1, false) := by kernel_rfl
@[simp] theorem isPtrT_138 : isPtr Tryz.prog 138 = true := by kernel_rfl
@[simp] theorem isPtrT_141 : isPtr Tryz.prog 141 = true := by kernel_rfl
@[simp] theorem isSomeT_147 : Av.isSome Tryz.prog 147 = true := by kernel_rfl
@[simp] theorem intOfT_147 : Av.intOf Tryz.prog 147 = some .u64 := by kernel_rfl
@[simp] theorem tyAgg_156 : tyAgg Tryz.prog 156 = some true := by kernel_rfl
@[simp] theorem tySize_156 : tySize Tryz.prog 156 = some 7 := by kernel_rfl
@[simp] theorem zeroC_156 : zeroC Tryz.prog 156 = some [.sc (.int .i64 0), .sc (.int .i64 0), .sc (.int .i64 0), .sc (.int .i64 0), .sc (.int .i64 0), .sc (.int .i64 0), .sc (.int .i64 0)] := by kernel_rfl
@[simp] theorem fieldsOk_156 : fieldsOk Tryz.prog 156 = true := by kernel_rfl
@[simp] theorem placeP_156_0 : placeP Tryz.prog 156 0 = some (0, 1) := by kernel_rfl
@[simp] theorem placeP_156_1 : placeP Tryz.prog 156 1 = some (1, 1) := by kernel_rfl
@[simp] theorem placeP_156_3 : placeP Tryz.prog 156 3 = some (3, 1) := by kernel_rfl
@[simp] theorem placeP_156_4 : placeP Tryz.prog 156 4 = some (4, 1) := by kernel_rfl
@[simp] theorem placeP_156_5 : placeP Tryz.prog 156 5 = some (5, 1) := by kernel_rfl
@[simp] theorem placeP_156_6 : placeP Tryz.prog 156 6 = some (6, 1) := by kernel_rfl
@[simp] theorem fld_156_0 : fld Tryz.prog 156 0 = some (0, 1, false) := by kernel_rfl
@[simp] theorem fld_156_1 : fld Tryz.prog 156 1 = some (1, 1, false) := by kernel_rfl
@[simp] theorem fld_156_2 : fld Tryz.prog 156 2 = some (2, 1, false) := by kernel_rfl
@[simp] theorem fld_156_3 : fld Tryz.prog 156 3 = some (3, 1, false) := by kernel_rfl
@[simp] theorem fld_156_4 : fld Tryz.prog 156 4 = some (4, 1, false) := by kernel_rfl
@[simp] theorem fld_156_5 : fld Tryz.prog 156 5 = some (5, 1, false) := by kernel_rfl
@[simp] theorem fld_156_6 : fld Tryz.prog 156 6 = some (6, 1, false) := by kernel_rfl
@[simp] theorem tyAgg_159 : tyAgg Tryz.prog 159 = some true := by kernel_rfl
@[simp] theorem tySize_159 : tySize Tryz.prog 159 = some 3 := by kernel_rfl
@[simp] theorem zeroC_159 : zeroC Tryz.prog 159 = some [.str [], .str [], .str []] := by kernel_rfl
@[simp] theorem fieldsOk_159 : fieldsOk Tryz.prog 159 = true := by kernel_rfl
@[simp] theorem tySize_186 : tySize Tryz.prog 186 = some 256 := by kernel_rfl
@[simp] theorem tySize_224 : tySize Tryz.prog 224 = some 8 := by kernel_rfl
@[simp] theorem zeroC_224 : zeroC Tryz.prog 224 = some [.sc (.int .i64 0), .sc (.int .i64 0), .sc (.int .i64 0), .sc (.int .i64 0), .sc (.int .i64 0), .sc (.int .i64 0), .sc (.int .i64 0), .sc (.int .i64 0)] := by kernel_rfl
@[simp] theorem fieldsOk_224 : fieldsOk Tryz.prog 224 = true := by kernel_rfl
end Go.Av
