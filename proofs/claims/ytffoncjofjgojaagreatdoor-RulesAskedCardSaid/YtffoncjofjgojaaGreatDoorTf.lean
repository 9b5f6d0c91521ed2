/- Facts on the types of this translation, laid by a program of our own. -/
import Derived.Test.YtffoncjofjgojaaGreatDoorEg
import Derived.Test.YtffoncjofjgojaaGreatDoorRows
import Derived.KernelRfl
set_option linter.all false
namespace Go.Av
open Go.Proofs
@[simp] theorem tyAgg_1 : tyAgg Tryz.prog 1 = some false := by kernel_rfl
@[simp] theorem tySize_1 : tySize Tryz.prog 1 = some 1 := by kernel_rfl
@[simp] theorem isSomeT_1 : Av.isSome Tryz.prog 1 = true := by kernel_rfl
@[simp] theorem isIfaceT_1 : isIface Tryz.prog 1 = false := by kernel_rfl
@[simp] theorem isStrT_1 : isStr Tryz.prog 1 = false := by kernel_rfl
@[simp] theorem zeroC_1 : zeroC Tryz.prog 1 = some [.sc .nilFunc] := by kernel_rfl
@[simp] theorem isPtrT_1 : isPtr Tryz.prog 1 = false := by kernel_rfl
@[simp] theorem isBytesT_1 : isBytes Tryz.prog 1 = false := by kernel_rfl
@[simp] theorem intOfT_1 : Av.intOf Tryz.prog 1 = none := by kernel_rfl
@[simp] theorem tyAgg_2 : tyAgg Tryz.prog 2 = some false := by kernel_rfl
@[simp] theorem tySize_2 : tySize Tryz.prog 2 = some 1 := by kernel_rfl
@[simp] theorem isSomeT_2 : Av.isSome Tryz.prog 2 = true := by kernel_rfl
@[simp] theorem isIfaceT_2 : isIface Tryz.prog 2 = false := by kernel_rfl
@[simp] theorem isStrT_2 : isStr Tryz.prog 2 = false := by kernel_rfl
@[simp] theorem zeroC_2 : zeroC Tryz.prog 2 = some [.sc (.int .i64 0)] := by kernel_rfl
@[simp] theorem isPtrT_2 : isPtr Tryz.prog 2 = false := by kernel_rfl
@[simp] theorem isBytesT_2 : isBytes Tryz.prog 2 = false := by kernel_rfl
@[simp] theorem intOfT_2 : Av.intOf Tryz.prog 2 = some .i64 := by kernel_rfl
@[simp] theorem tyAgg_3 : tyAgg Tryz.prog 3 = some false := by kernel_rfl
@[simp] theorem tySize_3 : tySize Tryz.prog 3 = some 1 := by kernel_rfl
@[simp] theorem isSomeT_3 : Av.isSome Tryz.prog 3 = true := by kernel_rfl
@[simp] theorem isIfaceT_3 : isIface Tryz.prog 3 = false := by kernel_rfl
@[simp] theorem isStrT_3 : isStr Tryz.prog 3 = false := by kernel_rfl
@[simp] theorem zeroC_3 : zeroC Tryz.prog 3 = some [.sc (.int .i64 0)] := by kernel_rfl
@[simp] theorem isPtrT_3 : isPtr Tryz.prog 3 = false := by kernel_rfl
@[simp] theorem isBytesT_3 : isBytes Tryz.prog 3 = false := by kernel_rfl
@[simp] theorem intOfT_3 : Av.intOf Tryz.prog 3 = some .i64 := by kernel_rfl
@[simp] theorem tyAgg_4 : tyAgg Tryz.prog 4 = some false := by kernel_rfl
@[simp] theorem tySize_4 : tySize Tryz.prog 4 = some 1 := by kernel_rfl
@[simp] theorem isSomeT_4 : Av.isSome Tryz.prog 4 = true := by kernel_rfl
@[simp] theorem isIfaceT_4 : isIface Tryz.prog 4 = false := by kernel_rfl
@[simp] theorem isStrT_4 : isStr Tryz.prog 4 = false := by kernel_rfl
@[simp] theorem zeroC_4 : zeroC Tryz.prog 4 = some [.sc (.bool false)] := by kernel_rfl
@[simp] theorem isPtrT_4 : isPtr Tryz.prog 4 = false := by kernel_rfl
@[simp] theorem isBytesT_4 : isBytes Tryz.prog 4 = false := by kernel_rfl
@[simp] theorem isBoolT_4 : isBool Tryz.prog 4 = true := by kernel_rfl
@[simp] theorem intOfT_4 : Av.intOf Tryz.prog 4 = none := by kernel_rfl
@[simp] theorem tyAgg_5 : tyAgg Tryz.prog 5 = some false := by kernel_rfl
@[simp] theorem tySize_5 : tySize Tryz.prog 5 = some 1 := by kernel_rfl
@[simp] theorem isSomeT_5 : Av.isSome Tryz.prog 5 = true := by kernel_rfl
@[simp] theorem isIfaceT_5 : isIface Tryz.prog 5 = false := by kernel_rfl
@[simp] theorem isStrT_5 : isStr Tryz.prog 5 = false := by kernel_rfl
@[simp] theorem zeroC_5 : zeroC Tryz.prog 5 = some [.sc (.int .u8 0)] := by kernel_rfl
@[simp] theorem isPtrT_5 : isPtr Tryz.prog 5 = false := by kernel_rfl
@[simp] theorem isBytesT_5 : isBytes Tryz.prog 5 = false := by kernel_rfl
@[simp] theorem intOfT_5 : Av.intOf Tryz.prog 5 = some .u8 := by kernel_rfl
@[simp] theorem tyAgg_6 : tyAgg Tryz.prog 6 = some false := by kernel_rfl
@[simp] theorem tySize_6 : tySize Tryz.prog 6 = some 1 := by kernel_rfl
@[simp] theorem isSomeT_6 : Av.isSome Tryz.prog 6 = true := by kernel_rfl
@[simp] theorem isIfaceT_6 : isIface Tryz.prog 6 = false := by kernel_rfl
@[simp] theorem isStrT_6 : isStr Tryz.prog 6 = false := by kernel_rfl
@[simp] theorem zeroC_6 : zeroC Tryz.prog 6 = some [.sc (.int .u8 0)] := by kernel_rfl
@[simp] theorem isPtrT_6 : isPtr Tryz.prog 6 = false := by kernel_rfl
@[simp] theorem isBytesT_6 : isBytes Tryz.prog 6 = false := by kernel_rfl
@[simp] theorem intOfT_6 : Av.intOf Tryz.prog 6 = some .u8 := by kernel_rfl
@[simp] theorem tyAgg_7 : tyAgg Tryz.prog 7 = some true := by kernel_rfl
@[simp] theorem tySize_7 : tySize Tryz.prog 7 = some 4 := by kernel_rfl
@[simp] theorem isSomeT_7 : Av.isSome Tryz.prog 7 = true := by kernel_rfl
@[simp] theorem isIfaceT_7 : isIface Tryz.prog 7 = false := by kernel_rfl
@[simp] theorem isStrT_7 : isStr Tryz.prog 7 = false := by kernel_rfl
@[simp] theorem zeroC_7 : zeroC Tryz.prog 7 = some [.sc (.int .i64 0), .sc (.int .i64 0), .sc (.bool false), .sc (.int .u8 0)] := by kernel_rfl
@[simp] theorem fieldsOk_7 : fieldsOk Tryz.prog 7 = true := by kernel_rfl
@[simp] theorem isPtrT_7 : isPtr Tryz.prog 7 = false := by kernel_rfl
@[simp] theorem placeP_7_0 : placeP Tryz.prog 7 0 = some (0, 1) := by kernel_rfl
@[simp] theorem placeP_7_1 : placeP Tryz.prog 7 1 = some (1, 1) := by kernel_rfl
@[simp] theorem placeP_7_2 : placeP Tryz.prog 7 2 = some (2, 1) := by kernel_rfl
@[simp] theorem placeP_7_3 : placeP Tryz.prog 7 3 = some (3, 1) := by kernel_rfl
@[simp] theorem fld_7_0 : fld Tryz.prog 7 0 = some (0, 1, false) := by kernel_rfl
@[simp] theorem fld_7_1 : fld Tryz.prog 7 1 = some (1, 1, false) := by kernel_rfl
@[simp] theorem fld_7_2 : fld Tryz.prog 7 2 = some (2, 1, false) := by kernel_rfl
@[simp] theorem fld_7_3 : fld Tryz.prog 7 3 = some (3, 1, false) := by kernel_rfl
@[simp] theorem isBytesT_7 : isBytes Tryz.prog 7 = false := by kernel_rfl
@[simp] theorem intOfT_7 : Av.intOf Tryz.prog 7 = none := by kernel_rfl
@[simp] theorem tyAgg_8 : tyAgg Tryz.prog 8 = some true := by kernel_rfl
@[simp] theorem tySize_8 : tySize Tryz.prog 8 = some 4 := by kernel_rfl
@[simp] theorem isSomeT_8 : Av.isSome Tryz.prog 8 = true := by kernel_rfl
@[simp] theorem isIfaceT_8 : isIface Tryz.prog 8 = false := by kernel_rfl
@[simp] theorem isStrT_8 : isStr Tryz.prog 8 = false := by kernel_rfl
@[simp] theorem zeroC_8 : zeroC Tryz.prog 8 = some [.sc (.int .i64 0), .sc (.int .i64 0), .sc (.bool false), .sc (.int .u8 0)] := by kernel_rfl
@[simp] theorem fieldsOk_8 : fieldsOk Tryz.prog 8 = true := by kernel_rfl
@[simp] theorem isPtrT_8 : isPtr Tryz.prog 8 = false := by kernel_rfl
@[simp] theorem placeP_8_0 : placeP Tryz.prog 8 0 = some (0, 1) := by kernel_rfl
@[simp] theorem placeP_8_1 : placeP Tryz.prog 8 1 = some (1, 1) := by kernel_rfl
@[simp] theorem placeP_8_2 : placeP Tryz.prog 8 2 = some (2, 1) := by kernel_rfl
@[simp] theorem placeP_8_3 : placeP Tryz.prog 8 3 = some (3, 1) := by kernel_rfl
@[simp] theorem fld_8_0 : fld Tryz.prog 8 0 = some (0, 1, false) := by kernel_rfl
@[simp] theorem fld_8_1 : fld Tryz.prog 8 1 = some (1, 1, false) := by kernel_rfl
@[simp] theorem fld_8_2 : fld Tryz.prog 8 2 = some (2, 1, false) := by kernel_rfl
@[simp] theorem fld_8_3 : fld Tryz.prog 8 3 = some (3, 1, false) := by kernel_rfl
@[simp] theorem isBytesT_8 : isBytes Tryz.prog 8 = false := by kernel_rfl
@[simp] theorem intOfT_8 : Av.intOf Tryz.prog 8 = none := by kernel_rfl
@[simp] theorem tyAgg_9 : tyAgg Tryz.prog 9 = some false := by kernel_rfl
@[simp] theorem tySize_9 : tySize Tryz.prog 9 = some 1 := by kernel_rfl
@[simp] theorem isSomeT_9 : Av.isSome Tryz.prog 9 = true := by kernel_rfl
@[simp] theorem isIfaceT_9 : isIface Tryz.prog 9 = false := by kernel_rfl
@[simp] theorem isStrT_9 : isStr Tryz.prog 9 = true := by kernel_rfl
@[simp] theorem zeroC_9 : zeroC Tryz.prog 9 = some [.str []] := by kernel_rfl
@[simp] theorem isPtrT_9 : isPtr Tryz.prog 9 = false := by kernel_rfl
@[simp] theorem isBytesT_9 : isBytes Tryz.prog 9 = false := by kernel_rfl
@[simp] theorem intOfT_9 : Av.intOf Tryz.prog 9 = none := by kernel_rfl
@[simp] theorem tyAgg_10 : tyAgg Tryz.prog 10 = some false := by kernel_rfl
@[simp] theorem tySize_10 : tySize Tryz.prog 10 = some 1 := by kernel_rfl
@[simp] theorem isSomeT_10 : Av.isSome Tryz.prog 10 = true := by kernel_rfl
@[simp] theorem isIfaceT_10 : isIface Tryz.prog 10 = false := by kernel_rfl
@[simp] theorem isStrT_10 : isStr Tryz.prog 10 = true := by kernel_rfl
@[simp] theorem zeroC_10 : zeroC Tryz.prog 10 = some [.str []] := by kernel_rfl
@[simp] theorem isPtrT_10 : isPtr Tryz.prog 10 = false := by kernel_rfl
@[simp] theorem isBytesT_10 : isBytes Tryz.prog 10 = false := by kernel_rfl
@[simp] theorem intOfT_10 : Av.intOf Tryz.prog 10 = none := by kernel_rfl
@[simp] theorem tyAgg_11 : tyAgg Tryz.prog 11 = some false := by kernel_rfl
@[simp] theorem tySize_11 : tySize Tryz.prog 11 = some 1 := by kernel_rfl
@[simp] theorem isSomeT_11 : Av.isSome Tryz.prog 11 = true := by kernel_rfl
@[simp] theorem isIfaceT_11 : isIface Tryz.prog 11 = false := by kernel_rfl
@[simp] theorem isStrT_11 : isStr Tryz.prog 11 = true := by kernel_rfl
@[simp] theorem zeroC_11 : zeroC Tryz.prog 11 = some [.str []] := by kernel_rfl
@[simp] theorem isPtrT_11 : isPtr Tryz.prog 11 = false := by kernel_rfl
@[simp] theorem isBytesT_11 : isBytes Tryz.prog 11 = false := by kernel_rfl
@[simp] theorem intOfT_11 : Av.intOf Tryz.prog 11 = none := by kernel_rfl
@[simp] theorem tyAgg_12 : tyAgg Tryz.prog 12 = some false := by kernel_rfl
@[simp] theorem tySize_12 : tySize Tryz.prog 12 = some 1 := by kernel_rfl
@[simp] theorem isSomeT_12 : Av.isSome Tryz.prog 12 = true := by kernel_rfl
@[simp] theorem isIfaceT_12 : isIface Tryz.prog 12 = false := by kernel_rfl
@[simp] theorem isStrT_12 : isStr Tryz.prog 12 = false := by kernel_rfl
@[simp] theorem zeroC_12 : zeroC Tryz.prog 12 = some [.sc (.int .u64 0)] := by kernel_rfl
@[simp] theorem isPtrT_12 : isPtr Tryz.prog 12 = false := by kernel_rfl
@[simp] theorem isBytesT_12 : isBytes Tryz.prog 12 = false := by kernel_rfl
@[simp] theorem intOfT_12 : Av.intOf Tryz.prog 12 = some .u64 := by kernel_rfl
@[simp] theorem tyAgg_13 : tyAgg Tryz.prog 13 = some true := by kernel_rfl
@[simp] theorem tySize_13 : tySize Tryz.prog 13 = some 2 := by kernel_rfl
@[simp] theorem isSomeT_13 : Av.isSome Tryz.prog 13 = true := by kernel_rfl
@[simp] theorem isIfaceT_13 : isIface Tryz.prog 13 = false := by kernel_rfl
@[simp] theorem isStrT_13 : isStr Tryz.prog 13 = false := by kernel_rfl
@[simp] theorem zeroC_13 : zeroC Tryz.prog 13 = some [.str [], .sc (.int .u64 0)] := by kernel_rfl
@[simp] theorem fieldsOk_13 : fieldsOk Tryz.prog 13 = true := by kernel_rfl
@[simp] theorem isPtrT_13 : isPtr Tryz.prog 13 = false := by kernel_rfl
@[simp] theorem placeP_13_0 : placeP Tryz.prog 13 0 = some (0, 1) := by kernel_rfl
@[simp] theorem placeP_13_1 : placeP Tryz.prog 13 1 = some (1, 1) := by kernel_rfl
@[simp] theorem fld_13_0 : fld Tryz.prog 13 0 = some (0, 1, false) := by kernel_rfl
@[simp] theorem fld_13_1 : fld Tryz.prog 13 1 = some (1, 1, false) := by kernel_rfl
@[simp] theorem isBytesT_13 : isBytes Tryz.prog 13 = false := by kernel_rfl
@[simp] theorem intOfT_13 : Av.intOf Tryz.prog 13 = none := by kernel_rfl
@[simp] theorem tyAgg_14 : tyAgg Tryz.prog 14 = some true := by kernel_rfl
@[simp] theorem tySize_14 : tySize Tryz.prog 14 = some 2 := by kernel_rfl
@[simp] theorem isSomeT_14 : Av.isSome Tryz.prog 14 = true := by kernel_rfl
@[simp] theorem isIfaceT_14 : isIface Tryz.prog 14 = false := by kernel_rfl
@[simp] theorem isStrT_14 : isStr Tryz.prog 14 = false := by kernel_rfl
@[simp] theorem zeroC_14 : zeroC Tryz.prog 14 = some [.str [], .sc (.int .u64 0)] := by kernel_rfl
@[simp] theorem fieldsOk_14 : fieldsOk Tryz.prog 14 = true := by kernel_rfl
@[simp] theorem isPtrT_14 : isPtr Tryz.prog 14 = false := by kernel_rfl
@[simp] theorem placeP_14_0 : placeP Tryz.prog 14 0 = some (0, 1) := by kernel_rfl
@[simp] theorem placeP_14_1 : placeP Tryz.prog 14 1 = some (1, 1) := by kernel_rfl
@[simp] theorem fld_14_0 : fld Tryz.prog 14 0 = some (0, 1, false) := by kernel_rfl
@[simp] theorem fld_14_1 : fld Tryz.prog 14 1 = some (1, 1, false) := by kernel_rfl
@[simp] theorem isBytesT_14 : isBytes Tryz.prog 14 = false := by kernel_rfl
@[simp] theorem intOfT_14 : Av.intOf Tryz.prog 14 = none := by kernel_rfl
@[simp] theorem tyAgg_15 : tyAgg Tryz.prog 15 = some false := by kernel_rfl
@[simp] theorem tySize_15 : tySize Tryz.prog 15 = some 1 := by kernel_rfl
@[simp] theorem isSomeT_15 : Av.isSome Tryz.prog 15 = true := by kernel_rfl
@[simp] theorem isIfaceT_15 : isIface Tryz.prog 15 = false := by kernel_rfl
@[simp] theorem isStrT_15 : isStr Tryz.prog 15 = false := by kernel_rfl
@[simp] theorem zeroC_15 : zeroC Tryz.prog 15 = some [.sc (.pointer none)] := by kernel_rfl
@[simp] theorem isPtrT_15 : isPtr Tryz.prog 15 = true := by kernel_rfl
@[simp] theorem isBytesT_15 : isBytes Tryz.prog 15 = false := by kernel_rfl
@[simp] theorem intOfT_15 : Av.intOf Tryz.prog 15 = none := by kernel_rfl
@[simp] theorem tyAgg_16 : tyAgg Tryz.prog 16 = some false := by kernel_rfl
@[simp] theorem tySize_16 : tySize Tryz.prog 16 = some 1 := by kernel_rfl
@[simp] theorem isSomeT_16 : Av.isSome Tryz.prog 16 = true := by kernel_rfl
@[simp] theorem isIfaceT_16 : isIface Tryz.prog 16 = false := by kernel_rfl
@[simp] theorem isStrT_16 : isStr Tryz.prog 16 = false := by kernel_rfl
@[simp] theorem zeroC_16 : zeroC Tryz.prog 16 = some [.sc (.pointer none)] := by kernel_rfl
@[simp] theorem isPtrT_16 : isPtr Tryz.prog 16 = true := by kernel_rfl
@[simp] theorem isBytesT_16 : isBytes Tryz.prog 16 = false := by kernel_rfl
@[simp] theorem intOfT_16 : Av.intOf Tryz.prog 16 = none := by kernel_rfl
@[simp] theorem tyAgg_17 : tyAgg Tryz.prog 17 = some false := by kernel_rfl
@[simp] theorem tySize_17 : tySize Tryz.prog 17 = some 1 := by kernel_rfl
@[simp] theorem isSomeT_17 : Av.isSome Tryz.prog 17 = true := by kernel_rfl
@[simp] theorem isIfaceT_17 : isIface Tryz.prog 17 = false := by kernel_rfl
@[simp] theorem isStrT_17 : isStr Tryz.prog 17 = false := by kernel_rfl
@[simp] theorem zeroC_17 : zeroC Tryz.prog 17 = some [.sc (.pointer none)] := by kernel_rfl
@[simp] theorem isPtrT_17 : isPtr Tryz.prog 17 = true := by kernel_rfl
@[simp] theorem isBytesT_17 : isBytes Tryz.prog 17 = false := by kernel_rfl
@[simp] theorem intOfT_17 : Av.intOf Tryz.prog 17 = none := by kernel_rfl
@[simp] theorem tyAgg_18 : tyAgg Tryz.prog 18 = some true := by kernel_rfl
@[simp] theorem tySize_18 : tySize Tryz.prog 18 = some 1 := by kernel_rfl
@[simp] theorem isSomeT_18 : Av.isSome Tryz.prog 18 = true := by kernel_rfl
@[simp] theorem isIfaceT_18 : isIface Tryz.prog 18 = false := by kernel_rfl
@[simp] theorem isStrT_18 : isStr Tryz.prog 18 = false := by kernel_rfl
@[simp] theorem zeroC_18 : zeroC Tryz.prog 18 = some [.sc (.pointer none)] := by kernel_rfl
@[simp] theorem fieldsOk_18 : fieldsOk Tryz.prog 18 = true := by kernel_rfl
@[simp] theorem isPtrT_18 : isPtr Tryz.prog 18 = false := by kernel_rfl
@[simp] theorem placeP_18_0 : placeP Tryz.prog 18 0 = some (0, 1) := by kernel_rfl
@[simp] theorem fld_18_0 : fld Tryz.prog 18 0 = some (0, 1, false) := by kernel_rfl
@[simp] theorem isBytesT_18 : isBytes Tryz.prog 18 = false := by kernel_rfl
@[simp] theorem intOfT_18 : Av.intOf Tryz.prog 18 = none := by kernel_rfl
@[simp] theorem tyAgg_19 : tyAgg Tryz.prog 19 = some true := by kernel_rfl
@[simp] theorem tySize_19 : tySize Tryz.prog 19 = some 1 := by kernel_rfl
@[simp] theorem isSomeT_19 : Av.isSome Tryz.prog 19 = true := by kernel_rfl
@[simp] theorem isIfaceT_19 : isIface Tryz.prog 19 = false := by kernel_rfl
@[simp] theorem isStrT_19 : isStr Tryz.prog 19 = false := by kernel_rfl
@[simp] theorem zeroC_19 : zeroC Tryz.prog 19 = some [.sc (.pointer none)] := by kernel_rfl
@[simp] theorem fieldsOk_19 : fieldsOk Tryz.prog 19 = true := by kernel_rfl
@[simp] theorem isPtrT_19 : isPtr Tryz.prog 19 = false := by kernel_rfl
@[simp] theorem placeP_19_0 : placeP Tryz.prog 19 0 = some (0, 1) := by kernel_rfl
@[simp] theorem fld_19_0 : fld Tryz.prog 19 0 = some (0, 1, false) := by kernel_rfl
@[simp] theorem isBytesT_19 : isBytes Tryz.prog 19 = false := by kernel_rfl
@[simp] theorem intOfT_19 : Av.intOf Tryz.prog 19 = none := by kernel_rfl
@[simp] theorem tyAgg_20 : tyAgg Tryz.prog 20 = some false := by kernel_rfl
@[simp] theorem tySize_20 : tySize Tryz.prog 20 = some 1 := by kernel_rfl
@[simp] theorem isSomeT_20 : Av.isSome Tryz.prog 20 = true := by kernel_rfl
@[simp] theorem isIfaceT_20 : isIface Tryz.prog 20 = true := by kernel_rfl
@[simp] theorem isStrT_20 : isStr Tryz.prog 20 = false := by kernel_rfl
@[simp] theorem zeroC_20 : zeroC Tryz.prog 20 = some [.sc .nilIface] := by kernel_rfl
@[simp] theorem isPtrT_20 : isPtr Tryz.prog 20 = false := by kernel_rfl
@[simp] theorem isBytesT_20 : isBytes Tryz.prog 20 = false := by kernel_rfl
@[simp] theorem intOfT_20 : Av.intOf Tryz.prog 20 = none := by kernel_rfl
@[simp] theorem tyAgg_21 : tyAgg Tryz.prog 21 = some false := by kernel_rfl
@[simp] theorem tySize_21 : tySize Tryz.prog 21 = some 1 := by kernel_rfl
@[simp] theorem isSomeT_21 : Av.isSome Tryz.prog 21 = true := by kernel_rfl
@[simp] theorem isIfaceT_21 : isIface Tryz.prog 21 = false := by kernel_rfl
@[simp] theorem isStrT_21 : isStr Tryz.prog 21 = false := by kernel_rfl
@[simp] theorem zeroC_21 : zeroC Tryz.prog 21 = some [.sc (.int .i32 0)] := by kernel_rfl
@[simp] theorem isPtrT_21 : isPtr Tryz.prog 21 = false := by kernel_rfl
@[simp] theorem isBytesT_21 : isBytes Tryz.prog 21 = false := by kernel_rfl
@[simp] theorem intOfT_21 : Av.intOf Tryz.prog 21 = some .i32 := by kernel_rfl
@[simp] theorem tyAgg_22 : tyAgg Tryz.prog 22 = some true := by kernel_rfl
@[simp] theorem tySize_22 : tySize Tryz.prog 22 = some 5 := by kernel_rfl
@[simp] theorem isSomeT_22 : Av.isSome Tryz.prog 22 = true := by kernel_rfl
@[simp] theorem isIfaceT_22 : isIface Tryz.prog 22 = false := by kernel_rfl
@[simp] theorem isStrT_22 : isStr Tryz.prog 22 = false := by kernel_rfl
@[simp] theorem zeroC_22 : zeroC Tryz.prog 22 = some [.str [], .str [], .sc (.int .i64 0), .str [], .sc (.int .i64 0)] := by kernel_rfl
@[simp] theorem fieldsOk_22 : fieldsOk Tryz.prog 22 = true := by kernel_rfl
@[simp] theorem isPtrT_22 : isPtr Tryz.prog 22 = false := by kernel_rfl
@[simp] theorem fldL_22 : fldL Tryz.prog 22 = some [(0, 9), (1, 9), (2, 3), (3, 9), (4, 3)] := by kernel_rfl
@[simp] theorem eqOkT_22 : eqOkT Tryz.prog 22 = true := by kernel_rfl
@[simp] theorem placeP_22_0 : placeP Tryz.prog 22 0 = some (0, 1) := by kernel_rfl
@[simp] theorem placeP_22_1 : placeP Tryz.prog 22 1 = some (1, 1) := by kernel_rfl
@[simp] theorem placeP_22_2 : placeP Tryz.prog 22 2 = some (2, 1) := by kernel_rfl
@[simp] theorem placeP_22_3 : placeP Tryz.prog 22 3 = some (3, 1) := by kernel_rfl
@[simp] theorem placeP_22_4 : placeP Tryz.prog 22 4 = some (4, 1) := by kernel_rfl
@[simp] theorem fld_22_0 : fld Tryz.prog 22 0 = some (0, 1, false) := by kernel_rfl
@[simp] theorem fld_22_1 : fld Tryz.prog 22 1 = some (1, 1, false) := by kernel_rfl
@[simp] theorem fld_22_2 : fld Tryz.prog 22 2 = some (2, 1, false) := by kernel_rfl
@[simp] theorem fld_22_3 : fld Tryz.prog 22 3 = some (3, 1, false) := by kernel_rfl
@[simp] theorem fld_22_4 : fld Tryz.prog 22 4 = some (4, 1, false) := by kernel_rfl
@[simp] theorem isBytesT_22 : isBytes Tryz.prog 22 = false := by kernel_rfl
@[simp] theorem intOfT_22 : Av.intOf Tryz.prog 22 = none := by kernel_rfl
@[simp] theorem tyAgg_23 : tyAgg Tryz.prog 23 = some true := by kernel_rfl
@[simp] theorem tySize_23 : tySize Tryz.prog 23 = some 5 := by kernel_rfl
@[simp] theorem isSomeT_23 : Av.isSome Tryz.prog 23 = true := by kernel_rfl
@[simp] theorem isIfaceT_23 : isIface Tryz.prog 23 = false := by kernel_rfl
@[simp] theorem isStrT_23 : isStr Tryz.prog 23 = false := by kernel_rfl
@[simp] theorem zeroC_23 : zeroC Tryz.prog 23 = some [.str [], .str [], .sc (.int .i64 0), .str [], .sc (.int .i64 0)] := by kernel_rfl
@[simp] theorem fieldsOk_23 : fieldsOk Tryz.prog 23 = true := by kernel_rfl
@[simp] theorem isPtrT_23 : isPtr Tryz.prog 23 = false := by kernel_rfl
@[simp] theorem fldL_23 : fldL Tryz.prog 23 = some [(0, 9), (1, 9), (2, 3), (3, 9), (4, 3)] := by kernel_rfl
@[simp] theorem eqOkT_23 : eqOkT Tryz.prog 23 = true := by kernel_rfl
@[simp] theorem placeP_23_0 : placeP Tryz.prog 23 0 = some (0, 1) := by kernel_rfl
@[simp] theorem placeP_23_1 : placeP Tryz.prog 23 1 = some (1, 1) := by kernel_rfl
@[simp] theorem placeP_23_2 : placeP Tryz.prog 23 2 = some (2, 1) := by kernel_rfl
@[simp] theorem placeP_23_3 : placeP Tryz.prog 23 3 = some (3, 1) := by kernel_rfl
@[simp] theorem placeP_23_4 : placeP Tryz.prog 23 4 = some (4, 1) := by kernel_rfl
@[simp] theorem fld_23_0 : fld Tryz.prog 23 0 = some (0, 1, false) := by kernel_rfl
@[simp] theorem fld_23_1 : fld Tryz.prog 23 1 = some (1, 1, false) := by kernel_rfl
@[simp] theorem fld_23_2 : fld Tryz.prog 23 2 = some (2, 1, false) := by kernel_rfl
@[simp] theorem fld_23_3 : fld Tryz.prog 23 3 = some (3, 1, false) := by kernel_rfl
@[simp] theorem fld_23_4 : fld Tryz.prog 23 4 = some (4, 1, false) := by kernel_rfl
@[simp] theorem isBytesT_23 : isBytes Tryz.prog 23 = false := by kernel_rfl
@[simp] theorem intOfT_23 : Av.intOf Tryz.prog 23 = none := by kernel_rfl
@[simp] theorem tyAgg_24 : tyAgg Tryz.prog 24 = some false := by kernel_rfl
@[simp] theorem tySize_24 : tySize Tryz.prog 24 = some 1 := by kernel_rfl
@[simp] theorem isSomeT_24 : Av.isSome Tryz.prog 24 = true := by kernel_rfl
@[simp] theorem isIfaceT_24 : isIface Tryz.prog 24 = false := by kernel_rfl
@[simp] theorem isStrT_24 : isStr Tryz.prog 24 = false := by kernel_rfl
@[simp] theorem zeroC_24 : zeroC Tryz.prog 24 = some [.nil] := by kernel_rfl
@[simp] theorem isPtrT_24 : isPtr Tryz.prog 24 = false := by kernel_rfl
@[simp] theorem elSize_24 : elSize Tryz.prog 24 = some 2 := by kernel_rfl
@[simp] theorem elTy_24 : elTy Tryz.prog 24 = some (49, 2, 32) := by kernel_rfl
@[simp] theorem isBytesT_24 : isBytes Tryz.prog 24 = false := by kernel_rfl
@[simp] theorem intOfT_24 : Av.intOf Tryz.prog 24 = none := by kernel_rfl
@[simp] theorem tyAgg_25 : tyAgg Tryz.prog 25 = some false := by kernel_rfl
@[simp] theorem tySize_25 : tySize Tryz.prog 25 = some 1 := by kernel_rfl
@[simp] theorem isSomeT_25 : Av.isSome Tryz.prog 25 = true := by kernel_rfl
@[simp] theorem isIfaceT_25 : isIface Tryz.prog 25 = false := by kernel_rfl
@[simp] theorem isStrT_25 : isStr Tryz.prog 25 = false := by kernel_rfl
@[simp] theorem zeroC_25 : zeroC Tryz.prog 25 = some [.nil] := by kernel_rfl
@[simp] theorem isPtrT_25 : isPtr Tryz.prog 25 = false := by kernel_rfl
@[simp] theorem elSize_25 : elSize Tryz.prog 25 = some 1 := by kernel_rfl
@[simp] theorem elTy_25 : elTy Tryz.prog 25 = some (5, 1, 1) := by kernel_rfl
@[simp] theorem isBytesT_25 : isBytes Tryz.prog 25 = true := by kernel_rfl
@[simp] theorem intOfT_25 : Av.intOf Tryz.prog 25 = none := by kernel_rfl
@[simp] theorem tyAgg_26 : tyAgg Tryz.prog 26 = some true := by kernel_rfl
@[simp] theorem tySize_26 : tySize Tryz.prog 26 = some 7 := by kernel_rfl
@[simp] theorem isSomeT_26 : Av.isSome Tryz.prog 26 = true := by kernel_rfl
@[simp] theorem isIfaceT_26 : isIface Tryz.prog 26 = false := by kernel_rfl
@[simp] theorem isStrT_26 : isStr Tryz.prog 26 = false := by kernel_rfl
@[simp] theorem zeroC_26 : zeroC Tryz.prog 26 = some [.str [], .str [], .sc (.int .i64 0), .str [], .sc (.int .i64 0), .nil, .nil] := by kernel_rfl
@[simp] theorem fieldsOk_26 : fieldsOk Tryz.prog 26 = true := by kernel_rfl
@[simp] theorem isPtrT_26 : isPtr Tryz.prog 26 = false := by kernel_rfl
@[simp] theorem placeP_26_0 : placeP Tryz.prog 26 0 = some (0, 5) := by kernel_rfl
@[simp] theorem placeP_26_1 : placeP Tryz.prog 26 1 = some (5, 1) := by kernel_rfl
@[simp] theorem placeP_26_2 : placeP Tryz.prog 26 2 = some (6, 1) := by kernel_rfl
@[simp] theorem fld_26_0 : fld Tryz.prog 26 0 = some (0, 5, true) := by kernel_rfl
@[simp] theorem fld_26_1 : fld Tryz.prog 26 1 = some (5, 1, false) := by kernel_rfl
@[simp] theorem fld_26_2 : fld Tryz.prog 26 2 = some (6, 1, false) := by kernel_rfl
@[simp] theorem isBytesT_26 : isBytes Tryz.prog 26 = false := by kernel_rfl
@[simp] theorem intOfT_26 : Av.intOf Tryz.prog 26 = none := by kernel_rfl
@[simp] theorem tyAgg_27 : tyAgg Tryz.prog 27 = some true := by kernel_rfl
@[simp] theorem tySize_27 : tySize Tryz.prog 27 = some 7 := by kernel_rfl
@[simp] theorem isSomeT_27 : Av.isSome Tryz.prog 27 = true := by kernel_rfl
@[simp] theorem isIfaceT_27 : isIface Tryz.prog 27 = false := by kernel_rfl
@[simp] theorem isStrT_27 : isStr Tryz.prog 27 = false := by kernel_rfl
@[simp] theorem zeroC_27 : zeroC Tryz.prog 27 = some [.str [], .str [], .sc (.int .i64 0), .str [], .sc (.int .i64 0), .nil, .nil] := by kernel_rfl
@[simp] theorem fieldsOk_27 : fieldsOk Tryz.prog 27 = true := by kernel_rfl
@[simp] theorem isPtrT_27 : isPtr Tryz.prog 27 = false := by kernel_rfl
@[simp] theorem placeP_27_0 : placeP Tryz.prog 27 0 = some (0, 5) := by kernel_rfl
@[simp] theorem placeP_27_1 : placeP Tryz.prog 27 1 = some (5, 1) := by kernel_rfl
@[simp] theorem placeP_27_2 : placeP Tryz.prog 27 2 = some (6, 1) := by kernel_rfl
@[simp] theorem fld_27_0 : fld Tryz.prog 27 0 = some (0, 5, true) := by kernel_rfl
@[simp] theorem fld_27_1 : fld Tryz.prog 27 1 = some (5, 1, false) := by kernel_rfl
@[simp] theorem fld_27_2 : fld Tryz.prog 27 2 = some (6, 1, false) := by kernel_rfl
@[simp] theorem isBytesT_27 : isBytes Tryz.prog 27 = false := by kernel_rfl
@[simp] theorem intOfT_27 : Av.intOf Tryz.prog 27 = none := by kernel_rfl
@[simp] theorem tyAgg_28 : tyAgg Tryz.prog 28 = some true := by kernel_rfl
@[simp] theorem tySize_28 : tySize Tryz.prog 28 = some 2 := by kernel_rfl
@[simp] theorem isSomeT_28 : Av.isSome Tryz.prog 28 = true := by kernel_rfl
@[simp] theorem isIfaceT_28 : isIface Tryz.prog 28 = false := by kernel_rfl
@[simp] theorem isStrT_28 : isStr Tryz.prog 28 = false := by kernel_rfl
@[simp] theorem zeroC_28 : zeroC Tryz.prog 28 = some [.sc (.int .i64 0), .sc (.int .i64 0)] := by kernel_rfl
@[simp] theorem fieldsOk_28 : fieldsOk Tryz.prog 28 = true := by kernel_rfl
@[simp] theorem isPtrT_28 : isPtr Tryz.prog 28 = false := by kernel_rfl
@[simp] theorem fldL_28 : fldL Tryz.prog 28 = some [(0, 3), (1, 3)] := by kernel_rfl
@[simp] theorem eqOkT_28 : eqOkT Tryz.prog 28 = true := by kernel_rfl
@[simp] theorem placeP_28_0 : placeP Tryz.prog 28 0 = some (0, 1) := by kernel_rfl
@[simp] theorem placeP_28_1 : placeP Tryz.prog 28 1 = some (1, 1) := by kernel_rfl
@[simp] theorem fld_28_0 : fld Tryz.prog 28 0 = some (0, 1, false) := by kernel_rfl
@[simp] theorem fld_28_1 : fld Tryz.prog 28 1 = some (1, 1, false) := by kernel_rfl
@[simp] theorem isBytesT_28 : isBytes Tryz.prog 28 = false := by kernel_rfl
@[simp] theorem intOfT_28 : Av.intOf Tryz.prog 28 = none := by kernel_rfl
@[simp] theorem tyAgg_29 : tyAgg Tryz.prog 29 = some true := by kernel_rfl
@[simp] theorem tySize_29 : tySize Tryz.prog 29 = some 2 := by kernel_rfl
@[simp] theorem isSomeT_29 : Av.isSome Tryz.prog 29 = true := by kernel_rfl
@[simp] theorem isIfaceT_29 : isIface Tryz.prog 29 = false := by kernel_rfl
@[simp] theorem isStrT_29 : isStr Tryz.prog 29 = false := by kernel_rfl
@[simp] theorem zeroC_29 : zeroC Tryz.prog 29 = some [.sc (.int .i64 0), .sc (.int .i64 0)] := by kernel_rfl
@[simp] theorem fieldsOk_29 : fieldsOk Tryz.prog 29 = true := by kernel_rfl
@[simp] theorem isPtrT_29 : isPtr Tryz.prog 29 = false := by kernel_rfl
@[simp] theorem fldL_29 : fldL Tryz.prog 29 = some [(0, 3), (1, 3)] := by kernel_rfl
@[simp] theorem eqOkT_29 : eqOkT Tryz.prog 29 = true := by kernel_rfl
@[simp] theorem placeP_29_0 : placeP Tryz.prog 29 0 = some (0, 1) := by kernel_rfl
@[simp] theorem placeP_29_1 : placeP Tryz.prog 29 1 = some (1, 1) := by kernel_rfl
@[simp] theorem fld_29_0 : fld Tryz.prog 29 0 = some (0, 1, false) := by kernel_rfl
@[simp] theorem fld_29_1 : fld Tryz.prog 29 1 = some (1, 1, false) := by kernel_rfl
@[simp] theorem isBytesT_29 : isBytes Tryz.prog 29 = false := by kernel_rfl
@[simp] theorem intOfT_29 : Av.intOf Tryz.prog 29 = none := by kernel_rfl
@[simp] theorem tyAgg_30 : tyAgg Tryz.prog 30 = some true := by kernel_rfl
@[simp] theorem tySize_30 : tySize Tryz.prog 30 = some 2 := by kernel_rfl
@[simp] theorem isSomeT_30 : Av.isSome Tryz.prog 30 = true := by kernel_rfl
@[simp] theorem isIfaceT_30 : isIface Tryz.prog 30 = false := by kernel_rfl
@[simp] theorem isStrT_30 : isStr Tryz.prog 30 = false := by kernel_rfl
@[simp] theorem zeroC_30 : zeroC Tryz.prog 30 = some [.sc (.int .i64 0), .sc (.int .i64 0)] := by kernel_rfl
@[simp] theorem fieldsOk_30 : fieldsOk Tryz.prog 30 = true := by kernel_rfl
@[simp] theorem isPtrT_30 : isPtr Tryz.prog 30 = false := by kernel_rfl
@[simp] theorem isBytesT_30 : isBytes Tryz.prog 30 = false := by kernel_rfl
@[simp] theorem intOfT_30 : Av.intOf Tryz.prog 30 = none := by kernel_rfl
@[simp] theorem tyAgg_31 : tyAgg Tryz.prog 31 = some false := by kernel_rfl
@[simp] theorem tySize_31 : tySize Tryz.prog 31 = some 1 := by kernel_rfl
@[simp] theorem isSomeT_31 : Av.isSome Tryz.prog 31 = true := by kernel_rfl
@[simp] theorem isIfaceT_31 : isIface Tryz.prog 31 = false := by kernel_rfl
@[simp] theorem isStrT_31 : isStr Tryz.prog 31 = false := by kernel_rfl
@[simp] theorem zeroC_31 : zeroC Tryz.prog 31 = some [.sc .nilFunc] := by kernel_rfl
@[simp] theorem isPtrT_31 : isPtr Tryz.prog 31 = false := by kernel_rfl
@[simp] theorem isBytesT_31 : isBytes Tryz.prog 31 = false := by kernel_rfl
@[simp] theorem intOfT_31 : Av.intOf Tryz.prog 31 = none := by kernel_rfl
@[simp] theorem tyAgg_32 : tyAgg Tryz.prog 32 = some false := by kernel_rfl
@[simp] theorem tySize_32 : tySize Tryz.prog 32 = some 1 := by kernel_rfl
@[simp] theorem isSomeT_32 : Av.isSome Tryz.prog 32 = true := by kernel_rfl
@[simp] theorem isIfaceT_32 : isIface Tryz.prog 32 = false := by kernel_rfl
@[simp] theorem isStrT_32 : isStr Tryz.prog 32 = false := by kernel_rfl
@[simp] theorem zeroC_32 : zeroC Tryz.prog 32 = some [.sc .nilFunc] := by kernel_rfl
@[simp] theorem isPtrT_32 : isPtr Tryz.prog 32 = false := by kernel_rfl
@[simp] theorem isBytesT_32 : isBytes Tryz.prog 32 = false := by kernel_rfl
@[simp] theorem intOfT_32 : Av.intOf Tryz.prog 32 = none := by kernel_rfl
@[simp] theorem tyAgg_33 : tyAgg Tryz.prog 33 = some false := by kernel_rfl
@[simp] theorem tySize_33 : tySize Tryz.prog 33 = some 1 := by kernel_rfl
@[simp] theorem isSomeT_33 : Av.isSome Tryz.prog 33 = true := by kernel_rfl
@[simp] theorem isIfaceT_33 : isIface Tryz.prog 33 = false := by kernel_rfl
@[simp] theorem isStrT_33 : isStr Tryz.prog 33 = false := by kernel_rfl
@[simp] theorem zeroC_33 : zeroC Tryz.prog 33 = some [.sc .nilFunc] := by kernel_rfl
@[simp] theorem isPtrT_33 : isPtr Tryz.prog 33 = false := by kernel_rfl
@[simp] theorem isBytesT_33 : isBytes Tryz.prog 33 = false := by kernel_rfl
@[simp] theorem intOfT_33 : Av.intOf Tryz.prog 33 = none := by kernel_rfl
@[simp] theorem tyAgg_34 : tyAgg Tryz.prog 34 = some false := by kernel_rfl
@[simp] theorem tySize_34 : tySize Tryz.prog 34 = some 1 := by kernel_rfl
@[simp] theorem isSomeT_34 : Av.isSome Tryz.prog 34 = true := by kernel_rfl
@[simp] theorem isIfaceT_34 : isIface Tryz.prog 34 = false := by kernel_rfl
@[simp] theorem isStrT_34 : isStr Tryz.prog 34 = false := by kernel_rfl
@[simp] theorem zeroC_34 : zeroC Tryz.prog 34 = some [.sc .nilFunc] := by kernel_rfl
@[simp] theorem isPtrT_34 : isPtr Tryz.prog 34 = false := by kernel_rfl
@[simp] theorem isBytesT_34 : isBytes Tryz.prog 34 = false := by kernel_rfl
@[simp] theorem intOfT_34 : Av.intOf Tryz.prog 34 = none := by kernel_rfl
@[simp] theorem tyAgg_36 : tyAgg Tryz.prog 36 = some false := by kernel_rfl
@[simp] theorem tySize_36 : tySize Tryz.prog 36 = some 1 := by kernel_rfl
@[simp] theorem isSomeT_36 : Av.isSome Tryz.prog 36 = true := by kernel_rfl
@[simp] theorem isIfaceT_36 : isIface Tryz.prog 36 = false := by kernel_rfl
@[simp] theorem isStrT_36 : isStr Tryz.prog 36 = false := by kernel_rfl
@[simp] theorem zeroC_36 : zeroC Tryz.prog 36 = some [.sc .nilFunc] := by kernel_rfl
@[simp] theorem isPtrT_36 : isPtr Tryz.prog 36 = false := by kernel_rfl
@[simp] theorem isBytesT_36 : isBytes Tryz.prog 36 = false := by kernel_rfl
@[simp] theorem intOfT_36 : Av.intOf Tryz.prog 36 = none := by kernel_rfl
@[simp] theorem tyAgg_37 : tyAgg Tryz.prog 37 = some false := by kernel_rfl
@[simp] theorem tySize_37 : tySize Tryz.prog 37 = some 1 := by kernel_rfl
@[simp] theorem isSomeT_37 : Av.isSome Tryz.prog 37 = true := by kernel_rfl
@[simp] theorem isIfaceT_37 : isIface Tryz.prog 37 = false := by kernel_rfl
@[simp] theorem isStrT_37 : isStr Tryz.prog 37 = false := by kernel_rfl
@[simp] theorem zeroC_37 : zeroC Tryz.prog 37 = some [.sc .nilFunc] := by kernel_rfl
@[simp] theorem isPtrT_37 : isPtr Tryz.prog 37 = false := by kernel_rfl
@[simp] theorem isBytesT_37 : isBytes Tryz.prog 37 = false := by kernel_rfl
@[simp] theorem intOfT_37 : Av.intOf Tryz.prog 37 = none := by kernel_rfl
@[simp] theorem tyAgg_38 : tyAgg Tryz.prog 38 = some false := by kernel_rfl
@[simp] theorem tySize_38 : tySize Tryz.prog 38 = some 1 := by kernel_rfl
@[simp] theorem isSomeT_38 : Av.isSome Tryz.prog 38 = true := by kernel_rfl
@[simp] theorem isIfaceT_38 : isIface Tryz.prog 38 = false := by kernel_rfl
@[simp] theorem isStrT_38 : isStr Tryz.prog 38 = false := by kernel_rfl
@[simp] theorem zeroC_38 : zeroC Tryz.prog 38 = some [.sc .nilFunc] := by kernel_rfl
@[simp] theorem isPtrT_38 : isPtr Tryz.prog 38 = false := by kernel_rfl
@[simp] theorem isBytesT_38 : isBytes Tryz.prog 38 = false := by kernel_rfl
@[simp] theorem intOfT_38 : Av.intOf Tryz.prog 38 = none := by kernel_rfl
@[simp] theorem tyAgg_39 : tyAgg Tryz.prog 39 = some false := by kernel_rfl
@[simp] theorem tySize_39 : tySize Tryz.prog 39 = some 1 := by kernel_rfl
@[simp] theorem isSomeT_39 : Av.isSome Tryz.prog 39 = true := by kernel_rfl
@[simp] theorem isIfaceT_39 : isIface Tryz.prog 39 = false := by kernel_rfl
@[simp] theorem isStrT_39 : isStr Tryz.prog 39 = false := by kernel_rfl
@[simp] theorem zeroC_39 : zeroC Tryz.prog 39 = some [.sc .nilFunc] := by kernel_rfl
@[simp] theorem isPtrT_39 : isPtr Tryz.prog 39 = false := by kernel_rfl
@[simp] theorem isBytesT_39 : isBytes Tryz.prog 39 = false := by kernel_rfl
@[simp] theorem intOfT_39 : Av.intOf Tryz.prog 39 = none := by kernel_rfl
@[simp] theorem tyAgg_40 : tyAgg Tryz.prog 40 = some false := by kernel_rfl
@[simp] theorem tySize_40 : tySize Tryz.prog 40 = some 1 := by kernel_rfl
@[simp] theorem isSomeT_40 : Av.isSome Tryz.prog 40 = true := by kernel_rfl
@[simp] theorem isIfaceT_40 : isIface Tryz.prog 40 = false := by kernel_rfl
@[simp] theorem isStrT_40 : isStr Tryz.prog 40 = false := by kernel_rfl
@[simp] theorem zeroC_40 : zeroC Tryz.prog 40 = some [.sc .nilFunc] := by kernel_rfl
@[simp] theorem isPtrT_40 : isPtr Tryz.prog 40 = false := by kernel_rfl
@[simp] theorem isBytesT_40 : isBytes Tryz.prog 40 = false := by kernel_rfl
@[simp] theorem intOfT_40 : Av.intOf Tryz.prog 40 = none := by kernel_rfl
@[simp] theorem tyAgg_41 : tyAgg Tryz.prog 41 = some true := by kernel_rfl
@[simp] theorem tySize_41 : tySize Tryz.prog 41 = some 11 := by kernel_rfl
@[simp] theorem isSomeT_41 : Av.isSome Tryz.prog 41 = true := by kernel_rfl
@[simp] theorem isIfaceT_41 : isIface Tryz.prog 41 = false := by kernel_rfl
@[simp] theorem isStrT_41 : isStr Tryz.prog 41 = false := by kernel_rfl
@[simp] theorem zeroC_41 : zeroC Tryz.prog 41 = some [.sc (.bool false), .sc (.bool false), .sc (.bool false), .sc (.bool false), .sc (.bool false), .sc (.bool false), .sc (.bool false), .sc (.int .i64 0), .sc (.int .i64 0), .sc (.int .i64 0), .sc (.int .i64 0)] := by kernel_rfl
@[simp] theorem fieldsOk_41 : fieldsOk Tryz.prog 41 = true := by kernel_rfl
@[simp] theorem isPtrT_41 : isPtr Tryz.prog 41 = false := by kernel_rfl
@[simp] theorem fldL_41 : fldL Tryz.prog 41 = some [(0, 4), (1, 4), (2, 4), (3, 4), (4, 4), (5, 4), (6, 4), (7, 3), (8, 3), (9, 3), (10, 3)] := by kernel_rfl
@[simp] theorem eqOkT_41 : eqOkT Tryz.prog 41 = true := by kernel_rfl
@[simp] theorem placeP_41_0 : placeP Tryz.prog 41 0 = some (0, 1) := by kernel_rfl
@[simp] theorem placeP_41_1 : placeP Tryz.prog 41 1 = some (1, 1) := by kernel_rfl
@[simp] theorem placeP_41_2 : placeP Tryz.prog 41 2 = some (2, 1) := by kernel_rfl
@[simp] theorem placeP_41_3 : placeP Tryz.prog 41 3 = some (3, 1) := by kernel_rfl
@[simp] theorem placeP_41_4 : placeP Tryz.prog 41 4 = some (4, 1) := by kernel_rfl
@[simp] theorem placeP_41_5 : placeP Tryz.prog 41 5 = some (5, 1) := by kernel_rfl
@[simp] theorem placeP_41_6 : placeP Tryz.prog 41 6 = some (6, 1) := by kernel_rfl
@[simp] theorem placeP_41_7 : placeP Tryz.prog 41 7 = some (7, 1) := by kernel_rfl
@[simp] theorem placeP_41_8 : placeP Tryz.prog 41 8 = some (8, 1) := by kernel_rfl
@[simp] theorem placeP_41_9 : placeP Tryz.prog 41 9 = some (9, 1) := by kernel_rfl
@[simp] theorem placeP_41_10 : placeP Tryz.prog 41 10 = some (10, 1) := by kernel_rfl
@[simp] theorem fld_41_0 : fld Tryz.prog 41 0 = some (0, 1, false) := by kernel_rfl
@[simp] theorem fld_41_1 : fld Tryz.prog 41 1 = some (1, 1, false) := by kernel_rfl
@[simp] theorem fld_41_2 : fld Tryz.prog 41 2 = some (2, 1, false) := by kernel_rfl
@[simp] theorem fld_41_3 : fld Tryz.prog 41 3 = some (3, 1, false) := by kernel_rfl
@[simp] theorem fld_41_4 : fld Tryz.prog 41 4 = some (4, 1, false) := by kernel_rfl
@[simp] theorem fld_41_5 : fld Tryz.prog 41 5 = some (5, 1, false) := by kernel_rfl
@[simp] theorem fld_41_6 : fld Tryz.prog 41 6 = some (6, 1, false) := by kernel_rfl
@[simp] theorem fld_41_7 : fld Tryz.prog 41 7 = some (7, 1, false) := by kernel_rfl
@[simp] theorem fld_41_8 : fld Tryz.prog 41 8 = some (8, 1, false) := by kernel_rfl
@[simp] theorem fld_41_9 : fld Tryz.prog 41 9 = some (9, 1, false) := by kernel_rfl
@[simp] theorem fld_41_10 : fld Tryz.prog 41 10 = some (10, 1, false) := by kernel_rfl
@[simp] theorem isBytesT_41 : isBytes Tryz.prog 41 = false := by kernel_rfl
@[simp] theorem intOfT_41 : Av.intOf Tryz.prog 41 = none := by kernel_rfl
@[simp] theorem tyAgg_42 : tyAgg Tryz.prog 42 = some true := by kernel_rfl
@[simp] theorem tySize_42 : tySize Tryz.prog 42 = some 11 := by kernel_rfl
@[simp] theorem isSomeT_42 : Av.isSome Tryz.prog 42 = true := by kernel_rfl
@[simp] theorem isIfaceT_42 : isIface Tryz.prog 42 = false := by kernel_rfl
@[simp] theorem isStrT_42 : isStr Tryz.prog 42 = false := by kernel_rfl
@[simp] theorem zeroC_42 : zeroC Tryz.prog 42 = some [.sc (.bool false), .sc (.bool false), .sc (.bool false), .sc (.bool false), .sc (.bool false), .sc (.bool false), .sc (.bool false), .sc (.int .i64 0), .sc (.int .i64 0), .sc (.int .i64 0), .sc (.int .i64 0)] := by kernel_rfl
@[simp] theorem fieldsOk_42 : fieldsOk Tryz.prog 42 = true := by kernel_rfl
@[simp] theorem isPtrT_42 : isPtr Tryz.prog 42 = false := by kernel_rfl
@[simp] theorem fldL_42 : fldL Tryz.prog 42 = some [(0, 4), (1, 4), (2, 4), (3, 4), (4, 4), (5, 4), (6, 4), (7, 3), (8, 3), (9, 3), (10, 3)] := by kernel_rfl
@[simp] theorem eqOkT_42 : eqOkT Tryz.prog 42 = true := by kernel_rfl
@[simp] theorem placeP_42_0 : placeP Tryz.prog 42 0 = some (0, 1) := by kernel_rfl
@[simp] theorem placeP_42_1 : placeP Tryz.prog 42 1 = some (1, 1) := by kernel_rfl
@[simp] theorem placeP_42_2 : placeP Tryz.prog 42 2 = some (2, 1) := by kernel_rfl
@[simp] theorem placeP_42_3 : placeP Tryz.prog 42 3 = some (3, 1) := by kernel_rfl
@[simp] theorem placeP_42_4 : placeP Tryz.prog 42 4 = some (4, 1) := by kernel_rfl
@[simp] theorem placeP_42_5 : placeP Tryz.prog 42 5 = some (5, 1) := by kernel_rfl
@[simp] theorem placeP_42_6 : placeP Tryz.prog 42 6 = some (6, 1) := by kernel_rfl
@[simp] theorem placeP_42_7 : placeP Tryz.prog 42 7 = some (7, 1) := by kernel_rfl
@[simp] theorem placeP_42_8 : placeP Tryz.prog 42 8 = some (8, 1) := by kernel_rfl
@[simp] theorem placeP_42_9 : placeP Tryz.prog 42 9 = some (9, 1) := by kernel_rfl
@[simp] theorem placeP_42_10 : placeP Tryz.prog 42 10 = some (10, 1) := by kernel_rfl
@[simp] theorem fld_42_0 : fld Tryz.prog 42 0 = some (0, 1, false) := by kernel_rfl
@[simp] theorem fld_42_1 : fld Tryz.prog 42 1 = some (1, 1, false) := by kernel_rfl
@[simp] theorem fld_42_2 : fld Tryz.prog 42 2 = some (2, 1, false) := by kernel_rfl
@[simp] theorem fld_42_3 : fld Tryz.prog 42 3 = some (3, 1, false) := by kernel_rfl
@[simp] theorem fld_42_4 : fld Tryz.prog 42 4 = some (4, 1, false) := by kernel_rfl
@[simp] theorem fld_42_5 : fld Tryz.prog 42 5 = some (5, 1, false) := by kernel_rfl
@[simp] theorem fld_42_6 : fld Tryz.prog 42 6 = some (6, 1, false) := by kernel_rfl
@[simp] theorem fld_42_7 : fld Tryz.prog 42 7 = some (7, 1, false) := by kernel_rfl
@[simp] theorem fld_42_8 : fld Tryz.prog 42 8 = some (8, 1, false) := by kernel_rfl
@[simp] theorem fld_42_9 : fld Tryz.prog 42 9 = some (9, 1, false) := by kernel_rfl
@[simp] theorem fld_42_10 : fld Tryz.prog 42 10 = some (10, 1, false) := by kernel_rfl
@[simp] theorem isBytesT_42 : isBytes Tryz.prog 42 = false := by kernel_rfl
@[simp] theorem intOfT_42 : Av.intOf Tryz.prog 42 = none := by kernel_rfl
@[simp] theorem tyAgg_43 : tyAgg Tryz.prog 43 = some true := by kernel_rfl
@[simp] theorem tySize_43 : tySize Tryz.prog 43 = some 12 := by kernel_rfl
@[simp] theorem isSomeT_43 : Av.isSome Tryz.prog 43 = true := by kernel_rfl
@[simp] theorem isIfaceT_43 : isIface Tryz.prog 43 = false := by kernel_rfl
@[simp] theorem isStrT_43 : isStr Tryz.prog 43 = false := by kernel_rfl
@[simp] theorem zeroC_43 : zeroC Tryz.prog 43 = some [.sc (.int .i64 0), .sc (.bool false), .sc (.bool false), .sc (.bool false), .sc (.bool false), .sc (.bool false), .sc (.bool false), .sc (.bool false), .sc (.int .i64 0), .sc (.int .i64 0), .sc (.int .i64 0), .sc (.int .i64 0)] := by kernel_rfl
@[simp] theorem fieldsOk_43 : fieldsOk Tryz.prog 43 = true := by kernel_rfl
@[simp] theorem isPtrT_43 : isPtr Tryz.prog 43 = false := by kernel_rfl
@[simp] theorem placeP_43_0 : placeP Tryz.prog 43 0 = some (0, 1) := by kernel_rfl
@[simp] theorem placeP_43_1 : placeP Tryz.prog 43 1 = some (1, 11) := by kernel_rfl
@[simp] theorem fld_43_0 : fld Tryz.prog 43 0 = some (0, 1, false) := by kernel_rfl
@[simp] theorem fld_43_1 : fld Tryz.prog 43 1 = some (1, 11, true) := by kernel_rfl
@[simp] theorem isBytesT_43 : isBytes Tryz.prog 43 = false := by kernel_rfl
@[simp] theorem intOfT_43 : Av.intOf Tryz.prog 43 = none := by kernel_rfl
@[simp] theorem tyAgg_44 : tyAgg Tryz.prog 44 = some true := by kernel_rfl
@[simp] theorem tySize_44 : tySize Tryz.prog 44 = some 12 := by kernel_rfl
@[simp] theorem isSomeT_44 : Av.isSome Tryz.prog 44 = true := by kernel_rfl
@[simp] theorem isIfaceT_44 : isIface Tryz.prog 44 = false := by kernel_rfl
@[simp] theorem isStrT_44 : isStr Tryz.prog 44 = false := by kernel_rfl
@[simp] theorem zeroC_44 : zeroC Tryz.prog 44 = some [.sc (.int .i64 0), .sc (.bool false), .sc (.bool false), .sc (.bool false), .sc (.bool false), .sc (.bool false), .sc (.bool false), .sc (.bool false), .sc (.int .i64 0), .sc (.int .i64 0), .sc (.int .i64 0), .sc (.int .i64 0)] := by kernel_rfl
@[simp] theorem fieldsOk_44 : fieldsOk Tryz.prog 44 = true := by kernel_rfl
@[simp] theorem isPtrT_44 : isPtr Tryz.prog 44 = false := by kernel_rfl
@[simp] theorem placeP_44_0 : placeP Tryz.prog 44 0 = some (0, 1) := by kernel_rfl
@[simp] theorem placeP_44_1 : placeP Tryz.prog 44 1 = some (1, 11) := by kernel_rfl
@[simp] theorem fld_44_0 : fld Tryz.prog 44 0 = some (0, 1, false) := by kernel_rfl
@[simp] theorem fld_44_1 : fld Tryz.prog 44 1 = some (1, 11, true) := by kernel_rfl
@[simp] theorem isBytesT_44 : isBytes Tryz.prog 44 = false := by kernel_rfl
@[simp] theorem intOfT_44 : Av.intOf Tryz.prog 44 = none := by kernel_rfl
@[simp] theorem tyAgg_45 : tyAgg Tryz.prog 45 = some false := by kernel_rfl
@[simp] theorem tySize_45 : tySize Tryz.prog 45 = some 1 := by kernel_rfl
@[simp] theorem isSomeT_45 : Av.isSome Tryz.prog 45 = true := by kernel_rfl
@[simp] theorem isIfaceT_45 : isIface Tryz.prog 45 = false := by kernel_rfl
@[simp] theorem isStrT_45 : isStr Tryz.prog 45 = false := by kernel_rfl
@[simp] theorem zeroC_45 : zeroC Tryz.prog 45 = some [.sc .nilFunc] := by kernel_rfl
@[simp] theorem isPtrT_45 : isPtr Tryz.prog 45 = false := by kernel_rfl
@[simp] theorem isBytesT_45 : isBytes Tryz.prog 45 = false := by kernel_rfl
@[simp] theorem intOfT_45 : Av.intOf Tryz.prog 45 = none := by kernel_rfl
@[simp] theorem tyAgg_46 : tyAgg Tryz.prog 46 = some false := by kernel_rfl
@[simp] theorem tySize_46 : tySize Tryz.prog 46 = some 1 := by kernel_rfl
@[simp] theorem isSomeT_46 : Av.isSome Tryz.prog 46 = true := by kernel_rfl
@[simp] theorem isIfaceT_46 : isIface Tryz.prog 46 = false := by kernel_rfl
@[simp] theorem isStrT_46 : isStr Tryz.prog 46 = false := by kernel_rfl
@[simp] theorem zeroC_46 : zeroC Tryz.prog 46 = some [.sc .nilFunc] := by kernel_rfl
@[simp] theorem isPtrT_46 : isPtr Tryz.prog 46 = false := by kernel_rfl
@[simp] theorem isBytesT_46 : isBytes Tryz.prog 46 = false := by kernel_rfl
@[simp] theorem intOfT_46 : Av.intOf Tryz.prog 46 = none := by kernel_rfl
@[simp] theorem tyAgg_47 : tyAgg Tryz.prog 47 = some false := by kernel_rfl
@[simp] theorem tySize_47 : tySize Tryz.prog 47 = some 1 := by kernel_rfl
@[simp] theorem isSomeT_47 : Av.isSome Tryz.prog 47 = true := by kernel_rfl
@[simp] theorem isIfaceT_47 : isIface Tryz.prog 47 = false := by kernel_rfl
@[simp] theorem isStrT_47 : isStr Tryz.prog 47 = false := by kernel_rfl
@[simp] theorem zeroC_47 : zeroC Tryz.prog 47 = some [.sc .nilFunc] := by kernel_rfl
@[simp] theorem isPtrT_47 : isPtr Tryz.prog 47 = false := by kernel_rfl
@[simp] theorem isBytesT_47 : isBytes Tryz.prog 47 = false := by kernel_rfl
@[simp] theorem intOfT_47 : Av.intOf Tryz.prog 47 = none := by kernel_rfl
@[simp] theorem tyAgg_48 : tyAgg Tryz.prog 48 = some true := by kernel_rfl
@[simp] theorem tySize_48 : tySize Tryz.prog 48 = some 2 := by kernel_rfl
@[simp] theorem isSomeT_48 : Av.isSome Tryz.prog 48 = true := by kernel_rfl
@[simp] theorem isIfaceT_48 : isIface Tryz.prog 48 = false := by kernel_rfl
@[simp] theorem isStrT_48 : isStr Tryz.prog 48 = false := by kernel_rfl
@[simp] theorem zeroC_48 : zeroC Tryz.prog 48 = some [.str [], .str []] := by kernel_rfl
@[simp] theorem fieldsOk_48 : fieldsOk Tryz.prog 48 = true := by kernel_rfl
@[simp] theorem isPtrT_48 : isPtr Tryz.prog 48 = false := by kernel_rfl
@[simp] theorem fldL_48 : fldL Tryz.prog 48 = some [(0, 9), (1, 9)] := by kernel_rfl
@[simp] theorem eqOkT_48 : eqOkT Tryz.prog 48 = true := by kernel_rfl
@[simp] theorem placeP_48_0 : placeP Tryz.prog 48 0 = some (0, 1) := by kernel_rfl
@[simp] theorem placeP_48_1 : placeP Tryz.prog 48 1 = some (1, 1) := by kernel_rfl
@[simp] theorem fld_48_0 : fld Tryz.prog 48 0 = some (0, 1, false) := by kernel_rfl
@[simp] theorem fld_48_1 : fld Tryz.prog 48 1 = some (1, 1, false) := by kernel_rfl
@[simp] theorem isBytesT_48 : isBytes Tryz.prog 48 = false := by kernel_rfl
@[simp] theorem intOfT_48 : Av.intOf Tryz.prog 48 = none := by kernel_rfl
@[simp] theorem tyAgg_49 : tyAgg Tryz.prog 49 = some true := by kernel_rfl
@[simp] theorem tySize_49 : tySize Tryz.prog 49 = some 2 := by kernel_rfl
@[simp] theorem isSomeT_49 : Av.isSome Tryz.prog 49 = true := by kernel_rfl
@[simp] theorem isIfaceT_49 : isIface Tryz.prog 49 = false := by kernel_rfl
@[simp] theorem isStrT_49 : isStr Tryz.prog 49 = false := by kernel_rfl
@[simp] theorem zeroC_49 : zeroC Tryz.prog 49 = some [.str [], .str []] := by kernel_rfl
@[simp] theorem fieldsOk_49 : fieldsOk Tryz.prog 49 = true := by kernel_rfl
@[simp] theorem isPtrT_49 : isPtr Tryz.prog 49 = false := by kernel_rfl
@[simp] theorem fldL_49 : fldL Tryz.prog 49 = some [(0, 9), (1, 9)] := by kernel_rfl
@[simp] theorem eqOkT_49 : eqOkT Tryz.prog 49 = true := by kernel_rfl
@[simp] theorem placeP_49_0 : placeP Tryz.prog 49 0 = some (0, 1) := by kernel_rfl
@[simp] theorem placeP_49_1 : placeP Tryz.prog 49 1 = some (1, 1) := by kernel_rfl
@[simp] theorem fld_49_0 : fld Tryz.prog 49 0 = some (0, 1, false) := by kernel_rfl
@[simp] theorem fld_49_1 : fld Tryz.prog 49 1 = some (1, 1, false) := by kernel_rfl
@[simp] theorem isBytesT_49 : isBytes Tryz.prog 49 = false := by kernel_rfl
@[simp] theorem intOfT_49 : Av.intOf Tryz.prog 49 = none := by kernel_rfl
@[simp] theorem tyAgg_50 : tyAgg Tryz.prog 50 = some false := by kernel_rfl
@[simp] theorem tySize_50 : tySize Tryz.prog 50 = some 1 := by kernel_rfl
@[simp] theorem isSomeT_50 : Av.isSome Tryz.prog 50 = true := by kernel_rfl
@[simp] theorem isIfaceT_50 : isIface Tryz.prog 50 = false := by kernel_rfl
@[simp] theorem isStrT_50 : isStr Tryz.prog 50 = false := by kernel_rfl
@[simp] theorem zeroC_50 : zeroC Tryz.prog 50 = some [.sc .nilFunc] := by kernel_rfl
@[simp] theorem isPtrT_50 : isPtr Tryz.prog 50 = false := by kernel_rfl
@[simp] theorem isBytesT_50 : isBytes Tryz.prog 50 = false := by kernel_rfl
@[simp] theorem intOfT_50 : Av.intOf Tryz.prog 50 = none := by kernel_rfl
@[simp] theorem tyAgg_51 : tyAgg Tryz.prog 51 = some false := by kernel_rfl
@[simp] theorem tySize_51 : tySize Tryz.prog 51 = some 1 := by kernel_rfl
@[simp] theorem isSomeT_51 : Av.isSome Tryz.prog 51 = true := by kernel_rfl
@[simp] theorem isIfaceT_51 : isIface Tryz.prog 51 = false := by kernel_rfl
@[simp] theorem isStrT_51 : isStr Tryz.prog 51 = false := by kernel_rfl
@[simp] theorem zeroC_51 : zeroC Tryz.prog 51 = some [.sc .nilFunc] := by kernel_rfl
@[simp] theorem isPtrT_51 : isPtr Tryz.prog 51 = false := by kernel_rfl
@[simp] theorem isBytesT_51 : isBytes Tryz.prog 51 = false := by kernel_rfl
@[simp] theorem intOfT_51 : Av.intOf Tryz.prog 51 = none := by kernel_rfl
@[simp] theorem tyAgg_52 : tyAgg Tryz.prog 52 = some false := by kernel_rfl
@[simp] theorem tySize_52 : tySize Tryz.prog 52 = some 1 := by kernel_rfl
@[simp] theorem isSomeT_52 : Av.isSome Tryz.prog 52 = true := by kernel_rfl
@[simp] theorem isIfaceT_52 : isIface Tryz.prog 52 = false := by kernel_rfl
@[simp] theorem isStrT_52 : isStr Tryz.prog 52 = false := by kernel_rfl
@[simp] theorem zeroC_52 : zeroC Tryz.prog 52 = some [.sc .nilFunc] := by kernel_rfl
@[simp] theorem isPtrT_52 : isPtr Tryz.prog 52 = false := by kernel_rfl
@[simp] theorem isBytesT_52 : isBytes Tryz.prog 52 = false := by kernel_rfl
@[simp] theorem intOfT_52 : Av.intOf Tryz.prog 52 = none := by kernel_rfl
@[simp] theorem tyAgg_53 : tyAgg Tryz.prog 53 = some true := by kernel_rfl
@[simp] theorem tySize_53 : tySize Tryz.prog 53 = some 3 := by kernel_rfl
@[simp] theorem isSomeT_53 : Av.isSome Tryz.prog 53 = true := by kernel_rfl
@[simp] theorem isIfaceT_53 : isIface Tryz.prog 53 = false := by kernel_rfl
@[simp] theorem isStrT_53 : isStr Tryz.prog 53 = false := by kernel_rfl
@[simp] theorem zeroC_53 : zeroC Tryz.prog 53 = some [.str [], .sc (.int .i64 0), .str []] := by kernel_rfl
@[simp] theorem fieldsOk_53 : fieldsOk Tryz.prog 53 = true := by kernel_rfl
@[simp] theorem isPtrT_53 : isPtr Tryz.prog 53 = false := by kernel_rfl
@[simp] theorem fldL_53 : fldL Tryz.prog 53 = some [(0, 9), (1, 3), (2, 9)] := by kernel_rfl
@[simp] theorem eqOkT_53 : eqOkT Tryz.prog 53 = true := by kernel_rfl
@[simp] theorem placeP_53_0 : placeP Tryz.prog 53 0 = some (0, 1) := by kernel_rfl
@[simp] theorem placeP_53_1 : placeP Tryz.prog 53 1 = some (1, 1) := by kernel_rfl
@[simp] theorem placeP_53_2 : placeP Tryz.prog 53 2 = some (2, 1) := by kernel_rfl
@[simp] theorem fld_53_0 : fld Tryz.prog 53 0 = some (0, 1, false) := by kernel_rfl
@[simp] theorem fld_53_1 : fld Tryz.prog 53 1 = some (1, 1, false) := by kernel_rfl
@[simp] theorem fld_53_2 : fld Tryz.prog 53 2 = some (2, 1, false) := by kernel_rfl
@[simp] theorem isBytesT_53 : isBytes Tryz.prog 53 = false := by kernel_rfl
@[simp] theorem intOfT_53 : Av.intOf Tryz.prog 53 = none := by kernel_rfl
@[simp] theorem tyAgg_54 : tyAgg Tryz.prog 54 = some true := by kernel_rfl
@[simp] theorem tySize_54 : tySize Tryz.prog 54 = some 3 := by kernel_rfl
@[simp] theorem isSomeT_54 : Av.isSome Tryz.prog 54 = true := by kernel_rfl
@[simp] theorem isIfaceT_54 : isIface Tryz.prog 54 = false := by kernel_rfl
@[simp] theorem isStrT_54 : isStr Tryz.prog 54 = false := by kernel_rfl
@[simp] theorem zeroC_54 : zeroC Tryz.prog 54 = some [.str [], .sc (.int .i64 0), .str []] := by kernel_rfl
@[simp] theorem fieldsOk_54 : fieldsOk Tryz.prog 54 = true := by kernel_rfl
@[simp] theorem isPtrT_54 : isPtr Tryz.prog 54 = false := by kernel_rfl
@[simp] theorem fldL_54 : fldL Tryz.prog 54 = some [(0, 9), (1, 3), (2, 9)] := by kernel_rfl
@[simp] theorem eqOkT_54 : eqOkT Tryz.prog 54 = true := by kernel_rfl
@[simp] theorem placeP_54_0 : placeP Tryz.prog 54 0 = some (0, 1) := by kernel_rfl
@[simp] theorem placeP_54_1 : placeP Tryz.prog 54 1 = some (1, 1) := by kernel_rfl
@[simp] theorem placeP_54_2 : placeP Tryz.prog 54 2 = some (2, 1) := by kernel_rfl
@[simp] theorem fld_54_0 : fld Tryz.prog 54 0 = some (0, 1, false) := by kernel_rfl
@[simp] theorem fld_54_1 : fld Tryz.prog 54 1 = some (1, 1, false) := by kernel_rfl
@[simp] theorem fld_54_2 : fld Tryz.prog 54 2 = some (2, 1, false) := by kernel_rfl
@[simp] theorem isBytesT_54 : isBytes Tryz.prog 54 = false := by kernel_rfl
@[simp] theorem intOfT_54 : Av.intOf Tryz.prog 54 = none := by kernel_rfl
@[simp] theorem tyAgg_55 : tyAgg Tryz.prog 55 = some false := by kernel_rfl
@[simp] theorem tySize_55 : tySize Tryz.prog 55 = some 1 := by kernel_rfl
@[simp] theorem isSomeT_55 : Av.isSome Tryz.prog 55 = true := by kernel_rfl
@[simp] theorem isIfaceT_55 : isIface Tryz.prog 55 = false := by kernel_rfl
@[simp] theorem isStrT_55 : isStr Tryz.prog 55 = false := by kernel_rfl
@[simp] theorem zeroC_55 : zeroC Tryz.prog 55 = some [.nil] := by kernel_rfl
@[simp] theorem isPtrT_55 : isPtr Tryz.prog 55 = false := by kernel_rfl
@[simp] theorem elSize_55 : elSize Tryz.prog 55 = some 3 := by kernel_rfl
@[simp] theorem elTy_55 : elTy Tryz.prog 55 = some (54, 3, 40) := by kernel_rfl
@[simp] theorem isBytesT_55 : isBytes Tryz.prog 55 = false := by kernel_rfl
@[simp] theorem intOfT_55 : Av.intOf Tryz.prog 55 = none := by kernel_rfl
@[simp] theorem tyAgg_56 : tyAgg Tryz.prog 56 = some false := by kernel_rfl
@[simp] theorem tySize_56 : tySize Tryz.prog 56 = some 1 := by kernel_rfl
@[simp] theorem isSomeT_56 : Av.isSome Tryz.prog 56 = true := by kernel_rfl
@[simp] theorem isIfaceT_56 : isIface Tryz.prog 56 = false := by kernel_rfl
@[simp] theorem isStrT_56 : isStr Tryz.prog 56 = false := by kernel_rfl
@[simp] theorem zeroC_56 : zeroC Tryz.prog 56 = some [.sc .nilFunc] := by kernel_rfl
@[simp] theorem isPtrT_56 : isPtr Tryz.prog 56 = false := by kernel_rfl
@[simp] theorem isBytesT_56 : isBytes Tryz.prog 56 = false := by kernel_rfl
@[simp] theorem intOfT_56 : Av.intOf Tryz.prog 56 = none := by kernel_rfl
@[simp] theorem tyAgg_57 : tyAgg Tryz.prog 57 = some false := by kernel_rfl
@[simp] theorem tySize_57 : tySize Tryz.prog 57 = some 1 := by kernel_rfl
@[simp] theorem isSomeT_57 : Av.isSome Tryz.prog 57 = true := by kernel_rfl
@[simp] theorem isIfaceT_57 : isIface Tryz.prog 57 = false := by kernel_rfl
@[simp] theorem isStrT_57 : isStr Tryz.prog 57 = false := by kernel_rfl
@[simp] theorem zeroC_57 : zeroC Tryz.prog 57 = some [.sc .nilFunc] := by kernel_rfl
@[simp] theorem isPtrT_57 : isPtr Tryz.prog 57 = false := by kernel_rfl
@[simp] theorem isBytesT_57 : isBytes Tryz.prog 57 = false := by kernel_rfl
@[simp] theorem intOfT_57 : Av.intOf Tryz.prog 57 = none := by kernel_rfl
@[simp] theorem tyAgg_58 : tyAgg Tryz.prog 58 = some false := by kernel_rfl
@[simp] theorem tySize_58 : tySize Tryz.prog 58 = some 1 := by kernel_rfl
@[simp] theorem isSomeT_58 : Av.isSome Tryz.prog 58 = true := by kernel_rfl
@[simp] theorem isIfaceT_58 : isIface Tryz.prog 58 = false := by kernel_rfl
@[simp] theorem isStrT_58 : isStr Tryz.prog 58 = false := by kernel_rfl
@[simp] theorem zeroC_58 : zeroC Tryz.prog 58 = some [.sc .nilFunc] := by kernel_rfl
@[simp] theorem isPtrT_58 : isPtr Tryz.prog 58 = false := by kernel_rfl
@[simp] theorem isBytesT_58 : isBytes Tryz.prog 58 = false := by kernel_rfl
@[simp] theorem intOfT_58 : Av.intOf Tryz.prog 58 = none := by kernel_rfl
@[simp] theorem tyAgg_59 : tyAgg Tryz.prog 59 = some false := by kernel_rfl
@[simp] theorem tySize_59 : tySize Tryz.prog 59 = some 1 := by kernel_rfl
@[simp] theorem isSomeT_59 : Av.isSome Tryz.prog 59 = true := by kernel_rfl
@[simp] theorem isIfaceT_59 : isIface Tryz.prog 59 = false := by kernel_rfl
@[simp] theorem isStrT_59 : isStr Tryz.prog 59 = false := by kernel_rfl
@[simp] theorem zeroC_59 : zeroC Tryz.prog 59 = some [.sc .nilFunc] := by kernel_rfl
@[simp] theorem isPtrT_59 : isPtr Tryz.prog 59 = false := by kernel_rfl
@[simp] theorem isBytesT_59 : isBytes Tryz.prog 59 = false := by kernel_rfl
@[simp] theorem intOfT_59 : Av.intOf Tryz.prog 59 = none := by kernel_rfl
@[simp] theorem tyAgg_60 : tyAgg Tryz.prog 60 = some false := by kernel_rfl
@[simp] theorem tySize_60 : tySize Tryz.prog 60 = some 1 := by kernel_rfl
@[simp] theorem isSomeT_60 : Av.isSome Tryz.prog 60 = true := by kernel_rfl
@[simp] theorem isIfaceT_60 : isIface Tryz.prog 60 = false := by kernel_rfl
@[simp] theorem isStrT_60 : isStr Tryz.prog 60 = false := by kernel_rfl
@[simp] theorem zeroC_60 : zeroC Tryz.prog 60 = some [.sc .nilFunc] := by kernel_rfl
@[simp] theorem isPtrT_60 : isPtr Tryz.prog 60 = false := by kernel_rfl
@[simp] theorem isBytesT_60 : isBytes Tryz.prog 60 = false := by kernel_rfl
@[simp] theorem intOfT_60 : Av.intOf Tryz.prog 60 = none := by kernel_rfl
@[simp] theorem tyAgg_61 : tyAgg Tryz.prog 61 = some false := by kernel_rfl
@[simp] theorem tySize_61 : tySize Tryz.prog 61 = some 1 := by kernel_rfl
@[simp] theorem isSomeT_61 : Av.isSome Tryz.prog 61 = true := by kernel_rfl
@[simp] theorem isIfaceT_61 : isIface Tryz.prog 61 = false := by kernel_rfl
@[simp] theorem isStrT_61 : isStr Tryz.prog 61 = false := by kernel_rfl
@[simp] theorem zeroC_61 : zeroC Tryz.prog 61 = some [.nil] := by kernel_rfl
@[simp] theorem isPtrT_61 : isPtr Tryz.prog 61 = false := by kernel_rfl
@[simp] theorem elSize_61 : elSize Tryz.prog 61 = some 1 := by kernel_rfl
@[simp] theorem elTy_61 : elTy Tryz.prog 61 = some (9, 1, 16) := by kernel_rfl
@[simp] theorem isBytesT_61 : isBytes Tryz.prog 61 = false := by kernel_rfl
@[simp] theorem intOfT_61 : Av.intOf Tryz.prog 61 = none := by kernel_rfl
@[simp] theorem tyAgg_62 : tyAgg Tryz.prog 62 = some false := by kernel_rfl
@[simp] theorem tySize_62 : tySize Tryz.prog 62 = some 1 := by kernel_rfl
@[simp] theorem isSomeT_62 : Av.isSome Tryz.prog 62 = true := by kernel_rfl
@[simp] theorem isIfaceT_62 : isIface Tryz.prog 62 = false := by kernel_rfl
@[simp] theorem isStrT_62 : isStr Tryz.prog 62 = false := by kernel_rfl
@[simp] theorem zeroC_62 : zeroC Tryz.prog 62 = some [.sc .nilFunc] := by kernel_rfl
@[simp] theorem isPtrT_62 : isPtr Tryz.prog 62 = false := by kernel_rfl
@[simp] theorem isBytesT_62 : isBytes Tryz.prog 62 = false := by kernel_rfl
@[simp] theorem intOfT_62 : Av.intOf Tryz.prog 62 = none := by kernel_rfl
@[simp] theorem tyAgg_63 : tyAgg Tryz.prog 63 = some false := by kernel_rfl
@[simp] theorem tySize_63 : tySize Tryz.prog 63 = some 1 := by kernel_rfl
@[simp] theorem isSomeT_63 : Av.isSome Tryz.prog 63 = true := by kernel_rfl
@[simp] theorem isIfaceT_63 : isIface Tryz.prog 63 = false := by kernel_rfl
@[simp] theorem isStrT_63 : isStr Tryz.prog 63 = false := by kernel_rfl
@[simp] theorem zeroC_63 : zeroC Tryz.prog 63 = some [.sc .nilFunc] := by kernel_rfl
@[simp] theorem isPtrT_63 : isPtr Tryz.prog 63 = false := by kernel_rfl
@[simp] theorem isBytesT_63 : isBytes Tryz.prog 63 = false := by kernel_rfl
@[simp] theorem intOfT_63 : Av.intOf Tryz.prog 63 = none := by kernel_rfl
@[simp] theorem tyAgg_64 : tyAgg Tryz.prog 64 = some false := by kernel_rfl
@[simp] theorem tySize_64 : tySize Tryz.prog 64 = some 1 := by kernel_rfl
@[simp] theorem isSomeT_64 : Av.isSome Tryz.prog 64 = true := by kernel_rfl
@[simp] theorem isIfaceT_64 : isIface Tryz.prog 64 = false := by kernel_rfl
@[simp] theorem isStrT_64 : isStr Tryz.prog 64 = false := by kernel_rfl
@[simp] theorem zeroC_64 : zeroC Tryz.prog 64 = some [.sc .nilFunc] := by kernel_rfl
@[simp] theorem isPtrT_64 : isPtr Tryz.prog 64 = false := by kernel_rfl
@[simp] theorem isBytesT_64 : isBytes Tryz.prog 64 = false := by kernel_rfl
@[simp] theorem intOfT_64 : Av.intOf Tryz.prog 64 = none := by kernel_rfl
@[simp] theorem tyAgg_65 : tyAgg Tryz.prog 65 = some false := by kernel_rfl
@[simp] theorem tySize_65 : tySize Tryz.prog 65 = some 1 := by kernel_rfl
@[simp] theorem isSomeT_65 : Av.isSome Tryz.prog 65 = true := by kernel_rfl
@[simp] theorem isIfaceT_65 : isIface Tryz.prog 65 = false := by kernel_rfl
@[simp] theorem isStrT_65 : isStr Tryz.prog 65 = false := by kernel_rfl
@[simp] theorem zeroC_65 : zeroC Tryz.prog 65 = some [.sc .nilFunc] := by kernel_rfl
@[simp] theorem isPtrT_65 : isPtr Tryz.prog 65 = false := by kernel_rfl
@[simp] theorem isBytesT_65 : isBytes Tryz.prog 65 = false := by kernel_rfl
@[simp] theorem intOfT_65 : Av.intOf Tryz.prog 65 = none := by kernel_rfl
@[simp] theorem tyAgg_66 : tyAgg Tryz.prog 66 = some false := by kernel_rfl
@[simp] theorem tySize_66 : tySize Tryz.prog 66 = some 1 := by kernel_rfl
@[simp] theorem isSomeT_66 : Av.isSome Tryz.prog 66 = true := by kernel_rfl
@[simp] theorem isIfaceT_66 : isIface Tryz.prog 66 = false := by kernel_rfl
@[simp] theorem isStrT_66 : isStr Tryz.prog 66 = false := by kernel_rfl
@[simp] theorem zeroC_66 : zeroC Tryz.prog 66 = some [.sc .nilFunc] := by kernel_rfl
@[simp] theorem isPtrT_66 : isPtr Tryz.prog 66 = false := by kernel_rfl
@[simp] theorem isBytesT_66 : isBytes Tryz.prog 66 = false := by kernel_rfl
@[simp] theorem intOfT_66 : Av.intOf Tryz.prog 66 = none := by kernel_rfl
@[simp] theorem tyAgg_67 : tyAgg Tryz.prog 67 = some false := by kernel_rfl
@[simp] theorem tySize_67 : tySize Tryz.prog 67 = some 1 := by kernel_rfl
@[simp] theorem isSomeT_67 : Av.isSome Tryz.prog 67 = true := by kernel_rfl
@[simp] theorem isIfaceT_67 : isIface Tryz.prog 67 = false := by kernel_rfl
@[simp] theorem isStrT_67 : isStr Tryz.prog 67 = false := by kernel_rfl
@[simp] theorem zeroC_67 : zeroC Tryz.prog 67 = some [.sc .nilFunc] := by kernel_rfl
@[simp] theorem isPtrT_67 : isPtr Tryz.prog 67 = false := by kernel_rfl
@[simp] theorem isBytesT_67 : isBytes Tryz.prog 67 = false := by kernel_rfl
@[simp] theorem intOfT_67 : Av.intOf Tryz.prog 67 = none := by kernel_rfl
@[simp] theorem tyAgg_69 : tyAgg Tryz.prog 69 = some false := by kernel_rfl
@[simp] theorem tySize_69 : tySize Tryz.prog 69 = some 1 := by kernel_rfl
@[simp] theorem isSomeT_69 : Av.isSome Tryz.prog 69 = true := by kernel_rfl
@[simp] theorem isIfaceT_69 : isIface Tryz.prog 69 = false := by kernel_rfl
@[simp] theorem isStrT_69 : isStr Tryz.prog 69 = false := by kernel_rfl
@[simp] theorem zeroC_69 : zeroC Tryz.prog 69 = some [.sc .nilFunc] := by kernel_rfl
@[simp] theorem isPtrT_69 : isPtr Tryz.prog 69 = false := by kernel_rfl
@[simp] theorem isBytesT_69 : isBytes Tryz.prog 69 = false := by kernel_rfl
@[simp] theorem intOfT_69 : Av.intOf Tryz.prog 69 = none := by kernel_rfl
@[simp] theorem tyAgg_70 : tyAgg Tryz.prog 70 = some false := by kernel_rfl
@[simp] theorem tySize_70 : tySize Tryz.prog 70 = some 1 := by kernel_rfl
@[simp] theorem isSomeT_70 : Av.isSome Tryz.prog 70 = true := by kernel_rfl
@[simp] theorem isIfaceT_70 : isIface Tryz.prog 70 = false := by kernel_rfl
@[simp] theorem isStrT_70 : isStr Tryz.prog 70 = false := by kernel_rfl
@[simp] theorem zeroC_70 : zeroC Tryz.prog 70 = some [.sc .nilFunc] := by kernel_rfl
@[simp] theorem isPtrT_70 : isPtr Tryz.prog 70 = false := by kernel_rfl
@[simp] theorem isBytesT_70 : isBytes Tryz.prog 70 = false := by kernel_rfl
@[simp] theorem intOfT_70 : Av.intOf Tryz.prog 70 = none := by kernel_rfl
@[simp] theorem tyAgg_71 : tyAgg Tryz.prog 71 = some true := by kernel_rfl
@[simp] theorem tySize_71 : tySize Tryz.prog 71 = some 20 := by kernel_rfl
@[simp] theorem isSomeT_71 : Av.isSome Tryz.prog 71 = true := by kernel_rfl
@[simp] theorem isIfaceT_71 : isIface Tryz.prog 71 = false := by kernel_rfl
@[simp] theorem isStrT_71 : isStr Tryz.prog 71 = false := by kernel_rfl
@[simp] theorem zeroC_71 : zeroC Tryz.prog 71 = some [.str [], .str [], .sc (.int .i64 0), .str [], .sc (.int .i64 0), .nil, .nil, .sc (.bool false), .sc (.bool false), .sc (.bool false), .sc (.bool false), .sc (.bool false), .sc (.bool false), .sc (.bool false), .sc (.int .i64 0), .sc (.int .i64 0), .sc (.int .i64 0), .sc (.int .i64 0), .sc (.int .i64 0), .sc (.int .i64 0)] := by kernel_rfl
@[simp] theorem fieldsOk_71 : fieldsOk Tryz.prog 71 = true := by kernel_rfl
@[simp] theorem isPtrT_71 : isPtr Tryz.prog 71 = false := by kernel_rfl
@[simp] theorem placeP_71_0 : placeP Tryz.prog 71 0 = some (0, 7) := by kernel_rfl
@[simp] theorem placeP_71_1 : placeP Tryz.prog 71 1 = some (7, 11) := by kernel_rfl
@[simp] theorem placeP_71_2 : placeP Tryz.prog 71 2 = some (18, 1) := by kernel_rfl
@[simp] theorem placeP_71_3 : placeP Tryz.prog 71 3 = some (19, 1) := by kernel_rfl
@[simp] theorem fld_71_0 : fld Tryz.prog 71 0 = some (0, 7, true) := by kernel_rfl
@[simp] theorem fld_71_1 : fld Tryz.prog 71 1 = some (7, 11, true) := by kernel_rfl
@[simp] theorem fld_71_2 : fld Tryz.prog 71 2 = some (18, 1, false) := by kernel_rfl
@[simp] theorem fld_71_3 : fld Tryz.prog 71 3 = some (19, 1, false) := by kernel_rfl
@[simp] theorem isBytesT_71 : isBytes Tryz.prog 71 = false := by kernel_rfl
@[simp] theorem intOfT_71 : Av.intOf Tryz.prog 71 = none := by kernel_rfl
@[simp] theorem tyAgg_72 : tyAgg Tryz.prog 72 = some true := by kernel_rfl
@[simp] theorem tySize_72 : tySize Tryz.prog 72 = some 20 := by kernel_rfl
@[simp] theorem isSomeT_72 : Av.isSome Tryz.prog 72 = true := by kernel_rfl
@[simp] theorem isIfaceT_72 : isIface Tryz.prog 72 = false := by kernel_rfl
@[simp] theorem isStrT_72 : isStr Tryz.prog 72 = false := by kernel_rfl
@[simp] theorem zeroC_72 : zeroC Tryz.prog 72 = some [.str [], .str [], .sc (.int .i64 0), .str [], .sc (.int .i64 0), .nil, .nil, .sc (.bool false), .sc (.bool false), .sc (.bool false), .sc (.bool false), .sc (.bool false), .sc (.bool false), .sc (.bool false), .sc (.int .i64 0), .sc (.int .i64 0), .sc (.int .i64 0), .sc (.int .i64 0), .sc (.int .i64 0), .sc (.int .i64 0)] := by kernel_rfl
@[simp] theorem fieldsOk_72 : fieldsOk Tryz.prog 72 = true := by kernel_rfl
@[simp] theorem isPtrT_72 : isPtr Tryz.prog 72 = false := by kernel_rfl
@[simp] theorem placeP_72_0 : placeP Tryz.prog 72 0 = some (0, 7) := by kernel_rfl
@[simp] theorem placeP_72_1 : placeP Tryz.prog 72 1 = some (7, 11) := by kernel_rfl
@[simp] theorem placeP_72_2 : placeP Tryz.prog 72 2 = some (18, 1) := by kernel_rfl
@[simp] theorem placeP_72_3 : placeP Tryz.prog 72 3 = some (19, 1) := by kernel_rfl
@[simp] theorem fld_72_0 : fld Tryz.prog 72 0 = some (0, 7, true) := by kernel_rfl
@[simp] theorem fld_72_1 : fld Tryz.prog 72 1 = some (7, 11, true) := by kernel_rfl
@[simp] theorem fld_72_2 : fld Tryz.prog 72 2 = some (18, 1, false) := by kernel_rfl
@[simp] theorem fld_72_3 : fld Tryz.prog 72 3 = some (19, 1, false) := by kernel_rfl
@[simp] theorem isBytesT_72 : isBytes Tryz.prog 72 = false := by kernel_rfl
@[simp] theorem intOfT_72 : Av.intOf Tryz.prog 72 = none := by kernel_rfl
@[simp] theorem tyAgg_73 : tyAgg Tryz.prog 73 = some false := by kernel_rfl
@[simp] theorem tySize_73 : tySize Tryz.prog 73 = some 1 := by kernel_rfl
@[simp] theorem isSomeT_73 : Av.isSome Tryz.prog 73 = true := by kernel_rfl
@[simp] theorem isIfaceT_73 : isIface Tryz.prog 73 = false := by kernel_rfl
@[simp] theorem isStrT_73 : isStr Tryz.prog 73 = false := by kernel_rfl
@[simp] theorem zeroC_73 : zeroC Tryz.prog 73 = some [.sc .nilFunc] := by kernel_rfl
@[simp] theorem isPtrT_73 : isPtr Tryz.prog 73 = false := by kernel_rfl
@[simp] theorem isBytesT_73 : isBytes Tryz.prog 73 = false := by kernel_rfl
@[simp] theorem intOfT_73 : Av.intOf Tryz.prog 73 = none := by kernel_rfl
@[simp] theorem tyAgg_74 : tyAgg Tryz.prog 74 = some false := by kernel_rfl
@[simp] theorem tySize_74 : tySize Tryz.prog 74 = some 1 := by kernel_rfl
@[simp] theorem isSomeT_74 : Av.isSome Tryz.prog 74 = true := by kernel_rfl
@[simp] theorem isIfaceT_74 : isIface Tryz.prog 74 = false := by kernel_rfl
@[simp] theorem isStrT_74 : isStr Tryz.prog 74 = false := by kernel_rfl
@[simp] theorem zeroC_74 : zeroC Tryz.prog 74 = some [.sc .nilFunc] := by kernel_rfl
@[simp] theorem isPtrT_74 : isPtr Tryz.prog 74 = false := by kernel_rfl
@[simp] theorem isBytesT_74 : isBytes Tryz.prog 74 = false := by kernel_rfl
@[simp] theorem intOfT_74 : Av.intOf Tryz.prog 74 = none := by kernel_rfl
@[simp] theorem tyAgg_76 : tyAgg Tryz.prog 76 = some false := by kernel_rfl
@[simp] theorem tySize_76 : tySize Tryz.prog 76 = some 1 := by kernel_rfl
@[simp] theorem isSomeT_76 : Av.isSome Tryz.prog 76 = true := by kernel_rfl
@[simp] theorem isIfaceT_76 : isIface Tryz.prog 76 = false := by kernel_rfl
@[simp] theorem isStrT_76 : isStr Tryz.prog 76 = false := by kernel_rfl
@[simp] theorem zeroC_76 : zeroC Tryz.prog 76 = some [.sc .nilFunc] := by kernel_rfl
@[simp] theorem isPtrT_76 : isPtr Tryz.prog 76 = false := by kernel_rfl
@[simp] theorem isBytesT_76 : isBytes Tryz.prog 76 = false := by kernel_rfl
@[simp] theorem intOfT_76 : Av.intOf Tryz.prog 76 = none := by kernel_rfl
@[simp] theorem tyAgg_77 : tyAgg Tryz.prog 77 = some false := by kernel_rfl
@[simp] theorem tySize_77 : tySize Tryz.prog 77 = some 1 := by kernel_rfl
@[simp] theorem isSomeT_77 : Av.isSome Tryz.prog 77 = true := by kernel_rfl
@[simp] theorem isIfaceT_77 : isIface Tryz.prog 77 = false := by kernel_rfl
@[simp] theorem isStrT_77 : isStr Tryz.prog 77 = false := by kernel_rfl
@[simp] theorem zeroC_77 : zeroC Tryz.prog 77 = some [.sc .nilFunc] := by kernel_rfl
@[simp] theorem isPtrT_77 : isPtr Tryz.prog 77 = false := by kernel_rfl
@[simp] theorem isBytesT_77 : isBytes Tryz.prog 77 = false := by kernel_rfl
@[simp] theorem intOfT_77 : Av.intOf Tryz.prog 77 = none := by kernel_rfl
@[simp] theorem tyAgg_78 : tyAgg Tryz.prog 78 = some false := by kernel_rfl
@[simp] theorem tySize_78 : tySize Tryz.prog 78 = some 1 := by kernel_rfl
@[simp] theorem isSomeT_78 : Av.isSome Tryz.prog 78 = true := by kernel_rfl
@[simp] theorem isIfaceT_78 : isIface Tryz.prog 78 = false := by kernel_rfl
@[simp] theorem isStrT_78 : isStr Tryz.prog 78 = false := by kernel_rfl
@[simp] theorem zeroC_78 : zeroC Tryz.prog 78 = some [.sc .nilFunc] := by kernel_rfl
@[simp] theorem isPtrT_78 : isPtr Tryz.prog 78 = false := by kernel_rfl
@[simp] theorem isBytesT_78 : isBytes Tryz.prog 78 = false := by kernel_rfl
@[simp] theorem intOfT_78 : Av.intOf Tryz.prog 78 = none := by kernel_rfl
@[simp] theorem tyAgg_79 : tyAgg Tryz.prog 79 = some false := by kernel_rfl
@[simp] theorem tySize_79 : tySize Tryz.prog 79 = some 1 := by kernel_rfl
@[simp] theorem isSomeT_79 : Av.isSome Tryz.prog 79 = true := by kernel_rfl
@[simp] theorem isIfaceT_79 : isIface Tryz.prog 79 = false := by kernel_rfl
@[simp] theorem isStrT_79 : isStr Tryz.prog 79 = false := by kernel_rfl
@[simp] theorem zeroC_79 : zeroC Tryz.prog 79 = some [.nil] := by kernel_rfl
@[simp] theorem isPtrT_79 : isPtr Tryz.prog 79 = false := by kernel_rfl
@[simp] theorem elSize_79 : elSize Tryz.prog 79 = some 7 := by kernel_rfl
@[simp] theorem elTy_79 : elTy Tryz.prog 79 = some (27, 7, 112) := by kernel_rfl
@[simp] theorem isBytesT_79 : isBytes Tryz.prog 79 = false := by kernel_rfl
@[simp] theorem intOfT_79 : Av.intOf Tryz.prog 79 = none := by kernel_rfl
@[simp] theorem tyAgg_80 : tyAgg Tryz.prog 80 = some true := by kernel_rfl
@[simp] theorem tySize_80 : tySize Tryz.prog 80 = some 18 := by kernel_rfl
@[simp] theorem isSomeT_80 : Av.isSome Tryz.prog 80 = true := by kernel_rfl
@[simp] theorem isIfaceT_80 : isIface Tryz.prog 80 = false := by kernel_rfl
@[simp] theorem isStrT_80 : isStr Tryz.prog 80 = false := by kernel_rfl
@[simp] theorem zeroC_80 : zeroC Tryz.prog 80 = some [.str [], .str [], .sc (.int .i64 0), .str [], .sc (.int .i64 0), .nil, .nil, .sc (.bool false), .sc (.bool false), .sc (.bool false), .sc (.bool false), .sc (.bool false), .sc (.bool false), .sc (.bool false), .sc (.int .i64 0), .sc (.int .i64 0), .sc (.int .i64 0), .sc (.int .i64 0)] := by kernel_rfl
@[simp] theorem fieldsOk_80 : fieldsOk Tryz.prog 80 = true := by kernel_rfl
@[simp] theorem isPtrT_80 : isPtr Tryz.prog 80 = false := by kernel_rfl
@[simp] theorem placeP_80_0 : placeP Tryz.prog 80 0 = some (0, 7) := by kernel_rfl
@[simp] theorem placeP_80_1 : placeP Tryz.prog 80 1 = some (7, 11) := by kernel_rfl
@[simp] theorem fld_80_0 : fld Tryz.prog 80 0 = some (0, 7, true) := by kernel_rfl
@[simp] theorem fld_80_1 : fld Tryz.prog 80 1 = some (7, 11, true) := by kernel_rfl
@[simp] theorem isBytesT_80 : isBytes Tryz.prog 80 = false := by kernel_rfl
@[simp] theorem intOfT_80 : Av.intOf Tryz.prog 80 = none := by kernel_rfl
@[simp] theorem tyAgg_81 : tyAgg Tryz.prog 81 = some true := by kernel_rfl
@[simp] theorem tySize_81 : tySize Tryz.prog 81 = some 18 := by kernel_rfl
@[simp] theorem isSomeT_81 : Av.isSome Tryz.prog 81 = true := by kernel_rfl
@[simp] theorem isIfaceT_81 : isIface Tryz.prog 81 = false := by kernel_rfl
@[simp] theorem isStrT_81 : isStr Tryz.prog 81 = false := by kernel_rfl
@[simp] theorem zeroC_81 : zeroC Tryz.prog 81 = some [.str [], .str [], .sc (.int .i64 0), .str [], .sc (.int .i64 0), .nil, .nil, .sc (.bool false), .sc (.bool false), .sc (.bool false), .sc (.bool false), .sc (.bool false), .sc (.bool false), .sc (.bool false), .sc (.int .i64 0), .sc (.int .i64 0), .sc (.int .i64 0), .sc (.int .i64 0)] := by kernel_rfl
@[simp] theorem fieldsOk_81 : fieldsOk Tryz.prog 81 = true := by kernel_rfl
@[simp] theorem isPtrT_81 : isPtr Tryz.prog 81 = false := by kernel_rfl
@[simp] theorem placeP_81_0 : placeP Tryz.prog 81 0 = some (0, 7) := by kernel_rfl
@[simp] theorem placeP_81_1 : placeP Tryz.prog 81 1 = some (7, 11) := by kernel_rfl
@[simp] theorem fld_81_0 : fld Tryz.prog 81 0 = some (0, 7, true) := by kernel_rfl
@[simp] theorem fld_81_1 : fld Tryz.prog 81 1 = some (7, 11, true) := by kernel_rfl
@[simp] theorem isBytesT_81 : isBytes Tryz.prog 81 = false := by kernel_rfl
@[simp] theorem intOfT_81 : Av.intOf Tryz.prog 81 = none := by kernel_rfl
@[simp] theorem tyAgg_82 : tyAgg Tryz.prog 82 = some false := by kernel_rfl
@[simp] theorem tySize_82 : tySize Tryz.prog 82 = some 1 := by kernel_rfl
@[simp] theorem isSomeT_82 : Av.isSome Tryz.prog 82 = true := by kernel_rfl
@[simp] theorem isIfaceT_82 : isIface Tryz.prog 82 = false := by kernel_rfl
@[simp] theorem isStrT_82 : isStr Tryz.prog 82 = false := by kernel_rfl
@[simp] theorem zeroC_82 : zeroC Tryz.prog 82 = some [.sc .nilFunc] := by kernel_rfl
@[simp] theorem isPtrT_82 : isPtr Tryz.prog 82 = false := by kernel_rfl
@[simp] theorem isBytesT_82 : isBytes Tryz.prog 82 = false := by kernel_rfl
@[simp] theorem intOfT_82 : Av.intOf Tryz.prog 82 = none := by kernel_rfl
@[simp] theorem tyAgg_84 : tyAgg Tryz.prog 84 = some false := by kernel_rfl
@[simp] theorem tySize_84 : tySize Tryz.prog 84 = some 1 := by kernel_rfl
@[simp] theorem isSomeT_84 : Av.isSome Tryz.prog 84 = true := by kernel_rfl
@[simp] theorem isIfaceT_84 : isIface Tryz.prog 84 = false := by kernel_rfl
@[simp] theorem isStrT_84 : isStr Tryz.prog 84 = false := by kernel_rfl
@[simp] theorem zeroC_84 : zeroC Tryz.prog 84 = some [.sc .nilFunc] := by kernel_rfl
@[simp] theorem isPtrT_84 : isPtr Tryz.prog 84 = false := by kernel_rfl
@[simp] theorem isBytesT_84 : isBytes Tryz.prog 84 = false := by kernel_rfl
@[simp] theorem intOfT_84 : Av.intOf Tryz.prog 84 = none := by kernel_rfl
@[simp] theorem tyAgg_85 : tyAgg Tryz.prog 85 = some false := by kernel_rfl
@[simp] theorem tySize_85 : tySize Tryz.prog 85 = some 1 := by kernel_rfl
@[simp] theorem isSomeT_85 : Av.isSome Tryz.prog 85 = true := by kernel_rfl
@[simp] theorem isIfaceT_85 : isIface Tryz.prog 85 = false := by kernel_rfl
@[simp] theorem isStrT_85 : isStr Tryz.prog 85 = false := by kernel_rfl
@[simp] theorem zeroC_85 : zeroC Tryz.prog 85 = some [.sc .nilFunc] := by kernel_rfl
@[simp] theorem isPtrT_85 : isPtr Tryz.prog 85 = false := by kernel_rfl
@[simp] theorem isBytesT_85 : isBytes Tryz.prog 85 = false := by kernel_rfl
@[simp] theorem intOfT_85 : Av.intOf Tryz.prog 85 = none := by kernel_rfl
@[simp] theorem tyAgg_86 : tyAgg Tryz.prog 86 = some false := by kernel_rfl
@[simp] theorem tySize_86 : tySize Tryz.prog 86 = some 1 := by kernel_rfl
@[simp] theorem isSomeT_86 : Av.isSome Tryz.prog 86 = true := by kernel_rfl
@[simp] theorem isIfaceT_86 : isIface Tryz.prog 86 = false := by kernel_rfl
@[simp] theorem isStrT_86 : isStr Tryz.prog 86 = false := by kernel_rfl
@[simp] theorem zeroC_86 : zeroC Tryz.prog 86 = some [.sc .nilFunc] := by kernel_rfl
@[simp] theorem isPtrT_86 : isPtr Tryz.prog 86 = false := by kernel_rfl
@[simp] theorem isBytesT_86 : isBytes Tryz.prog 86 = false := by kernel_rfl
@[simp] theorem intOfT_86 : Av.intOf Tryz.prog 86 = none := by kernel_rfl
@[simp] theorem tyAgg_87 : tyAgg Tryz.prog 87 = some false := by kernel_rfl
@[simp] theorem tySize_87 : tySize Tryz.prog 87 = some 1 := by kernel_rfl
@[simp] theorem isSomeT_87 : Av.isSome Tryz.prog 87 = true := by kernel_rfl
@[simp] theorem isIfaceT_87 : isIface Tryz.prog 87 = false := by kernel_rfl
@[simp] theorem isStrT_87 : isStr Tryz.prog 87 = false := by kernel_rfl
@[simp] theorem zeroC_87 : zeroC Tryz.prog 87 = some [.sc .nilFunc] := by kernel_rfl
@[simp] theorem isPtrT_87 : isPtr Tryz.prog 87 = false := by kernel_rfl
@[simp] theorem isBytesT_87 : isBytes Tryz.prog 87 = false := by kernel_rfl
@[simp] theorem intOfT_87 : Av.intOf Tryz.prog 87 = none := by kernel_rfl
@[simp] theorem tyAgg_88 : tyAgg Tryz.prog 88 = some false := by kernel_rfl
@[simp] theorem tySize_88 : tySize Tryz.prog 88 = some 1 := by kernel_rfl
@[simp] theorem isSomeT_88 : Av.isSome Tryz.prog 88 = true := by kernel_rfl
@[simp] theorem isIfaceT_88 : isIface Tryz.prog 88 = false := by kernel_rfl
@[simp] theorem isStrT_88 : isStr Tryz.prog 88 = false := by kernel_rfl
@[simp] theorem zeroC_88 : zeroC Tryz.prog 88 = some [.sc .nilFunc] := by kernel_rfl
@[simp] theorem isPtrT_88 : isPtr Tryz.prog 88 = false := by kernel_rfl
@[simp] theorem isBytesT_88 : isBytes Tryz.prog 88 = false := by kernel_rfl
@[simp] theorem intOfT_88 : Av.intOf Tryz.prog 88 = none := by kernel_rfl
@[simp] theorem tyAgg_89 : tyAgg Tryz.prog 89 = some false := by kernel_rfl
@[simp] theorem tySize_89 : tySize Tryz.prog 89 = some 1 := by kernel_rfl
@[simp] theorem isSomeT_89 : Av.isSome Tryz.prog 89 = true := by kernel_rfl
@[simp] theorem isIfaceT_89 : isIface Tryz.prog 89 = false := by kernel_rfl
@[simp] theorem isStrT_89 : isStr Tryz.prog 89 = false := by kernel_rfl
@[simp] theorem zeroC_89 : zeroC Tryz.prog 89 = some [.sc .nilFunc] := by kernel_rfl
@[simp] theorem isPtrT_89 : isPtr Tryz.prog 89 = false := by kernel_rfl
@[simp] theorem isBytesT_89 : isBytes Tryz.prog 89 = false := by kernel_rfl
@[simp] theorem intOfT_89 : Av.intOf Tryz.prog 89 = none := by kernel_rfl
@[simp] theorem tyAgg_90 : tyAgg Tryz.prog 90 = some false := by kernel_rfl
@[simp] theorem tySize_90 : tySize Tryz.prog 90 = some 1 := by kernel_rfl
@[simp] theorem isSomeT_90 : Av.isSome Tryz.prog 90 = true := by kernel_rfl
@[simp] theorem isIfaceT_90 : isIface Tryz.prog 90 = false := by kernel_rfl
@[simp] theorem isStrT_90 : isStr Tryz.prog 90 = false := by kernel_rfl
@[simp] theorem zeroC_90 : zeroC Tryz.prog 90 = some [.sc .nilFunc] := by kernel_rfl
@[simp] theorem isPtrT_90 : isPtr Tryz.prog 90 = false := by kernel_rfl
@[simp] theorem isBytesT_90 : isBytes Tryz.prog 90 = false := by kernel_rfl
@[simp] theorem intOfT_90 : Av.intOf Tryz.prog 90 = none := by kernel_rfl
@[simp] theorem tyAgg_91 : tyAgg Tryz.prog 91 = some false := by kernel_rfl
@[simp] theorem tySize_91 : tySize Tryz.prog 91 = some 1 := by kernel_rfl
@[simp] theorem isSomeT_91 : Av.isSome Tryz.prog 91 = true := by kernel_rfl
@[simp] theorem isIfaceT_91 : isIface Tryz.prog 91 = false := by kernel_rfl
@[simp] theorem isStrT_91 : isStr Tryz.prog 91 = false := by kernel_rfl
@[simp] theorem zeroC_91 : zeroC Tryz.prog 91 = some [.sc .nilFunc] := by kernel_rfl
@[simp] theorem isPtrT_91 : isPtr Tryz.prog 91 = false := by kernel_rfl
@[simp] theorem isBytesT_91 : isBytes Tryz.prog 91 = false := by kernel_rfl
@[simp] theorem intOfT_91 : Av.intOf Tryz.prog 91 = none := by kernel_rfl
@[simp] theorem tyAgg_92 : tyAgg Tryz.prog 92 = some false := by kernel_rfl
@[simp] theorem tySize_92 : tySize Tryz.prog 92 = some 1 := by kernel_rfl
@[simp] theorem isSomeT_92 : Av.isSome Tryz.prog 92 = true := by kernel_rfl
@[simp] theorem isIfaceT_92 : isIface Tryz.prog 92 = false := by kernel_rfl
@[simp] theorem isStrT_92 : isStr Tryz.prog 92 = false := by kernel_rfl
@[simp] theorem zeroC_92 : zeroC Tryz.prog 92 = some [.sc .nilFunc] := by kernel_rfl
@[simp] theorem isPtrT_92 : isPtr Tryz.prog 92 = false := by kernel_rfl
@[simp] theorem isBytesT_92 : isBytes Tryz.prog 92 = false := by kernel_rfl
@[simp] theorem intOfT_92 : Av.intOf Tryz.prog 92 = none := by kernel_rfl
@[simp] theorem tyAgg_93 : tyAgg Tryz.prog 93 = some false := by kernel_rfl
@[simp] theorem tySize_93 : tySize Tryz.prog 93 = some 1 := by kernel_rfl
@[simp] theorem isSomeT_93 : Av.isSome Tryz.prog 93 = true := by kernel_rfl
@[simp] theorem isIfaceT_93 : isIface Tryz.prog 93 = false := by kernel_rfl
@[simp] theorem isStrT_93 : isStr Tryz.prog 93 = false := by kernel_rfl
@[simp] theorem zeroC_93 : zeroC Tryz.prog 93 = some [.sc .nilFunc] := by kernel_rfl
@[simp] theorem isPtrT_93 : isPtr Tryz.prog 93 = false := by kernel_rfl
@[simp] theorem isBytesT_93 : isBytes Tryz.prog 93 = false := by kernel_rfl
@[simp] theorem intOfT_93 : Av.intOf Tryz.prog 93 = none := by kernel_rfl
@[simp] theorem tyAgg_94 : tyAgg Tryz.prog 94 = some false := by kernel_rfl
@[simp] theorem tySize_94 : tySize Tryz.prog 94 = some 1 := by kernel_rfl
@[simp] theorem isSomeT_94 : Av.isSome Tryz.prog 94 = true := by kernel_rfl
@[simp] theorem isIfaceT_94 : isIface Tryz.prog 94 = false := by kernel_rfl
@[simp] theorem isStrT_94 : isStr Tryz.prog 94 = false := by kernel_rfl
@[simp] theorem zeroC_94 : zeroC Tryz.prog 94 = some [.sc .nilFunc] := by kernel_rfl
@[simp] theorem isPtrT_94 : isPtr Tryz.prog 94 = false := by kernel_rfl
@[simp] theorem isBytesT_94 : isBytes Tryz.prog 94 = false := by kernel_rfl
@[simp] theorem intOfT_94 : Av.intOf Tryz.prog 94 = none := by kernel_rfl
@[simp] theorem tyAgg_95 : tyAgg Tryz.prog 95 = some false := by kernel_rfl
@[simp] theorem tySize_95 : tySize Tryz.prog 95 = some 1 := by kernel_rfl
@[simp] theorem isSomeT_95 : Av.isSome Tryz.prog 95 = true := by kernel_rfl
@[simp] theorem isIfaceT_95 : isIface Tryz.prog 95 = false := by kernel_rfl
@[simp] theorem isStrT_95 : isStr Tryz.prog 95 = false := by kernel_rfl
@[simp] theorem zeroC_95 : zeroC Tryz.prog 95 = some [.sc (.int .i64 0)] := by kernel_rfl
@[simp] theorem isPtrT_95 : isPtr Tryz.prog 95 = false := by kernel_rfl
@[simp] theorem isBytesT_95 : isBytes Tryz.prog 95 = false := by kernel_rfl
@[simp] theorem intOfT_95 : Av.intOf Tryz.prog 95 = some .i64 := by kernel_rfl
@[simp] theorem tyAgg_97 : tyAgg Tryz.prog 97 = some false := by kernel_rfl
@[simp] theorem tySize_97 : tySize Tryz.prog 97 = some 1 := by kernel_rfl
@[simp] theorem isSomeT_97 : Av.isSome Tryz.prog 97 = true := by kernel_rfl
@[simp] theorem isIfaceT_97 : isIface Tryz.prog 97 = false := by kernel_rfl
@[simp] theorem isStrT_97 : isStr Tryz.prog 97 = false := by kernel_rfl
@[simp] theorem zeroC_97 : zeroC Tryz.prog 97 = some [.sc .nilFunc] := by kernel_rfl
@[simp] theorem isPtrT_97 : isPtr Tryz.prog 97 = false := by kernel_rfl
@[simp] theorem isBytesT_97 : isBytes Tryz.prog 97 = false := by kernel_rfl
@[simp] theorem intOfT_97 : Av.intOf Tryz.prog 97 = none := by kernel_rfl
@[simp] theorem tyAgg_98 : tyAgg Tryz.prog 98 = some false := by kernel_rfl
@[simp] theorem tySize_98 : tySize Tryz.prog 98 = some 1 := by kernel_rfl
@[simp] theorem isSomeT_98 : Av.isSome Tryz.prog 98 = true := by kernel_rfl
@[simp] theorem isIfaceT_98 : isIface Tryz.prog 98 = false := by kernel_rfl
@[simp] theorem isStrT_98 : isStr Tryz.prog 98 = false := by kernel_rfl
@[simp] theorem zeroC_98 : zeroC Tryz.prog 98 = some [.sc .nilFunc] := by kernel_rfl
@[simp] theorem isPtrT_98 : isPtr Tryz.prog 98 = false := by kernel_rfl
@[simp] theorem isBytesT_98 : isBytes Tryz.prog 98 = false := by kernel_rfl
@[simp] theorem intOfT_98 : Av.intOf Tryz.prog 98 = none := by kernel_rfl
@[simp] theorem tyAgg_100 : tyAgg Tryz.prog 100 = some false := by kernel_rfl
@[simp] theorem tySize_100 : tySize Tryz.prog 100 = some 1 := by kernel_rfl
@[simp] theorem isSomeT_100 : Av.isSome Tryz.prog 100 = true := by kernel_rfl
@[simp] theorem isIfaceT_100 : isIface Tryz.prog 100 = false := by kernel_rfl
@[simp] theorem isStrT_100 : isStr Tryz.prog 100 = false := by kernel_rfl
@[simp] theorem zeroC_100 : zeroC Tryz.prog 100 = some [.sc .nilFunc] := by kernel_rfl
@[simp] theorem isPtrT_100 : isPtr Tryz.prog 100 = false := by kernel_rfl
@[simp] theorem isBytesT_100 : isBytes Tryz.prog 100 = false := by kernel_rfl
@[simp] theorem intOfT_100 : Av.intOf Tryz.prog 100 = none := by kernel_rfl
@[simp] theorem tyAgg_101 : tyAgg Tryz.prog 101 = some false := by kernel_rfl
@[simp] theorem tySize_101 : tySize Tryz.prog 101 = some 1 := by kernel_rfl
@[simp] theorem isSomeT_101 : Av.isSome Tryz.prog 101 = true := by kernel_rfl
@[simp] theorem isIfaceT_101 : isIface Tryz.prog 101 = false := by kernel_rfl
@[simp] theorem isStrT_101 : isStr Tryz.prog 101 = false := by kernel_rfl
@[simp] theorem zeroC_101 : zeroC Tryz.prog 101 = some [.sc .nilFunc] := by kernel_rfl
@[simp] theorem isPtrT_101 : isPtr Tryz.prog 101 = false := by kernel_rfl
@[simp] theorem isBytesT_101 : isBytes Tryz.prog 101 = false := by kernel_rfl
@[simp] theorem intOfT_101 : Av.intOf Tryz.prog 101 = none := by kernel_rfl
@[simp] theorem tyAgg_102 : tyAgg Tryz.prog 102 = some false := by kernel_rfl
@[simp] theorem tySize_102 : tySize Tryz.prog 102 = some 1 := by kernel_rfl
@[simp] theorem isSomeT_102 : Av.isSome Tryz.prog 102 = true := by kernel_rfl
@[simp] theorem isIfaceT_102 : isIface Tryz.prog 102 = false := by kernel_rfl
@[simp] theorem isStrT_102 : isStr Tryz.prog 102 = false := by kernel_rfl
@[simp] theorem zeroC_102 : zeroC Tryz.prog 102 = some [.sc .nilFunc] := by kernel_rfl
@[simp] theorem isPtrT_102 : isPtr Tryz.prog 102 = false := by kernel_rfl
@[simp] theorem isBytesT_102 : isBytes Tryz.prog 102 = false := by kernel_rfl
@[simp] theorem intOfT_102 : Av.intOf Tryz.prog 102 = none := by kernel_rfl
@[simp] theorem tyAgg_103 : tyAgg Tryz.prog 103 = some false := by kernel_rfl
@[simp] theorem tySize_103 : tySize Tryz.prog 103 = some 1 := by kernel_rfl
@[simp] theorem isSomeT_103 : Av.isSome Tryz.prog 103 = true := by kernel_rfl
@[simp] theorem isIfaceT_103 : isIface Tryz.prog 103 = false := by kernel_rfl
@[simp] theorem isStrT_103 : isStr Tryz.prog 103 = false := by kernel_rfl
@[simp] theorem zeroC_103 : zeroC Tryz.prog 103 = some [.sc .nilFunc] := by kernel_rfl
@[simp] theorem isPtrT_103 : isPtr Tryz.prog 103 = false := by kernel_rfl
@[simp] theorem isBytesT_103 : isBytes Tryz.prog 103 = false := by kernel_rfl
@[simp] theorem intOfT_103 : Av.intOf Tryz.prog 103 = none := by kernel_rfl
@[simp] theorem tyAgg_104 : tyAgg Tryz.prog 104 = some false := by kernel_rfl
@[simp] theorem tySize_104 : tySize Tryz.prog 104 = some 1 := by kernel_rfl
@[simp] theorem isSomeT_104 : Av.isSome Tryz.prog 104 = true := by kernel_rfl
@[simp] theorem isIfaceT_104 : isIface Tryz.prog 104 = false := by kernel_rfl
@[simp] theorem isStrT_104 : isStr Tryz.prog 104 = false := by kernel_rfl
@[simp] theorem zeroC_104 : zeroC Tryz.prog 104 = some [.sc .nilFunc] := by kernel_rfl
@[simp] theorem isPtrT_104 : isPtr Tryz.prog 104 = false := by kernel_rfl
@[simp] theorem isBytesT_104 : isBytes Tryz.prog 104 = false := by kernel_rfl
@[simp] theorem intOfT_104 : Av.intOf Tryz.prog 104 = none := by kernel_rfl
@[simp] theorem tyAgg_105 : tyAgg Tryz.prog 105 = some false := by kernel_rfl
@[simp] theorem tySize_105 : tySize Tryz.prog 105 = some 1 := by kernel_rfl
@[simp] theorem isSomeT_105 : Av.isSome Tryz.prog 105 = true := by kernel_rfl
@[simp] theorem isIfaceT_105 : isIface Tryz.prog 105 = false := by kernel_rfl
@[simp] theorem isStrT_105 : isStr Tryz.prog 105 = false := by kernel_rfl
@[simp] theorem zeroC_105 : zeroC Tryz.prog 105 = some [.sc .nilFunc] := by kernel_rfl
@[simp] theorem isPtrT_105 : isPtr Tryz.prog 105 = false := by kernel_rfl
@[simp] theorem isBytesT_105 : isBytes Tryz.prog 105 = false := by kernel_rfl
@[simp] theorem intOfT_105 : Av.intOf Tryz.prog 105 = none := by kernel_rfl
@[simp] theorem tyAgg_106 : tyAgg Tryz.prog 106 = some false := by kernel_rfl
@[simp] theorem tySize_106 : tySize Tryz.prog 106 = some 1 := by kernel_rfl
@[simp] theorem isSomeT_106 : Av.isSome Tryz.prog 106 = true := by kernel_rfl
@[simp] theorem isIfaceT_106 : isIface Tryz.prog 106 = false := by kernel_rfl
@[simp] theorem isStrT_106 : isStr Tryz.prog 106 = false := by kernel_rfl
@[simp] theorem zeroC_106 : zeroC Tryz.prog 106 = some [.sc .nilFunc] := by kernel_rfl
@[simp] theorem isPtrT_106 : isPtr Tryz.prog 106 = false := by kernel_rfl
@[simp] theorem isBytesT_106 : isBytes Tryz.prog 106 = false := by kernel_rfl
@[simp] theorem intOfT_106 : Av.intOf Tryz.prog 106 = none := by kernel_rfl
@[simp] theorem tyAgg_107 : tyAgg Tryz.prog 107 = some false := by kernel_rfl
@[simp] theorem tySize_107 : tySize Tryz.prog 107 = some 1 := by kernel_rfl
@[simp] theorem isSomeT_107 : Av.isSome Tryz.prog 107 = true := by kernel_rfl
@[simp] theorem isIfaceT_107 : isIface Tryz.prog 107 = false := by kernel_rfl
@[simp] theorem isStrT_107 : isStr Tryz.prog 107 = false := by kernel_rfl
@[simp] theorem zeroC_107 : zeroC Tryz.prog 107 = some [.sc .nilFunc] := by kernel_rfl
@[simp] theorem isPtrT_107 : isPtr Tryz.prog 107 = false := by kernel_rfl
@[simp] theorem isBytesT_107 : isBytes Tryz.prog 107 = false := by kernel_rfl
@[simp] theorem intOfT_107 : Av.intOf Tryz.prog 107 = none := by kernel_rfl
@[simp] theorem tyAgg_108 : tyAgg Tryz.prog 108 = some false := by kernel_rfl
@[simp] theorem tySize_108 : tySize Tryz.prog 108 = some 1 := by kernel_rfl
@[simp] theorem isSomeT_108 : Av.isSome Tryz.prog 108 = true := by kernel_rfl
@[simp] theorem isIfaceT_108 : isIface Tryz.prog 108 = false := by kernel_rfl
@[simp] theorem isStrT_108 : isStr Tryz.prog 108 = false := by kernel_rfl
@[simp] theorem zeroC_108 : zeroC Tryz.prog 108 = some [.sc .nilFunc] := by kernel_rfl
@[simp] theorem isPtrT_108 : isPtr Tryz.prog 108 = false := by kernel_rfl
@[simp] theorem isBytesT_108 : isBytes Tryz.prog 108 = false := by kernel_rfl
@[simp] theorem intOfT_108 : Av.intOf Tryz.prog 108 = none := by kernel_rfl
@[simp] theorem tyAgg_109 : tyAgg Tryz.prog 109 = some false := by kernel_rfl
@[simp] theorem tySize_109 : tySize Tryz.prog 109 = some 1 := by kernel_rfl
@[simp] theorem isSomeT_109 : Av.isSome Tryz.prog 109 = true := by kernel_rfl
@[simp] theorem isIfaceT_109 : isIface Tryz.prog 109 = false := by kernel_rfl
@[simp] theorem isStrT_109 : isStr Tryz.prog 109 = false := by kernel_rfl
@[simp] theorem zeroC_109 : zeroC Tryz.prog 109 = some [.sc .nilFunc] := by kernel_rfl
@[simp] theorem isPtrT_109 : isPtr Tryz.prog 109 = false := by kernel_rfl
@[simp] theorem isBytesT_109 : isBytes Tryz.prog 109 = false := by kernel_rfl
@[simp] theorem intOfT_109 : Av.intOf Tryz.prog 109 = none := by kernel_rfl
@[simp] theorem tyAgg_110 : tyAgg Tryz.prog 110 = some false := by kernel_rfl
@[simp] theorem tySize_110 : tySize Tryz.prog 110 = some 1 := by kernel_rfl
@[simp] theorem isSomeT_110 : Av.isSome Tryz.prog 110 = true := by kernel_rfl
@[simp] theorem isIfaceT_110 : isIface Tryz.prog 110 = false := by kernel_rfl
@[simp] theorem isStrT_110 : isStr Tryz.prog 110 = false := by kernel_rfl
@[simp] theorem zeroC_110 : zeroC Tryz.prog 110 = some [.sc .nilFunc] := by kernel_rfl
@[simp] theorem isPtrT_110 : isPtr Tryz.prog 110 = false := by kernel_rfl
@[simp] theorem isBytesT_110 : isBytes Tryz.prog 110 = false := by kernel_rfl
@[simp] theorem intOfT_110 : Av.intOf Tryz.prog 110 = none := by kernel_rfl
@[simp] theorem tyAgg_111 : tyAgg Tryz.prog 111 = some false := by kernel_rfl
@[simp] theorem tySize_111 : tySize Tryz.prog 111 = some 1 := by kernel_rfl
@[simp] theorem isSomeT_111 : Av.isSome Tryz.prog 111 = true := by kernel_rfl
@[simp] theorem isIfaceT_111 : isIface Tryz.prog 111 = false := by kernel_rfl
@[simp] theorem isStrT_111 : isStr Tryz.prog 111 = false := by kernel_rfl
@[simp] theorem zeroC_111 : zeroC Tryz.prog 111 = some [.nil] := by kernel_rfl
@[simp] theorem isPtrT_111 : isPtr Tryz.prog 111 = false := by kernel_rfl
@[simp] theorem elSize_111 : elSize Tryz.prog 111 = some 1 := by kernel_rfl
@[simp] theorem elTy_111 : elTy Tryz.prog 111 = some (3, 1, 8) := by kernel_rfl
@[simp] theorem isBytesT_111 : isBytes Tryz.prog 111 = false := by kernel_rfl
@[simp] theorem intOfT_111 : Av.intOf Tryz.prog 111 = none := by kernel_rfl
@[simp] theorem tyAgg_112 : tyAgg Tryz.prog 112 = some false := by kernel_rfl
@[simp] theorem tySize_112 : tySize Tryz.prog 112 = some 1 := by kernel_rfl
@[simp] theorem isSomeT_112 : Av.isSome Tryz.prog 112 = true := by kernel_rfl
@[simp] theorem isIfaceT_112 : isIface Tryz.prog 112 = false := by kernel_rfl
@[simp] theorem isStrT_112 : isStr Tryz.prog 112 = false := by kernel_rfl
@[simp] theorem zeroC_112 : zeroC Tryz.prog 112 = some [.sc .nilFunc] := by kernel_rfl
@[simp] theorem isPtrT_112 : isPtr Tryz.prog 112 = false := by kernel_rfl
@[simp] theorem isBytesT_112 : isBytes Tryz.prog 112 = false := by kernel_rfl
@[simp] theorem intOfT_112 : Av.intOf Tryz.prog 112 = none := by kernel_rfl
@[simp] theorem tyAgg_113 : tyAgg Tryz.prog 113 = some false := by kernel_rfl
@[simp] theorem tySize_113 : tySize Tryz.prog 113 = some 1 := by kernel_rfl
@[simp] theorem isSomeT_113 : Av.isSome Tryz.prog 113 = true := by kernel_rfl
@[simp] theorem isIfaceT_113 : isIface Tryz.prog 113 = false := by kernel_rfl
@[simp] theorem isStrT_113 : isStr Tryz.prog 113 = false := by kernel_rfl
@[simp] theorem zeroC_113 : zeroC Tryz.prog 113 = some [.sc .nilFunc] := by kernel_rfl
@[simp] theorem isPtrT_113 : isPtr Tryz.prog 113 = false := by kernel_rfl
@[simp] theorem isBytesT_113 : isBytes Tryz.prog 113 = false := by kernel_rfl
@[simp] theorem intOfT_113 : Av.intOf Tryz.prog 113 = none := by kernel_rfl
@[simp] theorem tyAgg_114 : tyAgg Tryz.prog 114 = some false := by kernel_rfl
@[simp] theorem tySize_114 : tySize Tryz.prog 114 = some 1 := by kernel_rfl
@[simp] theorem isSomeT_114 : Av.isSome Tryz.prog 114 = true := by kernel_rfl
@[simp] theorem isIfaceT_114 : isIface Tryz.prog 114 = false := by kernel_rfl
@[simp] theorem isStrT_114 : isStr Tryz.prog 114 = false := by kernel_rfl
@[simp] theorem zeroC_114 : zeroC Tryz.prog 114 = some [.sc .nilFunc] := by kernel_rfl
@[simp] theorem isPtrT_114 : isPtr Tryz.prog 114 = false := by kernel_rfl
@[simp] theorem isBytesT_114 : isBytes Tryz.prog 114 = false := by kernel_rfl
@[simp] theorem intOfT_114 : Av.intOf Tryz.prog 114 = none := by kernel_rfl
@[simp] theorem tyAgg_115 : tyAgg Tryz.prog 115 = some false := by kernel_rfl
@[simp] theorem tySize_115 : tySize Tryz.prog 115 = some 1 := by kernel_rfl
@[simp] theorem isSomeT_115 : Av.isSome Tryz.prog 115 = true := by kernel_rfl
@[simp] theorem isIfaceT_115 : isIface Tryz.prog 115 = false := by kernel_rfl
@[simp] theorem isStrT_115 : isStr Tryz.prog 115 = false := by kernel_rfl
@[simp] theorem zeroC_115 : zeroC Tryz.prog 115 = some [.sc .nilFunc] := by kernel_rfl
@[simp] theorem isPtrT_115 : isPtr Tryz.prog 115 = false := by kernel_rfl
@[simp] theorem isBytesT_115 : isBytes Tryz.prog 115 = false := by kernel_rfl
@[simp] theorem intOfT_115 : Av.intOf Tryz.prog 115 = none := by kernel_rfl
@[simp] theorem tyAgg_116 : tyAgg Tryz.prog 116 = some false := by kernel_rfl
@[simp] theorem tySize_116 : tySize Tryz.prog 116 = some 1 := by kernel_rfl
@[simp] theorem isSomeT_116 : Av.isSome Tryz.prog 116 = true := by kernel_rfl
@[simp] theorem isIfaceT_116 : isIface Tryz.prog 116 = false := by kernel_rfl
@[simp] theorem isStrT_116 : isStr Tryz.prog 116 = false := by kernel_rfl
@[simp] theorem zeroC_116 : zeroC Tryz.prog 116 = some [.sc .nilFunc] := by kernel_rfl
@[simp] theorem isPtrT_116 : isPtr Tryz.prog 116 = false := by kernel_rfl
@[simp] theorem isBytesT_116 : isBytes Tryz.prog 116 = false := by kernel_rfl
@[simp] theorem intOfT_116 : Av.intOf Tryz.prog 116 = none := by kernel_rfl
@[simp] theorem tyAgg_117 : tyAgg Tryz.prog 117 = some false := by kernel_rfl
@[simp] theorem tySize_117 : tySize Tryz.prog 117 = some 1 := by kernel_rfl
@[simp] theorem isSomeT_117 : Av.isSome Tryz.prog 117 = true := by kernel_rfl
@[simp] theorem isIfaceT_117 : isIface Tryz.prog 117 = false := by kernel_rfl
@[simp] theorem isStrT_117 : isStr Tryz.prog 117 = false := by kernel_rfl
@[simp] theorem zeroC_117 : zeroC Tryz.prog 117 = some [.sc .nilFunc] := by kernel_rfl
@[simp] theorem isPtrT_117 : isPtr Tryz.prog 117 = false := by kernel_rfl
@[simp] theorem isBytesT_117 : isBytes Tryz.prog 117 = false := by kernel_rfl
@[simp] theorem intOfT_117 : Av.intOf Tryz.prog 117 = none := by kernel_rfl
@[simp] theorem tyAgg_118 : tyAgg Tryz.prog 118 = some false := by kernel_rfl
@[simp] theorem tySize_118 : tySize Tryz.prog 118 = some 1 := by kernel_rfl
@[simp] theorem isSomeT_118 : Av.isSome Tryz.prog 118 = true := by kernel_rfl
@[simp] theorem isIfaceT_118 : isIface Tryz.prog 118 = false := by kernel_rfl
@[simp] theorem isStrT_118 : isStr Tryz.prog 118 = false := by kernel_rfl
@[simp] theorem zeroC_118 : zeroC Tryz.prog 118 = some [.sc .nilFunc] := by kernel_rfl
@[simp] theorem isPtrT_118 : isPtr Tryz.prog 118 = false := by kernel_rfl
@[simp] theorem isBytesT_118 : isBytes Tryz.prog 118 = false := by kernel_rfl
@[simp] theorem intOfT_118 : Av.intOf Tryz.prog 118 = none := by kernel_rfl
@[simp] theorem tyAgg_119 : tyAgg Tryz.prog 119 = some false := by kernel_rfl
@[simp] theorem tySize_119 : tySize Tryz.prog 119 = some 1 := by kernel_rfl
@[simp] theorem isSomeT_119 : Av.isSome Tryz.prog 119 = true := by kernel_rfl
@[simp] theorem isIfaceT_119 : isIface Tryz.prog 119 = false := by kernel_rfl
@[simp] theorem isStrT_119 : isStr Tryz.prog 119 = false := by kernel_rfl
@[simp] theorem zeroC_119 : zeroC Tryz.prog 119 = some [.sc .nilFunc] := by kernel_rfl
@[simp] theorem isPtrT_119 : isPtr Tryz.prog 119 = false := by kernel_rfl
@[simp] theorem isBytesT_119 : isBytes Tryz.prog 119 = false := by kernel_rfl
@[simp] theorem intOfT_119 : Av.intOf Tryz.prog 119 = none := by kernel_rfl
@[simp] theorem tyAgg_121 : tyAgg Tryz.prog 121 = some false := by kernel_rfl
@[simp] theorem tySize_121 : tySize Tryz.prog 121 = some 1 := by kernel_rfl
@[simp] theorem isSomeT_121 : Av.isSome Tryz.prog 121 = true := by kernel_rfl
@[simp] theorem isIfaceT_121 : isIface Tryz.prog 121 = false := by kernel_rfl
@[simp] theorem isStrT_121 : isStr Tryz.prog 121 = false := by kernel_rfl
@[simp] theorem zeroC_121 : zeroC Tryz.prog 121 = some [.sc .nilFunc] := by kernel_rfl
@[simp] theorem isPtrT_121 : isPtr Tryz.prog 121 = false := by kernel_rfl
@[simp] theorem isBytesT_121 : isBytes Tryz.prog 121 = false := by kernel_rfl
@[simp] theorem intOfT_121 : Av.intOf Tryz.prog 121 = none := by kernel_rfl
@[simp] theorem tyAgg_122 : tyAgg Tryz.prog 122 = some false := by kernel_rfl
@[simp] theorem tySize_122 : tySize Tryz.prog 122 = some 1 := by kernel_rfl
@[simp] theorem isSomeT_122 : Av.isSome Tryz.prog 122 = true := by kernel_rfl
@[simp] theorem isIfaceT_122 : isIface Tryz.prog 122 = false := by kernel_rfl
@[simp] theorem isStrT_122 : isStr Tryz.prog 122 = false := by kernel_rfl
@[simp] theorem zeroC_122 : zeroC Tryz.prog 122 = some [.sc .nilFunc] := by kernel_rfl
@[simp] theorem isPtrT_122 : isPtr Tryz.prog 122 = false := by kernel_rfl
@[simp] theorem isBytesT_122 : isBytes Tryz.prog 122 = false := by kernel_rfl
@[simp] theorem intOfT_122 : Av.intOf Tryz.prog 122 = none := by kernel_rfl
@[simp] theorem tyAgg_123 : tyAgg Tryz.prog 123 = some false := by kernel_rfl
@[simp] theorem tySize_123 : tySize Tryz.prog 123 = some 1 := by kernel_rfl
@[simp] theorem isSomeT_123 : Av.isSome Tryz.prog 123 = true := by kernel_rfl
@[simp] theorem isIfaceT_123 : isIface Tryz.prog 123 = false := by kernel_rfl
@[simp] theorem isStrT_123 : isStr Tryz.prog 123 = false := by kernel_rfl
@[simp] theorem zeroC_123 : zeroC Tryz.prog 123 = some [.sc .nilFunc] := by kernel_rfl
@[simp] theorem isPtrT_123 : isPtr Tryz.prog 123 = false := by kernel_rfl
@[simp] theorem isBytesT_123 : isBytes Tryz.prog 123 = false := by kernel_rfl
@[simp] theorem intOfT_123 : Av.intOf Tryz.prog 123 = none := by kernel_rfl
@[simp] theorem tyAgg_124 : tyAgg Tryz.prog 124 = some false := by kernel_rfl
@[simp] theorem tySize_124 : tySize Tryz.prog 124 = some 1 := by kernel_rfl
@[simp] theorem isSomeT_124 : Av.isSome Tryz.prog 124 = true := by kernel_rfl
@[simp] theorem isIfaceT_124 : isIface Tryz.prog 124 = false := by kernel_rfl
@[simp] theorem isStrT_124 : isStr Tryz.prog 124 = false := by kernel_rfl
@[simp] theorem zeroC_124 : zeroC Tryz.prog 124 = some [.sc .nilFunc] := by kernel_rfl
@[simp] theorem isPtrT_124 : isPtr Tryz.prog 124 = false := by kernel_rfl
@[simp] theorem isBytesT_124 : isBytes Tryz.prog 124 = false := by kernel_rfl
@[simp] theorem intOfT_124 : Av.intOf Tryz.prog 124 = none := by kernel_rfl
@[simp] theorem tyAgg_125 : tyAgg Tryz.prog 125 = some false := by kernel_rfl
@[simp] theorem tySize_125 : tySize Tryz.prog 125 = some 1 := by kernel_rfl
@[simp] theorem isSomeT_125 : Av.isSome Tryz.prog 125 = true := by kernel_rfl
@[simp] theorem isIfaceT_125 : isIface Tryz.prog 125 = false := by kernel_rfl
@[simp] theorem isStrT_125 : isStr Tryz.prog 125 = false := by kernel_rfl
@[simp] theorem zeroC_125 : zeroC Tryz.prog 125 = some [.sc .nilFunc] := by kernel_rfl
@[simp] theorem isPtrT_125 : isPtr Tryz.prog 125 = false := by kernel_rfl
@[simp] theorem isBytesT_125 : isBytes Tryz.prog 125 = false := by kernel_rfl
@[simp] theorem intOfT_125 : Av.intOf Tryz.prog 125 = none := by kernel_rfl
@[simp] theorem tyAgg_126 : tyAgg Tryz.prog 126 = some false := by kernel_rfl
@[simp] theorem tySize_126 : tySize Tryz.prog 126 = some 1 := by kernel_rfl
@[simp] theorem isSomeT_126 : Av.isSome Tryz.prog 126 = true := by kernel_rfl
@[simp] theorem isIfaceT_126 : isIface Tryz.prog 126 = false := by kernel_rfl
@[simp] theorem isStrT_126 : isStr Tryz.prog 126 = false := by kernel_rfl
@[simp] theorem zeroC_126 : zeroC Tryz.prog 126 = some [.sc .nilFunc] := by kernel_rfl
@[simp] theorem isPtrT_126 : isPtr Tryz.prog 126 = false := by kernel_rfl
@[simp] theorem isBytesT_126 : isBytes Tryz.prog 126 = false := by kernel_rfl
@[simp] theorem intOfT_126 : Av.intOf Tryz.prog 126 = none := by kernel_rfl
@[simp] theorem tyAgg_128 : tyAgg Tryz.prog 128 = some false := by kernel_rfl
@[simp] theorem tySize_128 : tySize Tryz.prog 128 = some 1 := by kernel_rfl
@[simp] theorem isSomeT_128 : Av.isSome Tryz.prog 128 = true := by kernel_rfl
@[simp] theorem isIfaceT_128 : isIface Tryz.prog 128 = false := by kernel_rfl
@[simp] theorem isStrT_128 : isStr Tryz.prog 128 = false := by kernel_rfl
@[simp] theorem zeroC_128 : zeroC Tryz.prog 128 = some [.sc .nilFunc] := by kernel_rfl
@[simp] theorem isPtrT_128 : isPtr Tryz.prog 128 = false := by kernel_rfl
@[simp] theorem isBytesT_128 : isBytes Tryz.prog 128 = false := by kernel_rfl
@[simp] theorem intOfT_128 : Av.intOf Tryz.prog 128 = none := by kernel_rfl
@[simp] theorem tyAgg_129 : tyAgg Tryz.prog 129 = some false := by kernel_rfl
@[simp] theorem tySize_129 : tySize Tryz.prog 129 = some 1 := by kernel_rfl
@[simp] theorem isSomeT_129 : Av.isSome Tryz.prog 129 = true := by kernel_rfl
@[simp] theorem isIfaceT_129 : isIface Tryz.prog 129 = false := by kernel_rfl
@[simp] theorem isStrT_129 : isStr Tryz.prog 129 = false := by kernel_rfl
@[simp] theorem zeroC_129 : zeroC Tryz.prog 129 = some [.sc .nilFunc] := by kernel_rfl
@[simp] theorem isPtrT_129 : isPtr Tryz.prog 129 = false := by kernel_rfl
@[simp] theorem isBytesT_129 : isBytes Tryz.prog 129 = false := by kernel_rfl
@[simp] theorem intOfT_129 : Av.intOf Tryz.prog 129 = none := by kernel_rfl
@[simp] theorem tyAgg_130 : tyAgg Tryz.prog 130 = some false := by kernel_rfl
@[simp] theorem tySize_130 : tySize Tryz.prog 130 = some 1 := by kernel_rfl
@[simp] theorem isSomeT_130 : Av.isSome Tryz.prog 130 = true := by kernel_rfl
@[simp] theorem isIfaceT_130 : isIface Tryz.prog 130 = false := by kernel_rfl
@[simp] theorem isStrT_130 : isStr Tryz.prog 130 = false := by kernel_rfl
@[simp] theorem zeroC_130 : zeroC Tryz.prog 130 = some [.sc .nilFunc] := by kernel_rfl
@[simp] theorem isPtrT_130 : isPtr Tryz.prog 130 = false := by kernel_rfl
@[simp] theorem isBytesT_130 : isBytes Tryz.prog 130 = false := by kernel_rfl
@[simp] theorem intOfT_130 : Av.intOf Tryz.prog 130 = none := by kernel_rfl
@[simp] theorem tyAgg_131 : tyAgg Tryz.prog 131 = some false := by kernel_rfl
@[simp] theorem tySize_131 : tySize Tryz.prog 131 = some 1 := by kernel_rfl
@[simp] theorem isSomeT_131 : Av.isSome Tryz.prog 131 = true := by kernel_rfl
@[simp] theorem isIfaceT_131 : isIface Tryz.prog 131 = false := by kernel_rfl
@[simp] theorem isStrT_131 : isStr Tryz.prog 131 = false := by kernel_rfl
@[simp] theorem zeroC_131 : zeroC Tryz.prog 131 = some [.sc .nilFunc] := by kernel_rfl
@[simp] theorem isPtrT_131 : isPtr Tryz.prog 131 = false := by kernel_rfl
@[simp] theorem isBytesT_131 : isBytes Tryz.prog 131 = false := by kernel_rfl
@[simp] theorem intOfT_131 : Av.intOf Tryz.prog 131 = none := by kernel_rfl
@[simp] theorem tyAgg_132 : tyAgg Tryz.prog 132 = some false := by kernel_rfl
@[simp] theorem tySize_132 : tySize Tryz.prog 132 = some 1 := by kernel_rfl
@[simp] theorem isSomeT_132 : Av.isSome Tryz.prog 132 = true := by kernel_rfl
@[simp] theorem isIfaceT_132 : isIface Tryz.prog 132 = false := by kernel_rfl
@[simp] theorem isStrT_132 : isStr Tryz.prog 132 = false := by kernel_rfl
@[simp] theorem zeroC_132 : zeroC Tryz.prog 132 = some [.sc .nilFunc] := by kernel_rfl
@[simp] theorem isPtrT_132 : isPtr Tryz.prog 132 = false := by kernel_rfl
@[simp] theorem isBytesT_132 : isBytes Tryz.prog 132 = false := by kernel_rfl
@[simp] theorem intOfT_132 : Av.intOf Tryz.prog 132 = none := by kernel_rfl
@[simp] theorem tyAgg_133 : tyAgg Tryz.prog 133 = some false := by kernel_rfl
@[simp] theorem tySize_133 : tySize Tryz.prog 133 = some 1 := by kernel_rfl
@[simp] theorem isSomeT_133 : Av.isSome Tryz.prog 133 = true := by kernel_rfl
@[simp] theorem isIfaceT_133 : isIface Tryz.prog 133 = false := by kernel_rfl
@[simp] theorem isStrT_133 : isStr Tryz.prog 133 = false := by kernel_rfl
@[simp] theorem zeroC_133 : zeroC Tryz.prog 133 = some [.sc .nilFunc] := by kernel_rfl
@[simp] theorem isPtrT_133 : isPtr Tryz.prog 133 = false := by kernel_rfl
@[simp] theorem isBytesT_133 : isBytes Tryz.prog 133 = false := by kernel_rfl
@[simp] theorem intOfT_133 : Av.intOf Tryz.prog 133 = none := by kernel_rfl
@[simp] theorem tyAgg_134 : tyAgg Tryz.prog 134 = some true := by kernel_rfl
@[simp] theorem tySize_134 : tySize Tryz.prog 134 = some 3 := by kernel_rfl
@[simp] theorem isSomeT_134 : Av.isSome Tryz.prog 134 = true := by kernel_rfl
@[simp] theorem isIfaceT_134 : isIface Tryz.prog 134 = false := by kernel_rfl
@[simp] theorem isStrT_134 : isStr Tryz.prog 134 = false := by kernel_rfl
@[simp] theorem zeroC_134 : zeroC Tryz.prog 134 = some [.str [], .str [], .sc (.bool false)] := by kernel_rfl
@[simp] theorem fieldsOk_134 : fieldsOk Tryz.prog 134 = true := by kernel_rfl
@[simp] theorem isPtrT_134 : isPtr Tryz.prog 134 = false := by kernel_rfl
@[simp] theorem fldL_134 : fldL Tryz.prog 134 = some [(0, 9), (1, 9), (2, 4)] := by kernel_rfl
@[simp] theorem eqOkT_134 : eqOkT Tryz.prog 134 = true := by kernel_rfl
@[simp] theorem placeP_134_0 : placeP Tryz.prog 134 0 = some (0, 1) := by kernel_rfl
@[simp] theorem placeP_134_1 : placeP Tryz.prog 134 1 = some (1, 1) := by kernel_rfl
@[simp] theorem placeP_134_2 : placeP Tryz.prog 134 2 = some (2, 1) := by kernel_rfl
@[simp] theorem fld_134_0 : fld Tryz.prog 134 0 = some (0, 1, false) := by kernel_rfl
@[simp] theorem fld_134_1 : fld Tryz.prog 134 1 = some (1, 1, false) := by kernel_rfl
@[simp] theorem fld_134_2 : fld Tryz.prog 134 2 = some (2, 1, false) := by kernel_rfl
@[simp] theorem isBytesT_134 : isBytes Tryz.prog 134 = false := by kernel_rfl
@[simp] theorem intOfT_134 : Av.intOf Tryz.prog 134 = none := by kernel_rfl
@[simp] theorem tyAgg_135 : tyAgg Tryz.prog 135 = some true := by kernel_rfl
@[simp] theorem tySize_135 : tySize Tryz.prog 135 = some 3 := by kernel_rfl
@[simp] theorem isSomeT_135 : Av.isSome Tryz.prog 135 = true := by kernel_rfl
@[simp] theorem isIfaceT_135 : isIface Tryz.prog 135 = false := by kernel_rfl
@[simp] theorem isStrT_135 : isStr Tryz.prog 135 = false := by kernel_rfl
@[simp] theorem zeroC_135 : zeroC Tryz.prog 135 = some [.str [], .str [], .sc (.bool false)] := by kernel_rfl
@[simp] theorem fieldsOk_135 : fieldsOk Tryz.prog 135 = true := by kernel_rfl
@[simp] theorem isPtrT_135 : isPtr Tryz.prog 135 = false := by kernel_rfl
@[simp] theorem fldL_135 : fldL Tryz.prog 135 = some [(0, 9), (1, 9), (2, 4)] := by kernel_rfl
@[simp] theorem eqOkT_135 : eqOkT Tryz.prog 135 = true := by kernel_rfl
@[simp] theorem placeP_135_0 : placeP Tryz.prog 135 0 = some (0, 1) := by kernel_rfl
@[simp] theorem placeP_135_1 : placeP Tryz.prog 135 1 = some (1, 1) := by kernel_rfl
@[simp] theorem placeP_135_2 : placeP Tryz.prog 135 2 = some (2, 1) := by kernel_rfl
@[simp] theorem fld_135_0 : fld Tryz.prog 135 0 = some (0, 1, false) := by kernel_rfl
@[simp] theorem fld_135_1 : fld Tryz.prog 135 1 = some (1, 1, false) := by kernel_rfl
@[simp] theorem fld_135_2 : fld Tryz.prog 135 2 = some (2, 1, false) := by kernel_rfl
@[simp] theorem isBytesT_135 : isBytes Tryz.prog 135 = false := by kernel_rfl
@[simp] theorem intOfT_135 : Av.intOf Tryz.prog 135 = none := by kernel_rfl
@[simp] theorem tyAgg_137 : tyAgg Tryz.prog 137 = some false := by kernel_rfl
@[simp] theorem tySize_137 : tySize Tryz.prog 137 = some 1 := by kernel_rfl
@[simp] theorem isSomeT_137 : Av.isSome Tryz.prog 137 = true := by kernel_rfl
@[simp] theorem isIfaceT_137 : isIface Tryz.prog 137 = false := by kernel_rfl
@[simp] theorem isStrT_137 : isStr Tryz.prog 137 = false := by kernel_rfl
@[simp] theorem zeroC_137 : zeroC Tryz.prog 137 = some [.sc .nilFunc] := by kernel_rfl
@[simp] theorem isPtrT_137 : isPtr Tryz.prog 137 = false := by kernel_rfl
@[simp] theorem isBytesT_137 : isBytes Tryz.prog 137 = false := by kernel_rfl
@[simp] theorem intOfT_137 : Av.intOf Tryz.prog 137 = none := by kernel_rfl
@[simp] theorem tyAgg_138 : tyAgg Tryz.prog 138 = some false := by kernel_rfl
@[simp] theorem tySize_138 : tySize Tryz.prog 138 = some 1 := by kernel_rfl
@[simp] theorem isSomeT_138 : Av.isSome Tryz.prog 138 = true := by kernel_rfl
@[simp] theorem isIfaceT_138 : isIface Tryz.prog 138 = false := by kernel_rfl
@[simp] theorem isStrT_138 : isStr Tryz.prog 138 = false := by kernel_rfl
@[simp] theorem zeroC_138 : zeroC Tryz.prog 138 = some [.sc (.pointer none)] := by kernel_rfl
@[simp] theorem isPtrT_138 : isPtr Tryz.prog 138 = true := by kernel_rfl
@[simp] theorem isBytesT_138 : isBytes Tryz.prog 138 = false := by kernel_rfl
@[simp] theorem intOfT_138 : Av.intOf Tryz.prog 138 = none := by kernel_rfl
@[simp] theorem tyAgg_139 : tyAgg Tryz.prog 139 = some false := by kernel_rfl
@[simp] theorem tySize_139 : tySize Tryz.prog 139 = some 1 := by kernel_rfl
@[simp] theorem isSomeT_139 : Av.isSome Tryz.prog 139 = true := by kernel_rfl
@[simp] theorem isIfaceT_139 : isIface Tryz.prog 139 = false := by kernel_rfl
@[simp] theorem isStrT_139 : isStr Tryz.prog 139 = false := by kernel_rfl
@[simp] theorem zeroC_139 : zeroC Tryz.prog 139 = some [.sc .nilFunc] := by kernel_rfl
@[simp] theorem isPtrT_139 : isPtr Tryz.prog 139 = false := by kernel_rfl
@[simp] theorem isBytesT_139 : isBytes Tryz.prog 139 = false := by kernel_rfl
@[simp] theorem intOfT_139 : Av.intOf Tryz.prog 139 = none := by kernel_rfl
@[simp] theorem tyAgg_140 : tyAgg Tryz.prog 140 = some false := by kernel_rfl
@[simp] theorem tySize_140 : tySize Tryz.prog 140 = some 1 := by kernel_rfl
@[simp] theorem isSomeT_140 : Av.isSome Tryz.prog 140 = true := by kernel_rfl
@[simp] theorem isIfaceT_140 : isIface Tryz.prog 140 = false := by kernel_rfl
@[simp] theorem isStrT_140 : isStr Tryz.prog 140 = false := by kernel_rfl
@[simp] theorem zeroC_140 : zeroC Tryz.prog 140 = some [.sc (.pointer none)] := by kernel_rfl
@[simp] theorem isPtrT_140 : isPtr Tryz.prog 140 = true := by kernel_rfl
@[simp] theorem isBytesT_140 : isBytes Tryz.prog 140 = false := by kernel_rfl
@[simp] theorem intOfT_140 : Av.intOf Tryz.prog 140 = none := by kernel_rfl
@[simp] theorem tyAgg_141 : tyAgg Tryz.prog 141 = some false := by kernel_rfl
@[simp] theorem tySize_141 : tySize Tryz.prog 141 = some 1 := by kernel_rfl
@[simp] theorem isSomeT_141 : Av.isSome Tryz.prog 141 = true := by kernel_rfl
@[simp] theorem isIfaceT_141 : isIface Tryz.prog 141 = false := by kernel_rfl
@[simp] theorem isStrT_141 : isStr Tryz.prog 141 = false := by kernel_rfl
@[simp] theorem zeroC_141 : zeroC Tryz.prog 141 = some [.sc (.pointer none)] := by kernel_rfl
@[simp] theorem isPtrT_141 : isPtr Tryz.prog 141 = true := by kernel_rfl
@[simp] theorem isBytesT_141 : isBytes Tryz.prog 141 = false := by kernel_rfl
@[simp] theorem intOfT_141 : Av.intOf Tryz.prog 141 = none := by kernel_rfl
@[simp] theorem tyAgg_142 : tyAgg Tryz.prog 142 = some false := by kernel_rfl
@[simp] theorem tySize_142 : tySize Tryz.prog 142 = some 1 := by kernel_rfl
@[simp] theorem isSomeT_142 : Av.isSome Tryz.prog 142 = true := by kernel_rfl
@[simp] theorem isIfaceT_142 : isIface Tryz.prog 142 = false := by kernel_rfl
@[simp] theorem isStrT_142 : isStr Tryz.prog 142 = false := by kernel_rfl
@[simp] theorem zeroC_142 : zeroC Tryz.prog 142 = some [.sc .nilFunc] := by kernel_rfl
@[simp] theorem isPtrT_142 : isPtr Tryz.prog 142 = false := by kernel_rfl
@[simp] theorem isBytesT_142 : isBytes Tryz.prog 142 = false := by kernel_rfl
@[simp] theorem intOfT_142 : Av.intOf Tryz.prog 142 = none := by kernel_rfl
@[simp] theorem tyAgg_143 : tyAgg Tryz.prog 143 = some false := by kernel_rfl
@[simp] theorem tySize_143 : tySize Tryz.prog 143 = some 1 := by kernel_rfl
@[simp] theorem isSomeT_143 : Av.isSome Tryz.prog 143 = true := by kernel_rfl
@[simp] theorem isIfaceT_143 : isIface Tryz.prog 143 = false := by kernel_rfl
@[simp] theorem isStrT_143 : isStr Tryz.prog 143 = false := by kernel_rfl
@[simp] theorem zeroC_143 : zeroC Tryz.prog 143 = some [.sc .nilFunc] := by kernel_rfl
@[simp] theorem isPtrT_143 : isPtr Tryz.prog 143 = false := by kernel_rfl
@[simp] theorem isBytesT_143 : isBytes Tryz.prog 143 = false := by kernel_rfl
@[simp] theorem intOfT_143 : Av.intOf Tryz.prog 143 = none := by kernel_rfl
@[simp] theorem tyAgg_144 : tyAgg Tryz.prog 144 = some false := by kernel_rfl
@[simp] theorem tySize_144 : tySize Tryz.prog 144 = some 1 := by kernel_rfl
@[simp] theorem isSomeT_144 : Av.isSome Tryz.prog 144 = true := by kernel_rfl
@[simp] theorem isIfaceT_144 : isIface Tryz.prog 144 = false := by kernel_rfl
@[simp] theorem isStrT_144 : isStr Tryz.prog 144 = false := by kernel_rfl
@[simp] theorem zeroC_144 : zeroC Tryz.prog 144 = some [.sc .nilFunc] := by kernel_rfl
@[simp] theorem isPtrT_144 : isPtr Tryz.prog 144 = false := by kernel_rfl
@[simp] theorem isBytesT_144 : isBytes Tryz.prog 144 = false := by kernel_rfl
@[simp] theorem intOfT_144 : Av.intOf Tryz.prog 144 = none := by kernel_rfl
@[simp] theorem tyAgg_145 : tyAgg Tryz.prog 145 = some false := by kernel_rfl
@[simp] theorem tySize_145 : tySize Tryz.prog 145 = some 1 := by kernel_rfl
@[simp] theorem isSomeT_145 : Av.isSome Tryz.prog 145 = true := by kernel_rfl
@[simp] theorem isIfaceT_145 : isIface Tryz.prog 145 = false := by kernel_rfl
@[simp] theorem isStrT_145 : isStr Tryz.prog 145 = false := by kernel_rfl
@[simp] theorem zeroC_145 : zeroC Tryz.prog 145 = some [.sc .nilFunc] := by kernel_rfl
@[simp] theorem isPtrT_145 : isPtr Tryz.prog 145 = false := by kernel_rfl
@[simp] theorem isBytesT_145 : isBytes Tryz.prog 145 = false := by kernel_rfl
@[simp] theorem intOfT_145 : Av.intOf Tryz.prog 145 = none := by kernel_rfl
@[simp] theorem tyAgg_146 : tyAgg Tryz.prog 146 = some false := by kernel_rfl
@[simp] theorem tySize_146 : tySize Tryz.prog 146 = some 1 := by kernel_rfl
@[simp] theorem isSomeT_146 : Av.isSome Tryz.prog 146 = true := by kernel_rfl
@[simp] theorem isIfaceT_146 : isIface Tryz.prog 146 = false := by kernel_rfl
@[simp] theorem isStrT_146 : isStr Tryz.prog 146 = false := by kernel_rfl
@[simp] theorem zeroC_146 : zeroC Tryz.prog 146 = some [.sc .nilFunc] := by kernel_rfl
@[simp] theorem isPtrT_146 : isPtr Tryz.prog 146 = false := by kernel_rfl
@[simp] theorem isBytesT_146 : isBytes Tryz.prog 146 = false := by kernel_rfl
@[simp] theorem intOfT_146 : Av.intOf Tryz.prog 146 = none := by kernel_rfl
@[simp] theorem tyAgg_147 : tyAgg Tryz.prog 147 = some false := by kernel_rfl
@[simp] theorem tySize_147 : tySize Tryz.prog 147 = some 1 := by kernel_rfl
@[simp] theorem isSomeT_147 : Av.isSome Tryz.prog 147 = true := by kernel_rfl
@[simp] theorem isIfaceT_147 : isIface Tryz.prog 147 = false := by kernel_rfl
@[simp] theorem isStrT_147 : isStr Tryz.prog 147 = false := by kernel_rfl
@[simp] theorem zeroC_147 : zeroC Tryz.prog 147 = some [.sc (.int .u64 0)] := by kernel_rfl
@[simp] theorem isPtrT_147 : isPtr Tryz.prog 147 = false := by kernel_rfl
@[simp] theorem isBytesT_147 : isBytes Tryz.prog 147 = false := by kernel_rfl
@[simp] theorem intOfT_147 : Av.intOf Tryz.prog 147 = some .u64 := by kernel_rfl
@[simp] theorem tyAgg_148 : tyAgg Tryz.prog 148 = some false := by kernel_rfl
@[simp] theorem tySize_148 : tySize Tryz.prog 148 = some 1 := by kernel_rfl
@[simp] theorem isSomeT_148 : Av.isSome Tryz.prog 148 = true := by kernel_rfl
@[simp] theorem isIfaceT_148 : isIface Tryz.prog 148 = false := by kernel_rfl
@[simp] theorem isStrT_148 : isStr Tryz.prog 148 = false := by kernel_rfl
@[simp] theorem zeroC_148 : zeroC Tryz.prog 148 = some [.sc .nilFunc] := by kernel_rfl
@[simp] theorem isPtrT_148 : isPtr Tryz.prog 148 = false := by kernel_rfl
@[simp] theorem isBytesT_148 : isBytes Tryz.prog 148 = false := by kernel_rfl
@[simp] theorem intOfT_148 : Av.intOf Tryz.prog 148 = none := by kernel_rfl
@[simp] theorem tyAgg_150 : tyAgg Tryz.prog 150 = some false := by kernel_rfl
@[simp] theorem tySize_150 : tySize Tryz.prog 150 = some 1 := by kernel_rfl
@[simp] theorem isSomeT_150 : Av.isSome Tryz.prog 150 = true := by kernel_rfl
@[simp] theorem isIfaceT_150 : isIface Tryz.prog 150 = false := by kernel_rfl
@[simp] theorem isStrT_150 : isStr Tryz.prog 150 = false := by kernel_rfl
@[simp] theorem zeroC_150 : zeroC Tryz.prog 150 = some [.sc .nilFunc] := by kernel_rfl
@[simp] theorem isPtrT_150 : isPtr Tryz.prog 150 = false := by kernel_rfl
@[simp] theorem isBytesT_150 : isBytes Tryz.prog 150 = false := by kernel_rfl
@[simp] theorem intOfT_150 : Av.intOf Tryz.prog 150 = none := by kernel_rfl
@[simp] theorem tyAgg_151 : tyAgg Tryz.prog 151 = some false := by kernel_rfl
@[simp] theorem tySize_151 : tySize Tryz.prog 151 = some 1 := by kernel_rfl
@[simp] theorem isSomeT_151 : Av.isSome Tryz.prog 151 = true := by kernel_rfl
@[simp] theorem isIfaceT_151 : isIface Tryz.prog 151 = false := by kernel_rfl
@[simp] theorem isStrT_151 : isStr Tryz.prog 151 = false := by kernel_rfl
@[simp] theorem zeroC_151 : zeroC Tryz.prog 151 = some [.sc .nilFunc] := by kernel_rfl
@[simp] theorem isPtrT_151 : isPtr Tryz.prog 151 = false := by kernel_rfl
@[simp] theorem isBytesT_151 : isBytes Tryz.prog 151 = false := by kernel_rfl
@[simp] theorem intOfT_151 : Av.intOf Tryz.prog 151 = none := by kernel_rfl
@[simp] theorem tyAgg_153 : tyAgg Tryz.prog 153 = some false := by kernel_rfl
@[simp] theorem tySize_153 : tySize Tryz.prog 153 = some 1 := by kernel_rfl
@[simp] theorem isSomeT_153 : Av.isSome Tryz.prog 153 = true := by kernel_rfl
@[simp] theorem isIfaceT_153 : isIface Tryz.prog 153 = false := by kernel_rfl
@[simp] theorem isStrT_153 : isStr Tryz.prog 153 = false := by kernel_rfl
@[simp] theorem zeroC_153 : zeroC Tryz.prog 153 = some [.sc .nilFunc] := by kernel_rfl
@[simp] theorem isPtrT_153 : isPtr Tryz.prog 153 = false := by kernel_rfl
@[simp] theorem isBytesT_153 : isBytes Tryz.prog 153 = false := by kernel_rfl
@[simp] theorem intOfT_153 : Av.intOf Tryz.prog 153 = none := by kernel_rfl
@[simp] theorem tyAgg_154 : tyAgg Tryz.prog 154 = some false := by kernel_rfl
@[simp] theorem tySize_154 : tySize Tryz.prog 154 = some 1 := by kernel_rfl
@[simp] theorem isSomeT_154 : Av.isSome Tryz.prog 154 = true := by kernel_rfl
@[simp] theorem isIfaceT_154 : isIface Tryz.prog 154 = false := by kernel_rfl
@[simp] theorem isStrT_154 : isStr Tryz.prog 154 = false := by kernel_rfl
@[simp] theorem zeroC_154 : zeroC Tryz.prog 154 = some [.sc .nilFunc] := by kernel_rfl
@[simp] theorem isPtrT_154 : isPtr Tryz.prog 154 = false := by kernel_rfl
@[simp] theorem isBytesT_154 : isBytes Tryz.prog 154 = false := by kernel_rfl
@[simp] theorem intOfT_154 : Av.intOf Tryz.prog 154 = none := by kernel_rfl
@[simp] theorem tyAgg_155 : tyAgg Tryz.prog 155 = some true := by kernel_rfl
@[simp] theorem tySize_155 : tySize Tryz.prog 155 = some 7 := by kernel_rfl
@[simp] theorem isSomeT_155 : Av.isSome Tryz.prog 155 = true := by kernel_rfl
@[simp] theorem isIfaceT_155 : isIface Tryz.prog 155 = false := by kernel_rfl
@[simp] theorem isStrT_155 : isStr Tryz.prog 155 = false := by kernel_rfl
@[simp] theorem zeroC_155 : zeroC Tryz.prog 155 = some [.sc (.int .i64 0), .sc (.int .i64 0), .sc (.int .i64 0), .sc (.int .i64 0), .sc (.int .i64 0), .sc (.int .i64 0), .sc (.int .i64 0)] := by kernel_rfl
@[simp] theorem fieldsOk_155 : fieldsOk Tryz.prog 155 = true := by kernel_rfl
@[simp] theorem isPtrT_155 : isPtr Tryz.prog 155 = false := by kernel_rfl
@[simp] theorem fldL_155 : fldL Tryz.prog 155 = some [(0, 3), (1, 3), (2, 3), (3, 3), (4, 3), (5, 3), (6, 3)] := by kernel_rfl
@[simp] theorem eqOkT_155 : eqOkT Tryz.prog 155 = true := by kernel_rfl
@[simp] theorem placeP_155_0 : placeP Tryz.prog 155 0 = some (0, 1) := by kernel_rfl
@[simp] theorem placeP_155_1 : placeP Tryz.prog 155 1 = some (1, 1) := by kernel_rfl
@[simp] theorem placeP_155_2 : placeP Tryz.prog 155 2 = some (2, 1) := by kernel_rfl
@[simp] theorem placeP_155_3 : placeP Tryz.prog 155 3 = some (3, 1) := by kernel_rfl
@[simp] theorem placeP_155_4 : placeP Tryz.prog 155 4 = some (4, 1) := by kernel_rfl
@[simp] theorem placeP_155_5 : placeP Tryz.prog 155 5 = some (5, 1) := by kernel_rfl
@[simp] theorem placeP_155_6 : placeP Tryz.prog 155 6 = some (6, 1) := by kernel_rfl
@[simp] theorem fld_155_0 : fld Tryz.prog 155 0 = some (0, 1, false) := by kernel_rfl
@[simp] theorem fld_155_1 : fld Tryz.prog 155 1 = some (1, 1, false) := by kernel_rfl
@[simp] theorem fld_155_2 : fld Tryz.prog 155 2 = some (2, 1, false) := by kernel_rfl
@[simp] theorem fld_155_3 : fld Tryz.prog 155 3 = some (3, 1, false) := by kernel_rfl
@[simp] theorem fld_155_4 : fld Tryz.prog 155 4 = some (4, 1, false) := by kernel_rfl
@[simp] theorem fld_155_5 : fld Tryz.prog 155 5 = some (5, 1, false) := by kernel_rfl
@[simp] theorem fld_155_6 : fld Tryz.prog 155 6 = some (6, 1, false) := by kernel_rfl
@[simp] theorem isBytesT_155 : isBytes Tryz.prog 155 = false := by kernel_rfl
@[simp] theorem intOfT_155 : Av.intOf Tryz.prog 155 = none := by kernel_rfl
@[simp] theorem tyAgg_156 : tyAgg Tryz.prog 156 = some true := by kernel_rfl
@[simp] theorem tySize_156 : tySize Tryz.prog 156 = some 7 := by kernel_rfl
@[simp] theorem isSomeT_156 : Av.isSome Tryz.prog 156 = true := by kernel_rfl
@[simp] theorem isIfaceT_156 : isIface Tryz.prog 156 = false := by kernel_rfl
@[simp] theorem isStrT_156 : isStr Tryz.prog 156 = false := by kernel_rfl
@[simp] theorem zeroC_156 : zeroC Tryz.prog 156 = some [.sc (.int .i64 0), .sc (.int .i64 0), .sc (.int .i64 0), .sc (.int .i64 0), .sc (.int .i64 0), .sc (.int .i64 0), .sc (.int .i64 0)] := by kernel_rfl
@[simp] theorem fieldsOk_156 : fieldsOk Tryz.prog 156 = true := by kernel_rfl
@[simp] theorem isPtrT_156 : isPtr Tryz.prog 156 = false := by kernel_rfl
@[simp] theorem fldL_156 : fldL Tryz.prog 156 = some [(0, 3), (1, 3), (2, 3), (3, 3), (4, 3), (5, 3), (6, 3)] := by kernel_rfl
@[simp] theorem eqOkT_156 : eqOkT Tryz.prog 156 = true := by kernel_rfl
@[simp] theorem placeP_156_0 : placeP Tryz.prog 156 0 = some (0, 1) := by kernel_rfl
@[simp] theorem placeP_156_1 : placeP Tryz.prog 156 1 = some (1, 1) := by kernel_rfl
@[simp] theorem placeP_156_2 : placeP Tryz.prog 156 2 = some (2, 1) := by kernel_rfl
@[simp] theorem placeP_156_3 : placeP Tryz.prog 156 3 = some (3, 1) := by kernel_rfl
@[simp] theorem placeP_156_4 : placeP Tryz.prog 156 4 = some (4, 1) := by kernel_rfl
@[simp] theorem placeP_156_5 : placeP Tryz.prog 156 5 = some (5, 1) := by kernel_rfl
@[simp] theorem placeP_156_6 : placeP Tryz.prog 156 6 = some (6, 1) := by kernel_rfl
@[simp] theorem fld_156_0 : fld Tryz.prog 156 0 = some (0, 1, false) := by kernel_rfl
@[simp] theorem fld_156_1 : fld Tryz.prog 156 1 = some (1, 1, false) := by kernel_rfl
@[simp] theorem fld_156_2 : fld Tryz.prog 156 2 = some (2, 1, false) := by kernel_rfl
@[simp] theorem fld_156_3 : fld Tryz.prog 156 3 = some (3, 1, false) := by kernel_rfl
@[simp] theorem fld_156_4 : fld Tryz.prog 156 4 = some (4, 1, false) := by kernel_rfl
@[simp] theorem fld_156_5 : fld Tryz.prog 156 5 = some (5, 1, false) := by kernel_rfl
@[simp] theorem fld_156_6 : fld Tryz.prog 156 6 = some (6, 1, false) := by kernel_rfl
@[simp] theorem isBytesT_156 : isBytes Tryz.prog 156 = false := by kernel_rfl
@[simp] theorem intOfT_156 : Av.intOf Tryz.prog 156 = none := by kernel_rfl
@[simp] theorem tyAgg_158 : tyAgg Tryz.prog 158 = some false := by kernel_rfl
@[simp] theorem tySize_158 : tySize Tryz.prog 158 = some 1 := by kernel_rfl
@[simp] theorem isSomeT_158 : Av.isSome Tryz.prog 158 = true := by kernel_rfl
@[simp] theorem isIfaceT_158 : isIface Tryz.prog 158 = false := by kernel_rfl
@[simp] theorem isStrT_158 : isStr Tryz.prog 158 = false := by kernel_rfl
@[simp] theorem zeroC_158 : zeroC Tryz.prog 158 = some [.sc .nilFunc] := by kernel_rfl
@[simp] theorem isPtrT_158 : isPtr Tryz.prog 158 = false := by kernel_rfl
@[simp] theorem isBytesT_158 : isBytes Tryz.prog 158 = false := by kernel_rfl
@[simp] theorem intOfT_158 : Av.intOf Tryz.prog 158 = none := by kernel_rfl
@[simp] theorem tyAgg_159 : tyAgg Tryz.prog 159 = some true := by kernel_rfl
@[simp] theorem tySize_159 : tySize Tryz.prog 159 = some 3 := by kernel_rfl
@[simp] theorem isSomeT_159 : Av.isSome Tryz.prog 159 = true := by kernel_rfl
@[simp] theorem isIfaceT_159 : isIface Tryz.prog 159 = false := by kernel_rfl
@[simp] theorem isStrT_159 : isStr Tryz.prog 159 = false := by kernel_rfl
@[simp] theorem zeroC_159 : zeroC Tryz.prog 159 = some [.str [], .str [], .str []] := by kernel_rfl
@[simp] theorem fieldsOk_159 : fieldsOk Tryz.prog 159 = true := by kernel_rfl
@[simp] theorem isPtrT_159 : isPtr Tryz.prog 159 = false := by kernel_rfl
@[simp] theorem isBytesT_159 : isBytes Tryz.prog 159 = false := by kernel_rfl
@[simp] theorem intOfT_159 : Av.intOf Tryz.prog 159 = none := by kernel_rfl
@[simp] theorem tyAgg_160 : tyAgg Tryz.prog 160 = some false := by kernel_rfl
@[simp] theorem tySize_160 : tySize Tryz.prog 160 = some 1 := by kernel_rfl
@[simp] theorem isSomeT_160 : Av.isSome Tryz.prog 160 = true := by kernel_rfl
@[simp] theorem isIfaceT_160 : isIface Tryz.prog 160 = false := by kernel_rfl
@[simp] theorem isStrT_160 : isStr Tryz.prog 160 = false := by kernel_rfl
@[simp] theorem zeroC_160 : zeroC Tryz.prog 160 = some [.sc .nilFunc] := by kernel_rfl
@[simp] theorem isPtrT_160 : isPtr Tryz.prog 160 = false := by kernel_rfl
@[simp] theorem isBytesT_160 : isBytes Tryz.prog 160 = false := by kernel_rfl
@[simp] theorem intOfT_160 : Av.intOf Tryz.prog 160 = none := by kernel_rfl
@[simp] theorem tyAgg_161 : tyAgg Tryz.prog 161 = some false := by kernel_rfl
@[simp] theorem tySize_161 : tySize Tryz.prog 161 = some 1 := by kernel_rfl
@[simp] theorem isSomeT_161 : Av.isSome Tryz.prog 161 = true := by kernel_rfl
@[simp] theorem isIfaceT_161 : isIface Tryz.prog 161 = false := by kernel_rfl
@[simp] theorem isStrT_161 : isStr Tryz.prog 161 = false := by kernel_rfl
@[simp] theorem zeroC_161 : zeroC Tryz.prog 161 = some [.sc .nilFunc] := by kernel_rfl
@[simp] theorem isPtrT_161 : isPtr Tryz.prog 161 = false := by kernel_rfl
@[simp] theorem isBytesT_161 : isBytes Tryz.prog 161 = false := by kernel_rfl
@[simp] theorem intOfT_161 : Av.intOf Tryz.prog 161 = none := by kernel_rfl
@[simp] theorem tyAgg_162 : tyAgg Tryz.prog 162 = some false := by kernel_rfl
@[simp] theorem tySize_162 : tySize Tryz.prog 162 = some 1 := by kernel_rfl
@[simp] theorem isSomeT_162 : Av.isSome Tryz.prog 162 = true := by kernel_rfl
@[simp] theorem isIfaceT_162 : isIface Tryz.prog 162 = false := by kernel_rfl
@[simp] theorem isStrT_162 : isStr Tryz.prog 162 = false := by kernel_rfl
@[simp] theorem zeroC_162 : zeroC Tryz.prog 162 = some [.sc .nilFunc] := by kernel_rfl
@[simp] theorem isPtrT_162 : isPtr Tryz.prog 162 = false := by kernel_rfl
@[simp] theorem isBytesT_162 : isBytes Tryz.prog 162 = false := by kernel_rfl
@[simp] theorem intOfT_162 : Av.intOf Tryz.prog 162 = none := by kernel_rfl
@[simp] theorem tyAgg_163 : tyAgg Tryz.prog 163 = some false := by kernel_rfl
@[simp] theorem tySize_163 : tySize Tryz.prog 163 = some 1 := by kernel_rfl
@[simp] theorem isSomeT_163 : Av.isSome Tryz.prog 163 = true := by kernel_rfl
@[simp] theorem isIfaceT_163 : isIface Tryz.prog 163 = false := by kernel_rfl
@[simp] theorem isStrT_163 : isStr Tryz.prog 163 = false := by kernel_rfl
@[simp] theorem zeroC_163 : zeroC Tryz.prog 163 = some [.sc .nilFunc] := by kernel_rfl
@[simp] theorem isPtrT_163 : isPtr Tryz.prog 163 = false := by kernel_rfl
@[simp] theorem isBytesT_163 : isBytes Tryz.prog 163 = false := by kernel_rfl
@[simp] theorem intOfT_163 : Av.intOf Tryz.prog 163 = none := by kernel_rfl
@[simp] theorem tyAgg_164 : tyAgg Tryz.prog 164 = some false := by kernel_rfl
@[simp] theorem tySize_164 : tySize Tryz.prog 164 = some 1 := by kernel_rfl
@[simp] theorem isSomeT_164 : Av.isSome Tryz.prog 164 = true := by kernel_rfl
@[simp] theorem isIfaceT_164 : isIface Tryz.prog 164 = false := by kernel_rfl
@[simp] theorem isStrT_164 : isStr Tryz.prog 164 = false := by kernel_rfl
@[simp] theorem zeroC_164 : zeroC Tryz.prog 164 = some [.sc .nilFunc] := by kernel_rfl
@[simp] theorem isPtrT_164 : isPtr Tryz.prog 164 = false := by kernel_rfl
@[simp] theorem isBytesT_164 : isBytes Tryz.prog 164 = false := by kernel_rfl
@[simp] theorem intOfT_164 : Av.intOf Tryz.prog 164 = none := by kernel_rfl
@[simp] theorem tyAgg_165 : tyAgg Tryz.prog 165 = some false := by kernel_rfl
@[simp] theorem tySize_165 : tySize Tryz.prog 165 = some 1 := by kernel_rfl
@[simp] theorem isSomeT_165 : Av.isSome Tryz.prog 165 = true := by kernel_rfl
@[simp] theorem isIfaceT_165 : isIface Tryz.prog 165 = false := by kernel_rfl
@[simp] theorem isStrT_165 : isStr Tryz.prog 165 = false := by kernel_rfl
@[simp] theorem zeroC_165 : zeroC Tryz.prog 165 = some [.sc .nilFunc] := by kernel_rfl
@[simp] theorem isPtrT_165 : isPtr Tryz.prog 165 = false := by kernel_rfl
@[simp] theorem isBytesT_165 : isBytes Tryz.prog 165 = false := by kernel_rfl
@[simp] theorem intOfT_165 : Av.intOf Tryz.prog 165 = none := by kernel_rfl
@[simp] theorem tyAgg_166 : tyAgg Tryz.prog 166 = some false := by kernel_rfl
@[simp] theorem tySize_166 : tySize Tryz.prog 166 = some 1 := by kernel_rfl
@[simp] theorem isSomeT_166 : Av.isSome Tryz.prog 166 = true := by kernel_rfl
@[simp] theorem isIfaceT_166 : isIface Tryz.prog 166 = false := by kernel_rfl
@[simp] theorem isStrT_166 : isStr Tryz.prog 166 = false := by kernel_rfl
@[simp] theorem zeroC_166 : zeroC Tryz.prog 166 = some [.sc .nilFunc] := by kernel_rfl
@[simp] theorem isPtrT_166 : isPtr Tryz.prog 166 = false := by kernel_rfl
@[simp] theorem isBytesT_166 : isBytes Tryz.prog 166 = false := by kernel_rfl
@[simp] theorem intOfT_166 : Av.intOf Tryz.prog 166 = none := by kernel_rfl
@[simp] theorem tyAgg_168 : tyAgg Tryz.prog 168 = some false := by kernel_rfl
@[simp] theorem tySize_168 : tySize Tryz.prog 168 = some 1 := by kernel_rfl
@[simp] theorem isSomeT_168 : Av.isSome Tryz.prog 168 = true := by kernel_rfl
@[simp] theorem isIfaceT_168 : isIface Tryz.prog 168 = false := by kernel_rfl
@[simp] theorem isStrT_168 : isStr Tryz.prog 168 = false := by kernel_rfl
@[simp] theorem zeroC_168 : zeroC Tryz.prog 168 = some [.sc .nilFunc] := by kernel_rfl
@[simp] theorem isPtrT_168 : isPtr Tryz.prog 168 = false := by kernel_rfl
@[simp] theorem isBytesT_168 : isBytes Tryz.prog 168 = false := by kernel_rfl
@[simp] theorem intOfT_168 : Av.intOf Tryz.prog 168 = none := by kernel_rfl
@[simp] theorem tyAgg_169 : tyAgg Tryz.prog 169 = some false := by kernel_rfl
@[simp] theorem tySize_169 : tySize Tryz.prog 169 = some 1 := by kernel_rfl
@[simp] theorem isSomeT_169 : Av.isSome Tryz.prog 169 = true := by kernel_rfl
@[simp] theorem isIfaceT_169 : isIface Tryz.prog 169 = false := by kernel_rfl
@[simp] theorem isStrT_169 : isStr Tryz.prog 169 = false := by kernel_rfl
@[simp] theorem zeroC_169 : zeroC Tryz.prog 169 = some [.sc .nilFunc] := by kernel_rfl
@[simp] theorem isPtrT_169 : isPtr Tryz.prog 169 = false := by kernel_rfl
@[simp] theorem isBytesT_169 : isBytes Tryz.prog 169 = false := by kernel_rfl
@[simp] theorem intOfT_169 : Av.intOf Tryz.prog 169 = none := by kernel_rfl
@[simp] theorem tyAgg_170 : tyAgg Tryz.prog 170 = some false := by kernel_rfl
@[simp] theorem tySize_170 : tySize Tryz.prog 170 = some 1 := by kernel_rfl
@[simp] theorem isSomeT_170 : Av.isSome Tryz.prog 170 = true := by kernel_rfl
@[simp] theorem isIfaceT_170 : isIface Tryz.prog 170 = false := by kernel_rfl
@[simp] theorem isStrT_170 : isStr Tryz.prog 170 = false := by kernel_rfl
@[simp] theorem zeroC_170 : zeroC Tryz.prog 170 = some [.sc .nilFunc] := by kernel_rfl
@[simp] theorem isPtrT_170 : isPtr Tryz.prog 170 = false := by kernel_rfl
@[simp] theorem isBytesT_170 : isBytes Tryz.prog 170 = false := by kernel_rfl
@[simp] theorem intOfT_170 : Av.intOf Tryz.prog 170 = none := by kernel_rfl
@[simp] theorem tyAgg_171 : tyAgg Tryz.prog 171 = some false := by kernel_rfl
@[simp] theorem tySize_171 : tySize Tryz.prog 171 = some 1 := by kernel_rfl
@[simp] theorem isSomeT_171 : Av.isSome Tryz.prog 171 = true := by kernel_rfl
@[simp] theorem isIfaceT_171 : isIface Tryz.prog 171 = false := by kernel_rfl
@[simp] theorem isStrT_171 : isStr Tryz.prog 171 = false := by kernel_rfl
@[simp] theorem zeroC_171 : zeroC Tryz.prog 171 = some [.sc (.int .i64 0)] := by kernel_rfl
@[simp] theorem isPtrT_171 : isPtr Tryz.prog 171 = false := by kernel_rfl
@[simp] theorem isBytesT_171 : isBytes Tryz.prog 171 = false := by kernel_rfl
@[simp] theorem intOfT_171 : Av.intOf Tryz.prog 171 = some .i64 := by kernel_rfl
@[simp] theorem tyAgg_173 : tyAgg Tryz.prog 173 = some false := by kernel_rfl
@[simp] theorem tySize_173 : tySize Tryz.prog 173 = some 1 := by kernel_rfl
@[simp] theorem isSomeT_173 : Av.isSome Tryz.prog 173 = true := by kernel_rfl
@[simp] theorem isIfaceT_173 : isIface Tryz.prog 173 = false := by kernel_rfl
@[simp] theorem isStrT_173 : isStr Tryz.prog 173 = false := by kernel_rfl
@[simp] theorem zeroC_173 : zeroC Tryz.prog 173 = some [.sc .nilFunc] := by kernel_rfl
@[simp] theorem isPtrT_173 : isPtr Tryz.prog 173 = false := by kernel_rfl
@[simp] theorem isBytesT_173 : isBytes Tryz.prog 173 = false := by kernel_rfl
@[simp] theorem intOfT_173 : Av.intOf Tryz.prog 173 = none := by kernel_rfl
@[simp] theorem tyAgg_174 : tyAgg Tryz.prog 174 = some false := by kernel_rfl
@[simp] theorem tySize_174 : tySize Tryz.prog 174 = some 1 := by kernel_rfl
@[simp] theorem isSomeT_174 : Av.isSome Tryz.prog 174 = true := by kernel_rfl
@[simp] theorem isIfaceT_174 : isIface Tryz.prog 174 = false := by kernel_rfl
@[simp] theorem isStrT_174 : isStr Tryz.prog 174 = false := by kernel_rfl
@[simp] theorem zeroC_174 : zeroC Tryz.prog 174 = some [.sc .nilFunc] := by kernel_rfl
@[simp] theorem isPtrT_174 : isPtr Tryz.prog 174 = false := by kernel_rfl
@[simp] theorem isBytesT_174 : isBytes Tryz.prog 174 = false := by kernel_rfl
@[simp] theorem intOfT_174 : Av.intOf Tryz.prog 174 = none := by kernel_rfl
@[simp] theorem tyAgg_175 : tyAgg Tryz.prog 175 = some false := by kernel_rfl
@[simp] theorem tySize_175 : tySize Tryz.prog 175 = some 1 := by kernel_rfl
@[simp] theorem isSomeT_175 : Av.isSome Tryz.prog 175 = true := by kernel_rfl
@[simp] theorem isIfaceT_175 : isIface Tryz.prog 175 = false := by kernel_rfl
@[simp] theorem isStrT_175 : isStr Tryz.prog 175 = false := by kernel_rfl
@[simp] theorem zeroC_175 : zeroC Tryz.prog 175 = some [.sc .nilFunc] := by kernel_rfl
@[simp] theorem isPtrT_175 : isPtr Tryz.prog 175 = false := by kernel_rfl
@[simp] theorem isBytesT_175 : isBytes Tryz.prog 175 = false := by kernel_rfl
@[simp] theorem intOfT_175 : Av.intOf Tryz.prog 175 = none := by kernel_rfl
@[simp] theorem tyAgg_176 : tyAgg Tryz.prog 176 = some false := by kernel_rfl
@[simp] theorem tySize_176 : tySize Tryz.prog 176 = some 1 := by kernel_rfl
@[simp] theorem isSomeT_176 : Av.isSome Tryz.prog 176 = true := by kernel_rfl
@[simp] theorem isIfaceT_176 : isIface Tryz.prog 176 = false := by kernel_rfl
@[simp] theorem isStrT_176 : isStr Tryz.prog 176 = false := by kernel_rfl
@[simp] theorem zeroC_176 : zeroC Tryz.prog 176 = some [.sc .nilFunc] := by kernel_rfl
@[simp] theorem isPtrT_176 : isPtr Tryz.prog 176 = false := by kernel_rfl
@[simp] theorem isBytesT_176 : isBytes Tryz.prog 176 = false := by kernel_rfl
@[simp] theorem intOfT_176 : Av.intOf Tryz.prog 176 = none := by kernel_rfl
@[simp] theorem tyAgg_177 : tyAgg Tryz.prog 177 = some false := by kernel_rfl
@[simp] theorem tySize_177 : tySize Tryz.prog 177 = some 1 := by kernel_rfl
@[simp] theorem isSomeT_177 : Av.isSome Tryz.prog 177 = true := by kernel_rfl
@[simp] theorem isIfaceT_177 : isIface Tryz.prog 177 = false := by kernel_rfl
@[simp] theorem isStrT_177 : isStr Tryz.prog 177 = false := by kernel_rfl
@[simp] theorem zeroC_177 : zeroC Tryz.prog 177 = some [.sc .nilFunc] := by kernel_rfl
@[simp] theorem isPtrT_177 : isPtr Tryz.prog 177 = false := by kernel_rfl
@[simp] theorem isBytesT_177 : isBytes Tryz.prog 177 = false := by kernel_rfl
@[simp] theorem intOfT_177 : Av.intOf Tryz.prog 177 = none := by kernel_rfl
@[simp] theorem tyAgg_178 : tyAgg Tryz.prog 178 = some false := by kernel_rfl
@[simp] theorem tySize_178 : tySize Tryz.prog 178 = some 1 := by kernel_rfl
@[simp] theorem isSomeT_178 : Av.isSome Tryz.prog 178 = true := by kernel_rfl
@[simp] theorem isIfaceT_178 : isIface Tryz.prog 178 = false := by kernel_rfl
@[simp] theorem isStrT_178 : isStr Tryz.prog 178 = false := by kernel_rfl
@[simp] theorem zeroC_178 : zeroC Tryz.prog 178 = some [.sc (.int .u32 0)] := by kernel_rfl
@[simp] theorem isPtrT_178 : isPtr Tryz.prog 178 = false := by kernel_rfl
@[simp] theorem isBytesT_178 : isBytes Tryz.prog 178 = false := by kernel_rfl
@[simp] theorem intOfT_178 : Av.intOf Tryz.prog 178 = some .u32 := by kernel_rfl
@[simp] theorem tyAgg_179 : tyAgg Tryz.prog 179 = some false := by kernel_rfl
@[simp] theorem tySize_179 : tySize Tryz.prog 179 = some 1 := by kernel_rfl
@[simp] theorem isSomeT_179 : Av.isSome Tryz.prog 179 = true := by kernel_rfl
@[simp] theorem isIfaceT_179 : isIface Tryz.prog 179 = false := by kernel_rfl
@[simp] theorem isStrT_179 : isStr Tryz.prog 179 = false := by kernel_rfl
@[simp] theorem zeroC_179 : zeroC Tryz.prog 179 = some [.sc .nilFunc] := by kernel_rfl
@[simp] theorem isPtrT_179 : isPtr Tryz.prog 179 = false := by kernel_rfl
@[simp] theorem isBytesT_179 : isBytes Tryz.prog 179 = false := by kernel_rfl
@[simp] theorem intOfT_179 : Av.intOf Tryz.prog 179 = none := by kernel_rfl
@[simp] theorem tyAgg_180 : tyAgg Tryz.prog 180 = some false := by kernel_rfl
@[simp] theorem tySize_180 : tySize Tryz.prog 180 = some 1 := by kernel_rfl
@[simp] theorem isSomeT_180 : Av.isSome Tryz.prog 180 = true := by kernel_rfl
@[simp] theorem isIfaceT_180 : isIface Tryz.prog 180 = false := by kernel_rfl
@[simp] theorem isStrT_180 : isStr Tryz.prog 180 = false := by kernel_rfl
@[simp] theorem zeroC_180 : zeroC Tryz.prog 180 = some [.sc (.int .u64 0)] := by kernel_rfl
@[simp] theorem isPtrT_180 : isPtr Tryz.prog 180 = false := by kernel_rfl
@[simp] theorem isBytesT_180 : isBytes Tryz.prog 180 = false := by kernel_rfl
@[simp] theorem intOfT_180 : Av.intOf Tryz.prog 180 = some .u64 := by kernel_rfl
@[simp] theorem tyAgg_182 : tyAgg Tryz.prog 182 = some false := by kernel_rfl
@[simp] theorem tySize_182 : tySize Tryz.prog 182 = some 1 := by kernel_rfl
@[simp] theorem isSomeT_182 : Av.isSome Tryz.prog 182 = true := by kernel_rfl
@[simp] theorem isIfaceT_182 : isIface Tryz.prog 182 = false := by kernel_rfl
@[simp] theorem isStrT_182 : isStr Tryz.prog 182 = false := by kernel_rfl
@[simp] theorem zeroC_182 : zeroC Tryz.prog 182 = some [.sc .nilFunc] := by kernel_rfl
@[simp] theorem isPtrT_182 : isPtr Tryz.prog 182 = false := by kernel_rfl
@[simp] theorem isBytesT_182 : isBytes Tryz.prog 182 = false := by kernel_rfl
@[simp] theorem intOfT_182 : Av.intOf Tryz.prog 182 = none := by kernel_rfl
@[simp] theorem tyAgg_183 : tyAgg Tryz.prog 183 = some false := by kernel_rfl
@[simp] theorem tySize_183 : tySize Tryz.prog 183 = some 1 := by kernel_rfl
@[simp] theorem isSomeT_183 : Av.isSome Tryz.prog 183 = true := by kernel_rfl
@[simp] theorem isIfaceT_183 : isIface Tryz.prog 183 = false := by kernel_rfl
@[simp] theorem isStrT_183 : isStr Tryz.prog 183 = false := by kernel_rfl
@[simp] theorem zeroC_183 : zeroC Tryz.prog 183 = some [.sc .nilFunc] := by kernel_rfl
@[simp] theorem isPtrT_183 : isPtr Tryz.prog 183 = false := by kernel_rfl
@[simp] theorem isBytesT_183 : isBytes Tryz.prog 183 = false := by kernel_rfl
@[simp] theorem intOfT_183 : Av.intOf Tryz.prog 183 = none := by kernel_rfl
@[simp] theorem tyAgg_184 : tyAgg Tryz.prog 184 = some false := by kernel_rfl
@[simp] theorem tySize_184 : tySize Tryz.prog 184 = some 1 := by kernel_rfl
@[simp] theorem isSomeT_184 : Av.isSome Tryz.prog 184 = true := by kernel_rfl
@[simp] theorem isIfaceT_184 : isIface Tryz.prog 184 = false := by kernel_rfl
@[simp] theorem isStrT_184 : isStr Tryz.prog 184 = false := by kernel_rfl
@[simp] theorem zeroC_184 : zeroC Tryz.prog 184 = some [.sc .nilFunc] := by kernel_rfl
@[simp] theorem isPtrT_184 : isPtr Tryz.prog 184 = false := by kernel_rfl
@[simp] theorem isBytesT_184 : isBytes Tryz.prog 184 = false := by kernel_rfl
@[simp] theorem intOfT_184 : Av.intOf Tryz.prog 184 = none := by kernel_rfl
@[simp] theorem tyAgg_185 : tyAgg Tryz.prog 185 = some true := by kernel_rfl
@[simp] theorem tySize_185 : tySize Tryz.prog 185 = some 256 := by kernel_rfl
@[simp] theorem isSomeT_185 : Av.isSome Tryz.prog 185 = true := by kernel_rfl
@[simp] theorem isIfaceT_185 : isIface Tryz.prog 185 = false := by kernel_rfl
@[simp] theorem isStrT_185 : isStr Tryz.prog 185 = false := by kernel_rfl
@[simp] theorem fieldsOk_185 : fieldsOk Tryz.prog 185 = true := by kernel_rfl
@[simp] theorem isPtrT_185 : isPtr Tryz.prog 185 = false := by kernel_rfl
@[simp] theorem isBytesT_185 : isBytes Tryz.prog 185 = false := by kernel_rfl
@[simp] theorem intOfT_185 : Av.intOf Tryz.prog 185 = none := by kernel_rfl
@[simp] theorem tyAgg_186 : tyAgg Tryz.prog 186 = some true := by kernel_rfl
@[simp] theorem tySize_186 : tySize Tryz.prog 186 = some 256 := by kernel_rfl
@[simp] theorem isSomeT_186 : Av.isSome Tryz.prog 186 = true := by kernel_rfl
@[simp] theorem isIfaceT_186 : isIface Tryz.prog 186 = false := by kernel_rfl
@[simp] theorem isStrT_186 : isStr Tryz.prog 186 = false := by kernel_rfl
@[simp] theorem fieldsOk_186 : fieldsOk Tryz.prog 186 = true := by kernel_rfl
@[simp] theorem isPtrT_186 : isPtr Tryz.prog 186 = false := by kernel_rfl
@[simp] theorem isBytesT_186 : isBytes Tryz.prog 186 = false := by kernel_rfl
@[simp] theorem intOfT_186 : Av.intOf Tryz.prog 186 = none := by kernel_rfl
@[simp] theorem tyAgg_188 : tyAgg Tryz.prog 188 = some false := by kernel_rfl
@[simp] theorem tySize_188 : tySize Tryz.prog 188 = some 1 := by kernel_rfl
@[simp] theorem isSomeT_188 : Av.isSome Tryz.prog 188 = true := by kernel_rfl
@[simp] theorem isIfaceT_188 : isIface Tryz.prog 188 = false := by kernel_rfl
@[simp] theorem isStrT_188 : isStr Tryz.prog 188 = false := by kernel_rfl
@[simp] theorem zeroC_188 : zeroC Tryz.prog 188 = some [.sc .nilFunc] := by kernel_rfl
@[simp] theorem isPtrT_188 : isPtr Tryz.prog 188 = false := by kernel_rfl
@[simp] theorem isBytesT_188 : isBytes Tryz.prog 188 = false := by kernel_rfl
@[simp] theorem intOfT_188 : Av.intOf Tryz.prog 188 = none := by kernel_rfl
@[simp] theorem tyAgg_189 : tyAgg Tryz.prog 189 = some false := by kernel_rfl
@[simp] theorem tySize_189 : tySize Tryz.prog 189 = some 1 := by kernel_rfl
@[simp] theorem isSomeT_189 : Av.isSome Tryz.prog 189 = true := by kernel_rfl
@[simp] theorem isIfaceT_189 : isIface Tryz.prog 189 = false := by kernel_rfl
@[simp] theorem isStrT_189 : isStr Tryz.prog 189 = false := by kernel_rfl
@[simp] theorem zeroC_189 : zeroC Tryz.prog 189 = some [.sc .nilFunc] := by kernel_rfl
@[simp] theorem isPtrT_189 : isPtr Tryz.prog 189 = false := by kernel_rfl
@[simp] theorem isBytesT_189 : isBytes Tryz.prog 189 = false := by kernel_rfl
@[simp] theorem intOfT_189 : Av.intOf Tryz.prog 189 = none := by kernel_rfl
@[simp] theorem tyAgg_190 : tyAgg Tryz.prog 190 = some false := by kernel_rfl
@[simp] theorem tySize_190 : tySize Tryz.prog 190 = some 1 := by kernel_rfl
@[simp] theorem isSomeT_190 : Av.isSome Tryz.prog 190 = true := by kernel_rfl
@[simp] theorem isIfaceT_190 : isIface Tryz.prog 190 = false := by kernel_rfl
@[simp] theorem isStrT_190 : isStr Tryz.prog 190 = false := by kernel_rfl
@[simp] theorem zeroC_190 : zeroC Tryz.prog 190 = some [.sc (.pointer none)] := by kernel_rfl
@[simp] theorem isPtrT_190 : isPtr Tryz.prog 190 = true := by kernel_rfl
@[simp] theorem isBytesT_190 : isBytes Tryz.prog 190 = false := by kernel_rfl
@[simp] theorem intOfT_190 : Av.intOf Tryz.prog 190 = none := by kernel_rfl
@[simp] theorem tyAgg_191 : tyAgg Tryz.prog 191 = some false := by kernel_rfl
@[simp] theorem tySize_191 : tySize Tryz.prog 191 = some 1 := by kernel_rfl
@[simp] theorem isSomeT_191 : Av.isSome Tryz.prog 191 = true := by kernel_rfl
@[simp] theorem isIfaceT_191 : isIface Tryz.prog 191 = false := by kernel_rfl
@[simp] theorem isStrT_191 : isStr Tryz.prog 191 = false := by kernel_rfl
@[simp] theorem zeroC_191 : zeroC Tryz.prog 191 = some [.sc .nilFunc] := by kernel_rfl
@[simp] theorem isPtrT_191 : isPtr Tryz.prog 191 = false := by kernel_rfl
@[simp] theorem isBytesT_191 : isBytes Tryz.prog 191 = false := by kernel_rfl
@[simp] theorem intOfT_191 : Av.intOf Tryz.prog 191 = none := by kernel_rfl
@[simp] theorem tyAgg_192 : tyAgg Tryz.prog 192 = some false := by kernel_rfl
@[simp] theorem tySize_192 : tySize Tryz.prog 192 = some 1 := by kernel_rfl
@[simp] theorem isSomeT_192 : Av.isSome Tryz.prog 192 = true := by kernel_rfl
@[simp] theorem isIfaceT_192 : isIface Tryz.prog 192 = false := by kernel_rfl
@[simp] theorem isStrT_192 : isStr Tryz.prog 192 = false := by kernel_rfl
@[simp] theorem zeroC_192 : zeroC Tryz.prog 192 = some [.sc (.pointer none)] := by kernel_rfl
@[simp] theorem isPtrT_192 : isPtr Tryz.prog 192 = true := by kernel_rfl
@[simp] theorem isBytesT_192 : isBytes Tryz.prog 192 = false := by kernel_rfl
@[simp] theorem intOfT_192 : Av.intOf Tryz.prog 192 = none := by kernel_rfl
@[simp] theorem tyAgg_193 : tyAgg Tryz.prog 193 = some true := by kernel_rfl
@[simp] theorem tySize_193 : tySize Tryz.prog 193 = some 2 := by kernel_rfl
@[simp] theorem isSomeT_193 : Av.isSome Tryz.prog 193 = true := by kernel_rfl
@[simp] theorem isIfaceT_193 : isIface Tryz.prog 193 = false := by kernel_rfl
@[simp] theorem isStrT_193 : isStr Tryz.prog 193 = false := by kernel_rfl
@[simp] theorem zeroC_193 : zeroC Tryz.prog 193 = some [.sc (.pointer none), .nil] := by kernel_rfl
@[simp] theorem fieldsOk_193 : fieldsOk Tryz.prog 193 = true := by kernel_rfl
@[simp] theorem isPtrT_193 : isPtr Tryz.prog 193 = false := by kernel_rfl
@[simp] theorem placeP_193_0 : placeP Tryz.prog 193 0 = some (0, 1) := by kernel_rfl
@[simp] theorem placeP_193_1 : placeP Tryz.prog 193 1 = some (1, 1) := by kernel_rfl
@[simp] theorem fld_193_0 : fld Tryz.prog 193 0 = some (0, 1, false) := by kernel_rfl
@[simp] theorem fld_193_1 : fld Tryz.prog 193 1 = some (1, 1, false) := by kernel_rfl
@[simp] theorem isBytesT_193 : isBytes Tryz.prog 193 = false := by kernel_rfl
@[simp] theorem intOfT_193 : Av.intOf Tryz.prog 193 = none := by kernel_rfl
@[simp] theorem tyAgg_194 : tyAgg Tryz.prog 194 = some true := by kernel_rfl
@[simp] theorem tySize_194 : tySize Tryz.prog 194 = some 2 := by kernel_rfl
@[simp] theorem isSomeT_194 : Av.isSome Tryz.prog 194 = true := by kernel_rfl
@[simp] theorem isIfaceT_194 : isIface Tryz.prog 194 = false := by kernel_rfl
@[simp] theorem isStrT_194 : isStr Tryz.prog 194 = false := by kernel_rfl
@[simp] theorem zeroC_194 : zeroC Tryz.prog 194 = some [.sc (.pointer none), .nil] := by kernel_rfl
@[simp] theorem fieldsOk_194 : fieldsOk Tryz.prog 194 = true := by kernel_rfl
@[simp] theorem isPtrT_194 : isPtr Tryz.prog 194 = false := by kernel_rfl
@[simp] theorem placeP_194_0 : placeP Tryz.prog 194 0 = some (0, 1) := by kernel_rfl
@[simp] theorem placeP_194_1 : placeP Tryz.prog 194 1 = some (1, 1) := by kernel_rfl
@[simp] theorem fld_194_0 : fld Tryz.prog 194 0 = some (0, 1, false) := by kernel_rfl
@[simp] theorem fld_194_1 : fld Tryz.prog 194 1 = some (1, 1, false) := by kernel_rfl
@[simp] theorem isBytesT_194 : isBytes Tryz.prog 194 = false := by kernel_rfl
@[simp] theorem intOfT_194 : Av.intOf Tryz.prog 194 = none := by kernel_rfl
@[simp] theorem tyAgg_195 : tyAgg Tryz.prog 195 = some false := by kernel_rfl
@[simp] theorem tySize_195 : tySize Tryz.prog 195 = some 1 := by kernel_rfl
@[simp] theorem isSomeT_195 : Av.isSome Tryz.prog 195 = true := by kernel_rfl
@[simp] theorem isIfaceT_195 : isIface Tryz.prog 195 = false := by kernel_rfl
@[simp] theorem isStrT_195 : isStr Tryz.prog 195 = false := by kernel_rfl
@[simp] theorem zeroC_195 : zeroC Tryz.prog 195 = some [.sc .nilFunc] := by kernel_rfl
@[simp] theorem isPtrT_195 : isPtr Tryz.prog 195 = false := by kernel_rfl
@[simp] theorem isBytesT_195 : isBytes Tryz.prog 195 = false := by kernel_rfl
@[simp] theorem intOfT_195 : Av.intOf Tryz.prog 195 = none := by kernel_rfl
@[simp] theorem tyAgg_196 : tyAgg Tryz.prog 196 = some false := by kernel_rfl
@[simp] theorem tySize_196 : tySize Tryz.prog 196 = some 1 := by kernel_rfl
@[simp] theorem isSomeT_196 : Av.isSome Tryz.prog 196 = true := by kernel_rfl
@[simp] theorem isIfaceT_196 : isIface Tryz.prog 196 = true := by kernel_rfl
@[simp] theorem isStrT_196 : isStr Tryz.prog 196 = false := by kernel_rfl
@[simp] theorem zeroC_196 : zeroC Tryz.prog 196 = some [.sc .nilIface] := by kernel_rfl
@[simp] theorem isPtrT_196 : isPtr Tryz.prog 196 = false := by kernel_rfl
@[simp] theorem isBytesT_196 : isBytes Tryz.prog 196 = false := by kernel_rfl
@[simp] theorem intOfT_196 : Av.intOf Tryz.prog 196 = none := by kernel_rfl
@[simp] theorem tyAgg_197 : tyAgg Tryz.prog 197 = some false := by kernel_rfl
@[simp] theorem tySize_197 : tySize Tryz.prog 197 = some 1 := by kernel_rfl
@[simp] theorem isSomeT_197 : Av.isSome Tryz.prog 197 = true := by kernel_rfl
@[simp] theorem isIfaceT_197 : isIface Tryz.prog 197 = true := by kernel_rfl
@[simp] theorem isStrT_197 : isStr Tryz.prog 197 = false := by kernel_rfl
@[simp] theorem zeroC_197 : zeroC Tryz.prog 197 = some [.sc .nilIface] := by kernel_rfl
@[simp] theorem isPtrT_197 : isPtr Tryz.prog 197 = false := by kernel_rfl
@[simp] theorem isBytesT_197 : isBytes Tryz.prog 197 = false := by kernel_rfl
@[simp] theorem intOfT_197 : Av.intOf Tryz.prog 197 = none := by kernel_rfl
@[simp] theorem tyAgg_198 : tyAgg Tryz.prog 198 = some false := by kernel_rfl
@[simp] theorem tySize_198 : tySize Tryz.prog 198 = some 1 := by kernel_rfl
@[simp] theorem isSomeT_198 : Av.isSome Tryz.prog 198 = true := by kernel_rfl
@[simp] theorem isIfaceT_198 : isIface Tryz.prog 198 = false := by kernel_rfl
@[simp] theorem isStrT_198 : isStr Tryz.prog 198 = false := by kernel_rfl
@[simp] theorem zeroC_198 : zeroC Tryz.prog 198 = some [.sc .nilFunc] := by kernel_rfl
@[simp] theorem isPtrT_198 : isPtr Tryz.prog 198 = false := by kernel_rfl
@[simp] theorem isBytesT_198 : isBytes Tryz.prog 198 = false := by kernel_rfl
@[simp] theorem intOfT_198 : Av.intOf Tryz.prog 198 = none := by kernel_rfl
@[simp] theorem tyAgg_199 : tyAgg Tryz.prog 199 = some false := by kernel_rfl
@[simp] theorem tySize_199 : tySize Tryz.prog 199 = some 1 := by kernel_rfl
@[simp] theorem isSomeT_199 : Av.isSome Tryz.prog 199 = true := by kernel_rfl
@[simp] theorem isIfaceT_199 : isIface Tryz.prog 199 = false := by kernel_rfl
@[simp] theorem isStrT_199 : isStr Tryz.prog 199 = false := by kernel_rfl
@[simp] theorem zeroC_199 : zeroC Tryz.prog 199 = some [.sc .nilFunc] := by kernel_rfl
@[simp] theorem isPtrT_199 : isPtr Tryz.prog 199 = false := by kernel_rfl
@[simp] theorem isBytesT_199 : isBytes Tryz.prog 199 = false := by kernel_rfl
@[simp] theorem intOfT_199 : Av.intOf Tryz.prog 199 = none := by kernel_rfl
@[simp] theorem tyAgg_200 : tyAgg Tryz.prog 200 = some false := by kernel_rfl
@[simp] theorem tySize_200 : tySize Tryz.prog 200 = some 1 := by kernel_rfl
@[simp] theorem isSomeT_200 : Av.isSome Tryz.prog 200 = true := by kernel_rfl
@[simp] theorem isIfaceT_200 : isIface Tryz.prog 200 = false := by kernel_rfl
@[simp] theorem isStrT_200 : isStr Tryz.prog 200 = false := by kernel_rfl
@[simp] theorem zeroC_200 : zeroC Tryz.prog 200 = some [.sc .nilFunc] := by kernel_rfl
@[simp] theorem isPtrT_200 : isPtr Tryz.prog 200 = false := by kernel_rfl
@[simp] theorem isBytesT_200 : isBytes Tryz.prog 200 = false := by kernel_rfl
@[simp] theorem intOfT_200 : Av.intOf Tryz.prog 200 = none := by kernel_rfl
@[simp] theorem tyAgg_201 : tyAgg Tryz.prog 201 = some false := by kernel_rfl
@[simp] theorem tySize_201 : tySize Tryz.prog 201 = some 1 := by kernel_rfl
@[simp] theorem isSomeT_201 : Av.isSome Tryz.prog 201 = true := by kernel_rfl
@[simp] theorem isIfaceT_201 : isIface Tryz.prog 201 = false := by kernel_rfl
@[simp] theorem isStrT_201 : isStr Tryz.prog 201 = false := by kernel_rfl
@[simp] theorem zeroC_201 : zeroC Tryz.prog 201 = some [.sc .nilFunc] := by kernel_rfl
@[simp] theorem isPtrT_201 : isPtr Tryz.prog 201 = false := by kernel_rfl
@[simp] theorem isBytesT_201 : isBytes Tryz.prog 201 = false := by kernel_rfl
@[simp] theorem intOfT_201 : Av.intOf Tryz.prog 201 = none := by kernel_rfl
@[simp] theorem tyAgg_202 : tyAgg Tryz.prog 202 = some false := by kernel_rfl
@[simp] theorem tySize_202 : tySize Tryz.prog 202 = some 1 := by kernel_rfl
@[simp] theorem isSomeT_202 : Av.isSome Tryz.prog 202 = true := by kernel_rfl
@[simp] theorem isIfaceT_202 : isIface Tryz.prog 202 = false := by kernel_rfl
@[simp] theorem isStrT_202 : isStr Tryz.prog 202 = false := by kernel_rfl
@[simp] theorem zeroC_202 : zeroC Tryz.prog 202 = some [.sc .nilFunc] := by kernel_rfl
@[simp] theorem isPtrT_202 : isPtr Tryz.prog 202 = false := by kernel_rfl
@[simp] theorem isBytesT_202 : isBytes Tryz.prog 202 = false := by kernel_rfl
@[simp] theorem intOfT_202 : Av.intOf Tryz.prog 202 = none := by kernel_rfl
@[simp] theorem tyAgg_203 : tyAgg Tryz.prog 203 = some false := by kernel_rfl
@[simp] theorem tySize_203 : tySize Tryz.prog 203 = some 1 := by kernel_rfl
@[simp] theorem isSomeT_203 : Av.isSome Tryz.prog 203 = true := by kernel_rfl
@[simp] theorem isIfaceT_203 : isIface Tryz.prog 203 = false := by kernel_rfl
@[simp] theorem isStrT_203 : isStr Tryz.prog 203 = false := by kernel_rfl
@[simp] theorem zeroC_203 : zeroC Tryz.prog 203 = some [.sc .nilFunc] := by kernel_rfl
@[simp] theorem isPtrT_203 : isPtr Tryz.prog 203 = false := by kernel_rfl
@[simp] theorem isBytesT_203 : isBytes Tryz.prog 203 = false := by kernel_rfl
@[simp] theorem intOfT_203 : Av.intOf Tryz.prog 203 = none := by kernel_rfl
@[simp] theorem tyAgg_204 : tyAgg Tryz.prog 204 = some false := by kernel_rfl
@[simp] theorem tySize_204 : tySize Tryz.prog 204 = some 1 := by kernel_rfl
@[simp] theorem isSomeT_204 : Av.isSome Tryz.prog 204 = true := by kernel_rfl
@[simp] theorem isIfaceT_204 : isIface Tryz.prog 204 = false := by kernel_rfl
@[simp] theorem isStrT_204 : isStr Tryz.prog 204 = false := by kernel_rfl
@[simp] theorem zeroC_204 : zeroC Tryz.prog 204 = some [.sc .nilFunc] := by kernel_rfl
@[simp] theorem isPtrT_204 : isPtr Tryz.prog 204 = false := by kernel_rfl
@[simp] theorem isBytesT_204 : isBytes Tryz.prog 204 = false := by kernel_rfl
@[simp] theorem intOfT_204 : Av.intOf Tryz.prog 204 = none := by kernel_rfl
@[simp] theorem tyAgg_206 : tyAgg Tryz.prog 206 = some false := by kernel_rfl
@[simp] theorem tySize_206 : tySize Tryz.prog 206 = some 1 := by kernel_rfl
@[simp] theorem isSomeT_206 : Av.isSome Tryz.prog 206 = true := by kernel_rfl
@[simp] theorem isIfaceT_206 : isIface Tryz.prog 206 = false := by kernel_rfl
@[simp] theorem isStrT_206 : isStr Tryz.prog 206 = false := by kernel_rfl
@[simp] theorem zeroC_206 : zeroC Tryz.prog 206 = some [.sc .nilFunc] := by kernel_rfl
@[simp] theorem isPtrT_206 : isPtr Tryz.prog 206 = false := by kernel_rfl
@[simp] theorem isBytesT_206 : isBytes Tryz.prog 206 = false := by kernel_rfl
@[simp] theorem intOfT_206 : Av.intOf Tryz.prog 206 = none := by kernel_rfl
@[simp] theorem tyAgg_207 : tyAgg Tryz.prog 207 = some false := by kernel_rfl
@[simp] theorem tySize_207 : tySize Tryz.prog 207 = some 1 := by kernel_rfl
@[simp] theorem isSomeT_207 : Av.isSome Tryz.prog 207 = true := by kernel_rfl
@[simp] theorem isIfaceT_207 : isIface Tryz.prog 207 = false := by kernel_rfl
@[simp] theorem isStrT_207 : isStr Tryz.prog 207 = false := by kernel_rfl
@[simp] theorem zeroC_207 : zeroC Tryz.prog 207 = some [.sc (.int .u64 0)] := by kernel_rfl
@[simp] theorem isPtrT_207 : isPtr Tryz.prog 207 = false := by kernel_rfl
@[simp] theorem isBytesT_207 : isBytes Tryz.prog 207 = false := by kernel_rfl
@[simp] theorem intOfT_207 : Av.intOf Tryz.prog 207 = some .u64 := by kernel_rfl
@[simp] theorem tyAgg_208 : tyAgg Tryz.prog 208 = some false := by kernel_rfl
@[simp] theorem tySize_208 : tySize Tryz.prog 208 = some 1 := by kernel_rfl
@[simp] theorem isSomeT_208 : Av.isSome Tryz.prog 208 = true := by kernel_rfl
@[simp] theorem isIfaceT_208 : isIface Tryz.prog 208 = false := by kernel_rfl
@[simp] theorem isStrT_208 : isStr Tryz.prog 208 = false := by kernel_rfl
@[simp] theorem zeroC_208 : zeroC Tryz.prog 208 = some [.sc .nilFunc] := by kernel_rfl
@[simp] theorem isPtrT_208 : isPtr Tryz.prog 208 = false := by kernel_rfl
@[simp] theorem isBytesT_208 : isBytes Tryz.prog 208 = false := by kernel_rfl
@[simp] theorem intOfT_208 : Av.intOf Tryz.prog 208 = none := by kernel_rfl
@[simp] theorem tyAgg_209 : tyAgg Tryz.prog 209 = some false := by kernel_rfl
@[simp] theorem tySize_209 : tySize Tryz.prog 209 = some 1 := by kernel_rfl
@[simp] theorem isSomeT_209 : Av.isSome Tryz.prog 209 = true := by kernel_rfl
@[simp] theorem isIfaceT_209 : isIface Tryz.prog 209 = false := by kernel_rfl
@[simp] theorem isStrT_209 : isStr Tryz.prog 209 = false := by kernel_rfl
@[simp] theorem zeroC_209 : zeroC Tryz.prog 209 = some [.sc .nilFunc] := by kernel_rfl
@[simp] theorem isPtrT_209 : isPtr Tryz.prog 209 = false := by kernel_rfl
@[simp] theorem isBytesT_209 : isBytes Tryz.prog 209 = false := by kernel_rfl
@[simp] theorem intOfT_209 : Av.intOf Tryz.prog 209 = none := by kernel_rfl
@[simp] theorem tyAgg_210 : tyAgg Tryz.prog 210 = some false := by kernel_rfl
@[simp] theorem tySize_210 : tySize Tryz.prog 210 = some 1 := by kernel_rfl
@[simp] theorem isSomeT_210 : Av.isSome Tryz.prog 210 = true := by kernel_rfl
@[simp] theorem isIfaceT_210 : isIface Tryz.prog 210 = false := by kernel_rfl
@[simp] theorem isStrT_210 : isStr Tryz.prog 210 = false := by kernel_rfl
@[simp] theorem zeroC_210 : zeroC Tryz.prog 210 = some [.sc .nilFunc] := by kernel_rfl
@[simp] theorem isPtrT_210 : isPtr Tryz.prog 210 = false := by kernel_rfl
@[simp] theorem isBytesT_210 : isBytes Tryz.prog 210 = false := by kernel_rfl
@[simp] theorem intOfT_210 : Av.intOf Tryz.prog 210 = none := by kernel_rfl
@[simp] theorem tyAgg_211 : tyAgg Tryz.prog 211 = some false := by kernel_rfl
@[simp] theorem tySize_211 : tySize Tryz.prog 211 = some 1 := by kernel_rfl
@[simp] theorem isSomeT_211 : Av.isSome Tryz.prog 211 = true := by kernel_rfl
@[simp] theorem isIfaceT_211 : isIface Tryz.prog 211 = false := by kernel_rfl
@[simp] theorem isStrT_211 : isStr Tryz.prog 211 = false := by kernel_rfl
@[simp] theorem zeroC_211 : zeroC Tryz.prog 211 = some [.sc .nilFunc] := by kernel_rfl
@[simp] theorem isPtrT_211 : isPtr Tryz.prog 211 = false := by kernel_rfl
@[simp] theorem isBytesT_211 : isBytes Tryz.prog 211 = false := by kernel_rfl
@[simp] theorem intOfT_211 : Av.intOf Tryz.prog 211 = none := by kernel_rfl
@[simp] theorem tyAgg_212 : tyAgg Tryz.prog 212 = some false := by kernel_rfl
@[simp] theorem tySize_212 : tySize Tryz.prog 212 = some 1 := by kernel_rfl
@[simp] theorem isSomeT_212 : Av.isSome Tryz.prog 212 = true := by kernel_rfl
@[simp] theorem isIfaceT_212 : isIface Tryz.prog 212 = false := by kernel_rfl
@[simp] theorem isStrT_212 : isStr Tryz.prog 212 = false := by kernel_rfl
@[simp] theorem zeroC_212 : zeroC Tryz.prog 212 = some [.sc .nilFunc] := by kernel_rfl
@[simp] theorem isPtrT_212 : isPtr Tryz.prog 212 = false := by kernel_rfl
@[simp] theorem isBytesT_212 : isBytes Tryz.prog 212 = false := by kernel_rfl
@[simp] theorem intOfT_212 : Av.intOf Tryz.prog 212 = none := by kernel_rfl
@[simp] theorem tyAgg_214 : tyAgg Tryz.prog 214 = some false := by kernel_rfl
@[simp] theorem tySize_214 : tySize Tryz.prog 214 = some 1 := by kernel_rfl
@[simp] theorem isSomeT_214 : Av.isSome Tryz.prog 214 = true := by kernel_rfl
@[simp] theorem isIfaceT_214 : isIface Tryz.prog 214 = false := by kernel_rfl
@[simp] theorem isStrT_214 : isStr Tryz.prog 214 = false := by kernel_rfl
@[simp] theorem zeroC_214 : zeroC Tryz.prog 214 = some [.sc .nilFunc] := by kernel_rfl
@[simp] theorem isPtrT_214 : isPtr Tryz.prog 214 = false := by kernel_rfl
@[simp] theorem isBytesT_214 : isBytes Tryz.prog 214 = false := by kernel_rfl
@[simp] theorem intOfT_214 : Av.intOf Tryz.prog 214 = none := by kernel_rfl
@[simp] theorem tyAgg_215 : tyAgg Tryz.prog 215 = some false := by kernel_rfl
@[simp] theorem tySize_215 : tySize Tryz.prog 215 = some 1 := by kernel_rfl
@[simp] theorem isSomeT_215 : Av.isSome Tryz.prog 215 = true := by kernel_rfl
@[simp] theorem isIfaceT_215 : isIface Tryz.prog 215 = false := by kernel_rfl
@[simp] theorem isStrT_215 : isStr Tryz.prog 215 = false := by kernel_rfl
@[simp] theorem zeroC_215 : zeroC Tryz.prog 215 = some [.sc .nilFunc] := by kernel_rfl
@[simp] theorem isPtrT_215 : isPtr Tryz.prog 215 = false := by kernel_rfl
@[simp] theorem isBytesT_215 : isBytes Tryz.prog 215 = false := by kernel_rfl
@[simp] theorem intOfT_215 : Av.intOf Tryz.prog 215 = none := by kernel_rfl
@[simp] theorem tyAgg_216 : tyAgg Tryz.prog 216 = some false := by kernel_rfl
@[simp] theorem tySize_216 : tySize Tryz.prog 216 = some 1 := by kernel_rfl
@[simp] theorem isSomeT_216 : Av.isSome Tryz.prog 216 = true := by kernel_rfl
@[simp] theorem isIfaceT_216 : isIface Tryz.prog 216 = false := by kernel_rfl
@[simp] theorem isStrT_216 : isStr Tryz.prog 216 = false := by kernel_rfl
@[simp] theorem zeroC_216 : zeroC Tryz.prog 216 = some [.sc .nilFunc] := by kernel_rfl
@[simp] theorem isPtrT_216 : isPtr Tryz.prog 216 = false := by kernel_rfl
@[simp] theorem isBytesT_216 : isBytes Tryz.prog 216 = false := by kernel_rfl
@[simp] theorem intOfT_216 : Av.intOf Tryz.prog 216 = none := by kernel_rfl
@[simp] theorem tyAgg_217 : tyAgg Tryz.prog 217 = some false := by kernel_rfl
@[simp] theorem tySize_217 : tySize Tryz.prog 217 = some 1 := by kernel_rfl
@[simp] theorem isSomeT_217 : Av.isSome Tryz.prog 217 = true := by kernel_rfl
@[simp] theorem isIfaceT_217 : isIface Tryz.prog 217 = false := by kernel_rfl
@[simp] theorem isStrT_217 : isStr Tryz.prog 217 = false := by kernel_rfl
@[simp] theorem zeroC_217 : zeroC Tryz.prog 217 = some [.sc (.pointer none)] := by kernel_rfl
@[simp] theorem isPtrT_217 : isPtr Tryz.prog 217 = true := by kernel_rfl
@[simp] theorem isBytesT_217 : isBytes Tryz.prog 217 = false := by kernel_rfl
@[simp] theorem intOfT_217 : Av.intOf Tryz.prog 217 = none := by kernel_rfl
@[simp] theorem tyAgg_218 : tyAgg Tryz.prog 218 = some false := by kernel_rfl
@[simp] theorem tySize_218 : tySize Tryz.prog 218 = some 1 := by kernel_rfl
@[simp] theorem isSomeT_218 : Av.isSome Tryz.prog 218 = true := by kernel_rfl
@[simp] theorem isIfaceT_218 : isIface Tryz.prog 218 = false := by kernel_rfl
@[simp] theorem isStrT_218 : isStr Tryz.prog 218 = false := by kernel_rfl
@[simp] theorem zeroC_218 : zeroC Tryz.prog 218 = some [.sc .nilFunc] := by kernel_rfl
@[simp] theorem isPtrT_218 : isPtr Tryz.prog 218 = false := by kernel_rfl
@[simp] theorem isBytesT_218 : isBytes Tryz.prog 218 = false := by kernel_rfl
@[simp] theorem intOfT_218 : Av.intOf Tryz.prog 218 = none := by kernel_rfl
@[simp] theorem tyAgg_219 : tyAgg Tryz.prog 219 = some false := by kernel_rfl
@[simp] theorem tySize_219 : tySize Tryz.prog 219 = some 1 := by kernel_rfl
@[simp] theorem isSomeT_219 : Av.isSome Tryz.prog 219 = true := by kernel_rfl
@[simp] theorem isIfaceT_219 : isIface Tryz.prog 219 = false := by kernel_rfl
@[simp] theorem isStrT_219 : isStr Tryz.prog 219 = false := by kernel_rfl
@[simp] theorem zeroC_219 : zeroC Tryz.prog 219 = some [.sc .nilFunc] := by kernel_rfl
@[simp] theorem isPtrT_219 : isPtr Tryz.prog 219 = false := by kernel_rfl
@[simp] theorem isBytesT_219 : isBytes Tryz.prog 219 = false := by kernel_rfl
@[simp] theorem intOfT_219 : Av.intOf Tryz.prog 219 = none := by kernel_rfl
@[simp] theorem tyAgg_221 : tyAgg Tryz.prog 221 = some false := by kernel_rfl
@[simp] theorem tySize_221 : tySize Tryz.prog 221 = some 1 := by kernel_rfl
@[simp] theorem isSomeT_221 : Av.isSome Tryz.prog 221 = true := by kernel_rfl
@[simp] theorem isIfaceT_221 : isIface Tryz.prog 221 = false := by kernel_rfl
@[simp] theorem isStrT_221 : isStr Tryz.prog 221 = false := by kernel_rfl
@[simp] theorem zeroC_221 : zeroC Tryz.prog 221 = some [.sc .nilFunc] := by kernel_rfl
@[simp] theorem isPtrT_221 : isPtr Tryz.prog 221 = false := by kernel_rfl
@[simp] theorem isBytesT_221 : isBytes Tryz.prog 221 = false := by kernel_rfl
@[simp] theorem intOfT_221 : Av.intOf Tryz.prog 221 = none := by kernel_rfl
@[simp] theorem tyAgg_222 : tyAgg Tryz.prog 222 = some false := by kernel_rfl
@[simp] theorem tySize_222 : tySize Tryz.prog 222 = some 1 := by kernel_rfl
@[simp] theorem isSomeT_222 : Av.isSome Tryz.prog 222 = true := by kernel_rfl
@[simp] theorem isIfaceT_222 : isIface Tryz.prog 222 = false := by kernel_rfl
@[simp] theorem isStrT_222 : isStr Tryz.prog 222 = false := by kernel_rfl
@[simp] theorem zeroC_222 : zeroC Tryz.prog 222 = some [.sc .nilFunc] := by kernel_rfl
@[simp] theorem isPtrT_222 : isPtr Tryz.prog 222 = false := by kernel_rfl
@[simp] theorem isBytesT_222 : isBytes Tryz.prog 222 = false := by kernel_rfl
@[simp] theorem intOfT_222 : Av.intOf Tryz.prog 222 = none := by kernel_rfl
@[simp] theorem tyAgg_223 : tyAgg Tryz.prog 223 = some false := by kernel_rfl
@[simp] theorem tySize_223 : tySize Tryz.prog 223 = some 1 := by kernel_rfl
@[simp] theorem isSomeT_223 : Av.isSome Tryz.prog 223 = true := by kernel_rfl
@[simp] theorem isIfaceT_223 : isIface Tryz.prog 223 = false := by kernel_rfl
@[simp] theorem isStrT_223 : isStr Tryz.prog 223 = false := by kernel_rfl
@[simp] theorem zeroC_223 : zeroC Tryz.prog 223 = some [.sc (.pointer none)] := by kernel_rfl
@[simp] theorem isPtrT_223 : isPtr Tryz.prog 223 = true := by kernel_rfl
@[simp] theorem isBytesT_223 : isBytes Tryz.prog 223 = false := by kernel_rfl
@[simp] theorem intOfT_223 : Av.intOf Tryz.prog 223 = none := by kernel_rfl
@[simp] theorem tyAgg_224 : tyAgg Tryz.prog 224 = some true := by kernel_rfl
@[simp] theorem tySize_224 : tySize Tryz.prog 224 = some 8 := by kernel_rfl
@[simp] theorem isSomeT_224 : Av.isSome Tryz.prog 224 = true := by kernel_rfl
@[simp] theorem isIfaceT_224 : isIface Tryz.prog 224 = false := by kernel_rfl
@[simp] theorem isStrT_224 : isStr Tryz.prog 224 = false := by kernel_rfl
@[simp] theorem zeroC_224 : zeroC Tryz.prog 224 = some [.sc (.int .i64 0), .sc (.int .i64 0), .sc (.int .i64 0), .sc (.int .i64 0), .sc (.int .i64 0), .sc (.int .i64 0), .sc (.int .i64 0), .sc (.int .i64 0)] := by kernel_rfl
@[simp] theorem fieldsOk_224 : fieldsOk Tryz.prog 224 = true := by kernel_rfl
@[simp] theorem isPtrT_224 : isPtr Tryz.prog 224 = false := by kernel_rfl
@[simp] theorem isBytesT_224 : isBytes Tryz.prog 224 = false := by kernel_rfl
@[simp] theorem intOfT_224 : Av.intOf Tryz.prog 224 = none := by kernel_rfl
@[simp] theorem tyAgg_225 : tyAgg Tryz.prog 225 = some false := by kernel_rfl
@[simp] theorem tySize_225 : tySize Tryz.prog 225 = some 1 := by kernel_rfl
@[simp] theorem isSomeT_225 : Av.isSome Tryz.prog 225 = true := by kernel_rfl
@[simp] theorem isIfaceT_225 : isIface Tryz.prog 225 = false := by kernel_rfl
@[simp] theorem isStrT_225 : isStr Tryz.prog 225 = false := by kernel_rfl
@[simp] theorem zeroC_225 : zeroC Tryz.prog 225 = some [.sc .nilFunc] := by kernel_rfl
@[simp] theorem isPtrT_225 : isPtr Tryz.prog 225 = false := by kernel_rfl
@[simp] theorem isBytesT_225 : isBytes Tryz.prog 225 = false := by kernel_rfl
@[simp] theorem intOfT_225 : Av.intOf Tryz.prog 225 = none := by kernel_rfl
@[simp] theorem tyAgg_226 : tyAgg Tryz.prog 226 = some false := by kernel_rfl
@[simp] theorem tySize_226 : tySize Tryz.prog 226 = some 1 := by kernel_rfl
@[simp] theorem isSomeT_226 : Av.isSome Tryz.prog 226 = true := by kernel_rfl
@[simp] theorem isIfaceT_226 : isIface Tryz.prog 226 = false := by kernel_rfl
@[simp] theorem isStrT_226 : isStr Tryz.prog 226 = false := by kernel_rfl
@[simp] theorem zeroC_226 : zeroC Tryz.prog 226 = some [.sc (.pointer none)] := by kernel_rfl
@[simp] theorem isPtrT_226 : isPtr Tryz.prog 226 = true := by kernel_rfl
@[simp] theorem isBytesT_226 : isBytes Tryz.prog 226 = false := by kernel_rfl
@[simp] theorem intOfT_226 : Av.intOf Tryz.prog 226 = none := by kernel_rfl
@[simp] theorem tyAgg_227 : tyAgg Tryz.prog 227 = some false := by kernel_rfl
@[simp] theorem tySize_227 : tySize Tryz.prog 227 = some 1 := by kernel_rfl
@[simp] theorem isSomeT_227 : Av.isSome Tryz.prog 227 = true := by kernel_rfl
@[simp] theorem isIfaceT_227 : isIface Tryz.prog 227 = false := by kernel_rfl
@[simp] theorem isStrT_227 : isStr Tryz.prog 227 = false := by kernel_rfl
@[simp] theorem zeroC_227 : zeroC Tryz.prog 227 = some [.sc .nilFunc] := by kernel_rfl
@[simp] theorem isPtrT_227 : isPtr Tryz.prog 227 = false := by kernel_rfl
@[simp] theorem isBytesT_227 : isBytes Tryz.prog 227 = false := by kernel_rfl
@[simp] theorem intOfT_227 : Av.intOf Tryz.prog 227 = none := by kernel_rfl
@[simp] theorem tyAgg_228 : tyAgg Tryz.prog 228 = some false := by kernel_rfl
@[simp] theorem tySize_228 : tySize Tryz.prog 228 = some 1 := by kernel_rfl
@[simp] theorem isSomeT_228 : Av.isSome Tryz.prog 228 = true := by kernel_rfl
@[simp] theorem isIfaceT_228 : isIface Tryz.prog 228 = false := by kernel_rfl
@[simp] theorem isStrT_228 : isStr Tryz.prog 228 = false := by kernel_rfl
@[simp] theorem zeroC_228 : zeroC Tryz.prog 228 = some [.sc .nilFunc] := by kernel_rfl
@[simp] theorem isPtrT_228 : isPtr Tryz.prog 228 = false := by kernel_rfl
@[simp] theorem isBytesT_228 : isBytes Tryz.prog 228 = false := by kernel_rfl
@[simp] theorem intOfT_228 : Av.intOf Tryz.prog 228 = none := by kernel_rfl
@[simp] theorem tyAgg_230 : tyAgg Tryz.prog 230 = some false := by kernel_rfl
@[simp] theorem tySize_230 : tySize Tryz.prog 230 = some 1 := by kernel_rfl
@[simp] theorem isSomeT_230 : Av.isSome Tryz.prog 230 = true := by kernel_rfl
@[simp] theorem isIfaceT_230 : isIface Tryz.prog 230 = false := by kernel_rfl
@[simp] theorem isStrT_230 : isStr Tryz.prog 230 = false := by kernel_rfl
@[simp] theorem zeroC_230 : zeroC Tryz.prog 230 = some [.sc .nilFunc] := by kernel_rfl
@[simp] theorem isPtrT_230 : isPtr Tryz.prog 230 = false := by kernel_rfl
@[simp] theorem isBytesT_230 : isBytes Tryz.prog 230 = false := by kernel_rfl
@[simp] theorem intOfT_230 : Av.intOf Tryz.prog 230 = none := by kernel_rfl
@[simp] theorem tyAgg_231 : tyAgg Tryz.prog 231 = some false := by kernel_rfl
@[simp] theorem tySize_231 : tySize Tryz.prog 231 = some 1 := by kernel_rfl
@[simp] theorem isSomeT_231 : Av.isSome Tryz.prog 231 = true := by kernel_rfl
@[simp] theorem isIfaceT_231 : isIface Tryz.prog 231 = false := by kernel_rfl
@[simp] theorem isStrT_231 : isStr Tryz.prog 231 = false := by kernel_rfl
@[simp] theorem isPtrT_231 : isPtr Tryz.prog 231 = false := by kernel_rfl
@[simp] theorem isBytesT_231 : isBytes Tryz.prog 231 = false := by kernel_rfl
@[simp] theorem intOfT_231 : Av.intOf Tryz.prog 231 = none := by kernel_rfl
@[simp] theorem tyAgg_232 : tyAgg Tryz.prog 232 = some false := by kernel_rfl
@[simp] theorem tySize_232 : tySize Tryz.prog 232 = some 1 := by kernel_rfl
@[simp] theorem isSomeT_232 : Av.isSome Tryz.prog 232 = true := by kernel_rfl
@[simp] theorem isIfaceT_232 : isIface Tryz.prog 232 = false := by kernel_rfl
@[simp] theorem isStrT_232 : isStr Tryz.prog 232 = false := by kernel_rfl
@[simp] theorem zeroC_232 : zeroC Tryz.prog 232 = some [.sc .nilFunc] := by kernel_rfl
@[simp] theorem isPtrT_232 : isPtr Tryz.prog 232 = false := by kernel_rfl
@[simp] theorem isBytesT_232 : isBytes Tryz.prog 232 = false := by kernel_rfl
@[simp] theorem intOfT_232 : Av.intOf Tryz.prog 232 = none := by kernel_rfl
@[simp] theorem tyAgg_233 : tyAgg Tryz.prog 233 = some false := by kernel_rfl
@[simp] theorem tySize_233 : tySize Tryz.prog 233 = some 1 := by kernel_rfl
@[simp] theorem isSomeT_233 : Av.isSome Tryz.prog 233 = true := by kernel_rfl
@[simp] theorem isIfaceT_233 : isIface Tryz.prog 233 = false := by kernel_rfl
@[simp] theorem isStrT_233 : isStr Tryz.prog 233 = false := by kernel_rfl
@[simp] theorem zeroC_233 : zeroC Tryz.prog 233 = some [.sc .nilFunc] := by kernel_rfl
@[simp] theorem isPtrT_233 : isPtr Tryz.prog 233 = false := by kernel_rfl
@[simp] theorem isBytesT_233 : isBytes Tryz.prog 233 = false := by kernel_rfl
@[simp] theorem intOfT_233 : Av.intOf Tryz.prog 233 = none := by kernel_rfl
@[simp] theorem tyAgg_235 : tyAgg Tryz.prog 235 = some false := by kernel_rfl
@[simp] theorem tySize_235 : tySize Tryz.prog 235 = some 1 := by kernel_rfl
@[simp] theorem isSomeT_235 : Av.isSome Tryz.prog 235 = true := by kernel_rfl
@[simp] theorem isIfaceT_235 : isIface Tryz.prog 235 = false := by kernel_rfl
@[simp] theorem isStrT_235 : isStr Tryz.prog 235 = false := by kernel_rfl
@[simp] theorem zeroC_235 : zeroC Tryz.prog 235 = some [.sc .nilFunc] := by kernel_rfl
@[simp] theorem isPtrT_235 : isPtr Tryz.prog 235 = false := by kernel_rfl
@[simp] theorem isBytesT_235 : isBytes Tryz.prog 235 = false := by kernel_rfl
@[simp] theorem intOfT_235 : Av.intOf Tryz.prog 235 = none := by kernel_rfl
@[simp] theorem tyAgg_236 : tyAgg Tryz.prog 236 = some true := by kernel_rfl
@[simp] theorem tySize_236 : tySize Tryz.prog 236 = some 256 := by kernel_rfl
@[simp] theorem isSomeT_236 : Av.isSome Tryz.prog 236 = true := by kernel_rfl
@[simp] theorem isIfaceT_236 : isIface Tryz.prog 236 = false := by kernel_rfl
@[simp] theorem isStrT_236 : isStr Tryz.prog 236 = false := by kernel_rfl
@[simp] theorem fieldsOk_236 : fieldsOk Tryz.prog 236 = true := by kernel_rfl
@[simp] theorem isPtrT_236 : isPtr Tryz.prog 236 = false := by kernel_rfl
@[simp] theorem isBytesT_236 : isBytes Tryz.prog 236 = false := by kernel_rfl
@[simp] theorem intOfT_236 : Av.intOf Tryz.prog 236 = none := by kernel_rfl
@[simp] theorem tyAgg_237 : tyAgg Tryz.prog 237 = some true := by kernel_rfl
@[simp] theorem tySize_237 : tySize Tryz.prog 237 = some 2 := by kernel_rfl
@[simp] theorem isSomeT_237 : Av.isSome Tryz.prog 237 = true := by kernel_rfl
@[simp] theorem isIfaceT_237 : isIface Tryz.prog 237 = false := by kernel_rfl
@[simp] theorem isStrT_237 : isStr Tryz.prog 237 = false := by kernel_rfl
@[simp] theorem zeroC_237 : zeroC Tryz.prog 237 = some [.sc (.int .u8 0), .sc (.int .u8 0)] := by kernel_rfl
@[simp] theorem fieldsOk_237 : fieldsOk Tryz.prog 237 = true := by kernel_rfl
@[simp] theorem isPtrT_237 : isPtr Tryz.prog 237 = false := by kernel_rfl
@[simp] theorem fldL_237 : fldL Tryz.prog 237 = some [(0, 5), (1, 5)] := by kernel_rfl
@[simp] theorem eqOkT_237 : eqOkT Tryz.prog 237 = true := by kernel_rfl
@[simp] theorem placeP_237_0 : placeP Tryz.prog 237 0 = some (0, 1) := by kernel_rfl
@[simp] theorem placeP_237_1 : placeP Tryz.prog 237 1 = some (1, 1) := by kernel_rfl
@[simp] theorem fld_237_0 : fld Tryz.prog 237 0 = some (0, 1, false) := by kernel_rfl
@[simp] theorem fld_237_1 : fld Tryz.prog 237 1 = some (1, 1, false) := by kernel_rfl
@[simp] theorem isBytesT_237 : isBytes Tryz.prog 237 = false := by kernel_rfl
@[simp] theorem intOfT_237 : Av.intOf Tryz.prog 237 = none := by kernel_rfl
@[simp] theorem tyAgg_238 : tyAgg Tryz.prog 238 = some true := by kernel_rfl
@[simp] theorem tySize_238 : tySize Tryz.prog 238 = some 2 := by kernel_rfl
@[simp] theorem isSomeT_238 : Av.isSome Tryz.prog 238 = true := by kernel_rfl
@[simp] theorem isIfaceT_238 : isIface Tryz.prog 238 = false := by kernel_rfl
@[simp] theorem isStrT_238 : isStr Tryz.prog 238 = false := by kernel_rfl
@[simp] theorem zeroC_238 : zeroC Tryz.prog 238 = some [.sc (.int .u8 0), .sc (.int .u8 0)] := by kernel_rfl
@[simp] theorem fieldsOk_238 : fieldsOk Tryz.prog 238 = true := by kernel_rfl
@[simp] theorem isPtrT_238 : isPtr Tryz.prog 238 = false := by kernel_rfl
@[simp] theorem fldL_238 : fldL Tryz.prog 238 = some [(0, 5), (1, 5)] := by kernel_rfl
@[simp] theorem eqOkT_238 : eqOkT Tryz.prog 238 = true := by kernel_rfl
@[simp] theorem placeP_238_0 : placeP Tryz.prog 238 0 = some (0, 1) := by kernel_rfl
@[simp] theorem placeP_238_1 : placeP Tryz.prog 238 1 = some (1, 1) := by kernel_rfl
@[simp] theorem fld_238_0 : fld Tryz.prog 238 0 = some (0, 1, false) := by kernel_rfl
@[simp] theorem fld_238_1 : fld Tryz.prog 238 1 = some (1, 1, false) := by kernel_rfl
@[simp] theorem isBytesT_238 : isBytes Tryz.prog 238 = false := by kernel_rfl
@[simp] theorem intOfT_238 : Av.intOf Tryz.prog 238 = none := by kernel_rfl
@[simp] theorem tyAgg_239 : tyAgg Tryz.prog 239 = some true := by kernel_rfl
@[simp] theorem tySize_239 : tySize Tryz.prog 239 = some 32 := by kernel_rfl
@[simp] theorem isSomeT_239 : Av.isSome Tryz.prog 239 = true := by kernel_rfl
@[simp] theorem isIfaceT_239 : isIface Tryz.prog 239 = false := by kernel_rfl
@[simp] theorem isStrT_239 : isStr Tryz.prog 239 = false := by kernel_rfl
@[simp] theorem zeroC_239 : zeroC Tryz.prog 239 = some [.sc (.int .u8 0), .sc (.int .u8 0), .sc (.int .u8 0), .sc (.int .u8 0), .sc (.int .u8 0), .sc (.int .u8 0), .sc (.int .u8 0), .sc (.int .u8 0), .sc (.int .u8 0), .sc (.int .u8 0), .sc (.int .u8 0), .sc (.int .u8 0), .sc (.int .u8 0), .sc (.int .u8 0), .sc (.int .u8 0), .sc (.int .u8 0), .sc (.int .u8 0), .sc (.int .u8 0), .sc (.int .u8 0), .sc (.int .u8 0), .sc (.int .u8 0), .sc (.int .u8 0), .sc (.int .u8 0), .sc (.int .u8 0), .sc (.int .u8 0), .sc (.int .u8 0), .sc (.int .u8 0), .sc (.int .u8 0), .sc (.int .u8 0), .sc (.int .u8 0), .sc (.int .u8 0), .sc (.int .u8 0)] := by kernel_rfl
@[simp] theorem fieldsOk_239 : fieldsOk Tryz.prog 239 = true := by kernel_rfl
@[simp] theorem isPtrT_239 : isPtr Tryz.prog 239 = false := by kernel_rfl
@[simp] theorem isBytesT_239 : isBytes Tryz.prog 239 = false := by kernel_rfl
@[simp] theorem intOfT_239 : Av.intOf Tryz.prog 239 = none := by kernel_rfl
@[simp] theorem tyAgg_240 : tyAgg Tryz.prog 240 = some false := by kernel_rfl
@[simp] theorem tySize_240 : tySize Tryz.prog 240 = some 1 := by kernel_rfl
@[simp] theorem isSomeT_240 : Av.isSome Tryz.prog 240 = true := by kernel_rfl
@[simp] theorem isIfaceT_240 : isIface Tryz.prog 240 = false := by kernel_rfl
@[simp] theorem isStrT_240 : isStr Tryz.prog 240 = false := by kernel_rfl
@[simp] theorem zeroC_240 : zeroC Tryz.prog 240 = some [.sc .nilFunc] := by kernel_rfl
@[simp] theorem isPtrT_240 : isPtr Tryz.prog 240 = false := by kernel_rfl
@[simp] theorem isBytesT_240 : isBytes Tryz.prog 240 = false := by kernel_rfl
@[simp] theorem intOfT_240 : Av.intOf Tryz.prog 240 = none := by kernel_rfl
@[simp] theorem tyAgg_241 : tyAgg Tryz.prog 241 = some false := by kernel_rfl
@[simp] theorem tySize_241 : tySize Tryz.prog 241 = some 1 := by kernel_rfl
@[simp] theorem isSomeT_241 : Av.isSome Tryz.prog 241 = true := by kernel_rfl
@[simp] theorem isIfaceT_241 : isIface Tryz.prog 241 = false := by kernel_rfl
@[simp] theorem isStrT_241 : isStr Tryz.prog 241 = false := by kernel_rfl
@[simp] theorem zeroC_241 : zeroC Tryz.prog 241 = some [.sc .nilFunc] := by kernel_rfl
@[simp] theorem isPtrT_241 : isPtr Tryz.prog 241 = false := by kernel_rfl
@[simp] theorem isBytesT_241 : isBytes Tryz.prog 241 = false := by kernel_rfl
@[simp] theorem intOfT_241 : Av.intOf Tryz.prog 241 = none := by kernel_rfl
@[simp] theorem tyAgg_242 : tyAgg Tryz.prog 242 = some false := by kernel_rfl
@[simp] theorem tySize_242 : tySize Tryz.prog 242 = some 1 := by kernel_rfl
@[simp] theorem isSomeT_242 : Av.isSome Tryz.prog 242 = true := by kernel_rfl
@[simp] theorem isIfaceT_242 : isIface Tryz.prog 242 = false := by kernel_rfl
@[simp] theorem isStrT_242 : isStr Tryz.prog 242 = false := by kernel_rfl
@[simp] theorem zeroC_242 : zeroC Tryz.prog 242 = some [.sc .nilFunc] := by kernel_rfl
@[simp] theorem isPtrT_242 : isPtr Tryz.prog 242 = false := by kernel_rfl
@[simp] theorem isBytesT_242 : isBytes Tryz.prog 242 = false := by kernel_rfl
@[simp] theorem intOfT_242 : Av.intOf Tryz.prog 242 = none := by kernel_rfl
@[simp] theorem tyAgg_244 : tyAgg Tryz.prog 244 = some false := by kernel_rfl
@[simp] theorem tySize_244 : tySize Tryz.prog 244 = some 1 := by kernel_rfl
@[simp] theorem isSomeT_244 : Av.isSome Tryz.prog 244 = true := by kernel_rfl
@[simp] theorem isIfaceT_244 : isIface Tryz.prog 244 = false := by kernel_rfl
@[simp] theorem isStrT_244 : isStr Tryz.prog 244 = false := by kernel_rfl
@[simp] theorem zeroC_244 : zeroC Tryz.prog 244 = some [.sc .nilFunc] := by kernel_rfl
@[simp] theorem isPtrT_244 : isPtr Tryz.prog 244 = false := by kernel_rfl
@[simp] theorem isBytesT_244 : isBytes Tryz.prog 244 = false := by kernel_rfl
@[simp] theorem intOfT_244 : Av.intOf Tryz.prog 244 = none := by kernel_rfl
@[simp] theorem tyAgg_245 : tyAgg Tryz.prog 245 = some true := by kernel_rfl
@[simp] theorem tySize_245 : tySize Tryz.prog 245 = some 4 := by kernel_rfl
@[simp] theorem isSomeT_245 : Av.isSome Tryz.prog 245 = true := by kernel_rfl
@[simp] theorem isIfaceT_245 : isIface Tryz.prog 245 = false := by kernel_rfl
@[simp] theorem isStrT_245 : isStr Tryz.prog 245 = false := by kernel_rfl
@[simp] theorem zeroC_245 : zeroC Tryz.prog 245 = some [.sc (.pointer none), .sc (.pointer none), .sc (.pointer none), .str []] := by kernel_rfl
@[simp] theorem fieldsOk_245 : fieldsOk Tryz.prog 245 = true := by kernel_rfl
@[simp] theorem isPtrT_245 : isPtr Tryz.prog 245 = false := by kernel_rfl
@[simp] theorem placeP_245_0 : placeP Tryz.prog 245 0 = some (0, 1) := by kernel_rfl
@[simp] theorem placeP_245_1 : placeP Tryz.prog 245 1 = some (1, 1) := by kernel_rfl
@[simp] theorem placeP_245_2 : placeP Tryz.prog 245 2 = some (2, 1) := by kernel_rfl
@[simp] theorem placeP_245_3 : placeP Tryz.prog 245 3 = some (3, 1) := by kernel_rfl
@[simp] theorem fld_245_0 : fld Tryz.prog 245 0 = some (0, 1, false) := by kernel_rfl
@[simp] theorem fld_245_1 : fld Tryz.prog 245 1 = some (1, 1, false) := by kernel_rfl
@[simp] theorem fld_245_2 : fld Tryz.prog 245 2 = some (2, 1, false) := by kernel_rfl
@[simp] theorem fld_245_3 : fld Tryz.prog 245 3 = some (3, 1, false) := by kernel_rfl
@[simp] theorem isBytesT_245 : isBytes Tryz.prog 245 = false := by kernel_rfl
@[simp] theorem intOfT_245 : Av.intOf Tryz.prog 245 = none := by kernel_rfl
@[simp] theorem tyAgg_246 : tyAgg Tryz.prog 246 = some true := by kernel_rfl
@[simp] theorem tySize_246 : tySize Tryz.prog 246 = some 4 := by kernel_rfl
@[simp] theorem isSomeT_246 : Av.isSome Tryz.prog 246 = true := by kernel_rfl
@[simp] theorem isIfaceT_246 : isIface Tryz.prog 246 = false := by kernel_rfl
@[simp] theorem isStrT_246 : isStr Tryz.prog 246 = false := by kernel_rfl
@[simp] theorem zeroC_246 : zeroC Tryz.prog 246 = some [.sc (.pointer none), .sc (.pointer none), .sc (.pointer none), .str []] := by kernel_rfl
@[simp] theorem fieldsOk_246 : fieldsOk Tryz.prog 246 = true := by kernel_rfl
@[simp] theorem isPtrT_246 : isPtr Tryz.prog 246 = false := by kernel_rfl
@[simp] theorem placeP_246_0 : placeP Tryz.prog 246 0 = some (0, 1) := by kernel_rfl
@[simp] theorem placeP_246_1 : placeP Tryz.prog 246 1 = some (1, 1) := by kernel_rfl
@[simp] theorem placeP_246_2 : placeP Tryz.prog 246 2 = some (2, 1) := by kernel_rfl
@[simp] theorem placeP_246_3 : placeP Tryz.prog 246 3 = some (3, 1) := by kernel_rfl
@[simp] theorem fld_246_0 : fld Tryz.prog 246 0 = some (0, 1, false) := by kernel_rfl
@[simp] theorem fld_246_1 : fld Tryz.prog 246 1 = some (1, 1, false) := by kernel_rfl
@[simp] theorem fld_246_2 : fld Tryz.prog 246 2 = some (2, 1, false) := by kernel_rfl
@[simp] theorem fld_246_3 : fld Tryz.prog 246 3 = some (3, 1, false) := by kernel_rfl
@[simp] theorem isBytesT_246 : isBytes Tryz.prog 246 = false := by kernel_rfl
@[simp] theorem intOfT_246 : Av.intOf Tryz.prog 246 = none := by kernel_rfl
@[simp] theorem tyAgg_247 : tyAgg Tryz.prog 247 = some true := by kernel_rfl
@[simp] theorem tySize_247 : tySize Tryz.prog 247 = some 0 := by kernel_rfl
@[simp] theorem isSomeT_247 : Av.isSome Tryz.prog 247 = true := by kernel_rfl
@[simp] theorem isIfaceT_247 : isIface Tryz.prog 247 = false := by kernel_rfl
@[simp] theorem isStrT_247 : isStr Tryz.prog 247 = false := by kernel_rfl
@[simp] theorem zeroC_247 : zeroC Tryz.prog 247 = some [] := by kernel_rfl
@[simp] theorem fieldsOk_247 : fieldsOk Tryz.prog 247 = true := by kernel_rfl
@[simp] theorem isPtrT_247 : isPtr Tryz.prog 247 = false := by kernel_rfl
@[simp] theorem isBytesT_247 : isBytes Tryz.prog 247 = false := by kernel_rfl
@[simp] theorem intOfT_247 : Av.intOf Tryz.prog 247 = none := by kernel_rfl
@[simp] theorem tyAgg_248 : tyAgg Tryz.prog 248 = some true := by kernel_rfl
@[simp] theorem tySize_248 : tySize Tryz.prog 248 = some 0 := by kernel_rfl
@[simp] theorem isSomeT_248 : Av.isSome Tryz.prog 248 = true := by kernel_rfl
@[simp] theorem isIfaceT_248 : isIface Tryz.prog 248 = false := by kernel_rfl
@[simp] theorem isStrT_248 : isStr Tryz.prog 248 = false := by kernel_rfl
@[simp] theorem zeroC_248 : zeroC Tryz.prog 248 = some [] := by kernel_rfl
@[simp] theorem fieldsOk_248 : fieldsOk Tryz.prog 248 = true := by kernel_rfl
@[simp] theorem isPtrT_248 : isPtr Tryz.prog 248 = false := by kernel_rfl
@[simp] theorem placeP_248_0 : placeP Tryz.prog 248 0 = some (0, 0) := by kernel_rfl
@[simp] theorem fld_248_0 : fld Tryz.prog 248 0 = some (0, 0, true) := by kernel_rfl
@[simp] theorem isBytesT_248 : isBytes Tryz.prog 248 = false := by kernel_rfl
@[simp] theorem intOfT_248 : Av.intOf Tryz.prog 248 = none := by kernel_rfl
@[simp] theorem tyAgg_249 : tyAgg Tryz.prog 249 = some true := by kernel_rfl
@[simp] theorem tySize_249 : tySize Tryz.prog 249 = some 0 := by kernel_rfl
@[simp] theorem isSomeT_249 : Av.isSome Tryz.prog 249 = true := by kernel_rfl
@[simp] theorem isIfaceT_249 : isIface Tryz.prog 249 = false := by kernel_rfl
@[simp] theorem isStrT_249 : isStr Tryz.prog 249 = false := by kernel_rfl
@[simp] theorem zeroC_249 : zeroC Tryz.prog 249 = some [] := by kernel_rfl
@[simp] theorem fieldsOk_249 : fieldsOk Tryz.prog 249 = true := by kernel_rfl
@[simp] theorem isPtrT_249 : isPtr Tryz.prog 249 = false := by kernel_rfl
@[simp] theorem placeP_249_0 : placeP Tryz.prog 249 0 = some (0, 0) := by kernel_rfl
@[simp] theorem fld_249_0 : fld Tryz.prog 249 0 = some (0, 0, true) := by kernel_rfl
@[simp] theorem isBytesT_249 : isBytes Tryz.prog 249 = false := by kernel_rfl
@[simp] theorem intOfT_249 : Av.intOf Tryz.prog 249 = none := by kernel_rfl
@[simp] theorem tyAgg_250 : tyAgg Tryz.prog 250 = some false := by kernel_rfl
@[simp] theorem tySize_250 : tySize Tryz.prog 250 = some 1 := by kernel_rfl
@[simp] theorem isSomeT_250 : Av.isSome Tryz.prog 250 = true := by kernel_rfl
@[simp] theorem isIfaceT_250 : isIface Tryz.prog 250 = false := by kernel_rfl
@[simp] theorem isStrT_250 : isStr Tryz.prog 250 = false := by kernel_rfl
@[simp] theorem zeroC_250 : zeroC Tryz.prog 250 = some [.sc (.int .u8 0)] := by kernel_rfl
@[simp] theorem isPtrT_250 : isPtr Tryz.prog 250 = false := by kernel_rfl
@[simp] theorem isBytesT_250 : isBytes Tryz.prog 250 = false := by kernel_rfl
@[simp] theorem intOfT_250 : Av.intOf Tryz.prog 250 = some .u8 := by kernel_rfl
@[simp] theorem tyAgg_251 : tyAgg Tryz.prog 251 = some false := by kernel_rfl
@[simp] theorem tySize_251 : tySize Tryz.prog 251 = some 1 := by kernel_rfl
@[simp] theorem isSomeT_251 : Av.isSome Tryz.prog 251 = true := by kernel_rfl
@[simp] theorem isIfaceT_251 : isIface Tryz.prog 251 = false := by kernel_rfl
@[simp] theorem isStrT_251 : isStr Tryz.prog 251 = false := by kernel_rfl
@[simp] theorem zeroC_251 : zeroC Tryz.prog 251 = some [.sc (.int .u8 0)] := by kernel_rfl
@[simp] theorem isPtrT_251 : isPtr Tryz.prog 251 = false := by kernel_rfl
@[simp] theorem isBytesT_251 : isBytes Tryz.prog 251 = false := by kernel_rfl
@[simp] theorem intOfT_251 : Av.intOf Tryz.prog 251 = some .u8 := by kernel_rfl
@[simp] theorem tyAgg_252 : tyAgg Tryz.prog 252 = some false := by kernel_rfl
@[simp] theorem tySize_252 : tySize Tryz.prog 252 = some 1 := by kernel_rfl
@[simp] theorem isSomeT_252 : Av.isSome Tryz.prog 252 = true := by kernel_rfl
@[simp] theorem isIfaceT_252 : isIface Tryz.prog 252 = false := by kernel_rfl
@[simp] theorem isStrT_252 : isStr Tryz.prog 252 = false := by kernel_rfl
@[simp] theorem zeroC_252 : zeroC Tryz.prog 252 = some [.sc .nilFunc] := by kernel_rfl
@[simp] theorem isPtrT_252 : isPtr Tryz.prog 252 = false := by kernel_rfl
@[simp] theorem isBytesT_252 : isBytes Tryz.prog 252 = false := by kernel_rfl
@[simp] theorem intOfT_252 : Av.intOf Tryz.prog 252 = none := by kernel_rfl
@[simp] theorem tyAgg_253 : tyAgg Tryz.prog 253 = some false := by kernel_rfl
@[simp] theorem tySize_253 : tySize Tryz.prog 253 = some 1 := by kernel_rfl
@[simp] theorem isSomeT_253 : Av.isSome Tryz.prog 253 = true := by kernel_rfl
@[simp] theorem isIfaceT_253 : isIface Tryz.prog 253 = false := by kernel_rfl
@[simp] theorem isStrT_253 : isStr Tryz.prog 253 = false := by kernel_rfl
@[simp] theorem zeroC_253 : zeroC Tryz.prog 253 = some [.sc (.int .i32 0)] := by kernel_rfl
@[simp] theorem isPtrT_253 : isPtr Tryz.prog 253 = false := by kernel_rfl
@[simp] theorem isBytesT_253 : isBytes Tryz.prog 253 = false := by kernel_rfl
@[simp] theorem intOfT_253 : Av.intOf Tryz.prog 253 = some .i32 := by kernel_rfl
@[simp] theorem tyAgg_254 : tyAgg Tryz.prog 254 = some false := by kernel_rfl
@[simp] theorem tySize_254 : tySize Tryz.prog 254 = some 1 := by kernel_rfl
@[simp] theorem isSomeT_254 : Av.isSome Tryz.prog 254 = true := by kernel_rfl
@[simp] theorem isIfaceT_254 : isIface Tryz.prog 254 = false := by kernel_rfl
@[simp] theorem isStrT_254 : isStr Tryz.prog 254 = false := by kernel_rfl
@[simp] theorem zeroC_254 : zeroC Tryz.prog 254 = some [.sc (.int .i32 0)] := by kernel_rfl
@[simp] theorem isPtrT_254 : isPtr Tryz.prog 254 = false := by kernel_rfl
@[simp] theorem isBytesT_254 : isBytes Tryz.prog 254 = false := by kernel_rfl
@[simp] theorem intOfT_254 : Av.intOf Tryz.prog 254 = some .i32 := by kernel_rfl
@[simp] theorem tyAgg_255 : tyAgg Tryz.prog 255 = some true := by kernel_rfl
@[simp] theorem tySize_255 : tySize Tryz.prog 255 = some 11 := by kernel_rfl
@[simp] theorem isSomeT_255 : Av.isSome Tryz.prog 255 = true := by kernel_rfl
@[simp] theorem isIfaceT_255 : isIface Tryz.prog 255 = false := by kernel_rfl
@[simp] theorem isStrT_255 : isStr Tryz.prog 255 = false := by kernel_rfl
@[simp] theorem zeroC_255 : zeroC Tryz.prog 255 = some [.sc (.int .u64 0), .sc (.int .u64 0), .sc (.int .u32 0), .sc (.int .u8 0), .sc (.int .u8 0), .sc (.int .u8 0), .sc (.int .u8 0), .sc .nilFunc, .sc (.pointer none), .sc (.int .i32 0), .sc (.int .i32 0)] := by kernel_rfl
@[simp] theorem fieldsOk_255 : fieldsOk Tryz.prog 255 = true := by kernel_rfl
@[simp] theorem isPtrT_255 : isPtr Tryz.prog 255 = false := by kernel_rfl
@[simp] theorem placeP_255_0 : placeP Tryz.prog 255 0 = some (0, 1) := by kernel_rfl
@[simp] theorem placeP_255_1 : placeP Tryz.prog 255 1 = some (1, 1) := by kernel_rfl
@[simp] theorem placeP_255_2 : placeP Tryz.prog 255 2 = some (2, 1) := by kernel_rfl
@[simp] theorem placeP_255_3 : placeP Tryz.prog 255 3 = some (3, 1) := by kernel_rfl
@[simp] theorem placeP_255_4 : placeP Tryz.prog 255 4 = some (4, 1) := by kernel_rfl
@[simp] theorem placeP_255_5 : placeP Tryz.prog 255 5 = some (5, 1) := by kernel_rfl
@[simp] theorem placeP_255_6 : placeP Tryz.prog 255 6 = some (6, 1) := by kernel_rfl
@[simp] theorem placeP_255_7 : placeP Tryz.prog 255 7 = some (7, 1) := by kernel_rfl
@[simp] theorem placeP_255_8 : placeP Tryz.prog 255 8 = some (8, 1) := by kernel_rfl
@[simp] theorem placeP_255_9 : placeP Tryz.prog 255 9 = some (9, 1) := by kernel_rfl
@[simp] theorem placeP_255_10 : placeP Tryz.prog 255 10 = some (10, 1) := by kernel_rfl
@[simp] theorem fld_255_0 : fld Tryz.prog 255 0 = some (0, 1, false) := by kernel_rfl
@[simp] theorem fld_255_1 : fld Tryz.prog 255 1 = some (1, 1, false) := by kernel_rfl
@[simp] theorem fld_255_2 : fld Tryz.prog 255 2 = some (2, 1, false) := by kernel_rfl
@[simp] theorem fld_255_3 : fld Tryz.prog 255 3 = some (3, 1, false) := by kernel_rfl
@[simp] theorem fld_255_4 : fld Tryz.prog 255 4 = some (4, 1, false) := by kernel_rfl
@[simp] theorem fld_255_5 : fld Tryz.prog 255 5 = some (5, 1, false) := by kernel_rfl
@[simp] theorem fld_255_6 : fld Tryz.prog 255 6 = some (6, 1, false) := by kernel_rfl
@[simp] theorem fld_255_7 : fld Tryz.prog 255 7 = some (7, 1, false) := by kernel_rfl
@[simp] theorem fld_255_8 : fld Tryz.prog 255 8 = some (8, 1, false) := by kernel_rfl
@[simp] theorem fld_255_9 : fld Tryz.prog 255 9 = some (9, 1, false) := by kernel_rfl
@[simp] theorem fld_255_10 : fld Tryz.prog 255 10 = some (10, 1, false) := by kernel_rfl
@[simp] theorem isBytesT_255 : isBytes Tryz.prog 255 = false := by kernel_rfl
@[simp] theorem intOfT_255 : Av.intOf Tryz.prog 255 = none := by kernel_rfl
@[simp] theorem tyAgg_256 : tyAgg Tryz.prog 256 = some true := by kernel_rfl
@[simp] theorem tySize_256 : tySize Tryz.prog 256 = some 11 := by kernel_rfl
@[simp] theorem isSomeT_256 : Av.isSome Tryz.prog 256 = true := by kernel_rfl
@[simp] theorem isIfaceT_256 : isIface Tryz.prog 256 = false := by kernel_rfl
@[simp] theorem isStrT_256 : isStr Tryz.prog 256 = false := by kernel_rfl
@[simp] theorem zeroC_256 : zeroC Tryz.prog 256 = some [.sc (.int .u64 0), .sc (.int .u64 0), .sc (.int .u32 0), .sc (.int .u8 0), .sc (.int .u8 0), .sc (.int .u8 0), .sc (.int .u8 0), .sc .nilFunc, .sc (.pointer none), .sc (.int .i32 0), .sc (.int .i32 0)] := by kernel_rfl
@[simp] theorem fieldsOk_256 : fieldsOk Tryz.prog 256 = true := by kernel_rfl
@[simp] theorem isPtrT_256 : isPtr Tryz.prog 256 = false := by kernel_rfl
@[simp] theorem placeP_256_0 : placeP Tryz.prog 256 0 = some (0, 1) := by kernel_rfl
@[simp] theorem placeP_256_1 : placeP Tryz.prog 256 1 = some (1, 1) := by kernel_rfl
@[simp] theorem placeP_256_2 : placeP Tryz.prog 256 2 = some (2, 1) := by kernel_rfl
@[simp] theorem placeP_256_3 : placeP Tryz.prog 256 3 = some (3, 1) := by kernel_rfl
@[simp] theorem placeP_256_4 : placeP Tryz.prog 256 4 = some (4, 1) := by kernel_rfl
@[simp] theorem placeP_256_5 : placeP Tryz.prog 256 5 = some (5, 1) := by kernel_rfl
@[simp] theorem placeP_256_6 : placeP Tryz.prog 256 6 = some (6, 1) := by kernel_rfl
@[simp] theorem placeP_256_7 : placeP Tryz.prog 256 7 = some (7, 1) := by kernel_rfl
@[simp] theorem placeP_256_8 : placeP Tryz.prog 256 8 = some (8, 1) := by kernel_rfl
@[simp] theorem placeP_256_9 : placeP Tryz.prog 256 9 = some (9, 1) := by kernel_rfl
@[simp] theorem placeP_256_10 : placeP Tryz.prog 256 10 = some (10, 1) := by kernel_rfl
@[simp] theorem fld_256_0 : fld Tryz.prog 256 0 = some (0, 1, false) := by kernel_rfl
@[simp] theorem fld_256_1 : fld Tryz.prog 256 1 = some (1, 1, false) := by kernel_rfl
@[simp] theorem fld_256_2 : fld Tryz.prog 256 2 = some (2, 1, false) := by kernel_rfl
@[simp] theorem fld_256_3 : fld Tryz.prog 256 3 = some (3, 1, false) := by kernel_rfl
@[simp] theorem fld_256_4 : fld Tryz.prog 256 4 = some (4, 1, false) := by kernel_rfl
@[simp] theorem fld_256_5 : fld Tryz.prog 256 5 = some (5, 1, false) := by kernel_rfl
@[simp] theorem fld_256_6 : fld Tryz.prog 256 6 = some (6, 1, false) := by kernel_rfl
@[simp] theorem fld_256_7 : fld Tryz.prog 256 7 = some (7, 1, false) := by kernel_rfl
@[simp] theorem fld_256_8 : fld Tryz.prog 256 8 = some (8, 1, false) := by kernel_rfl
@[simp] theorem fld_256_9 : fld Tryz.prog 256 9 = some (9, 1, false) := by kernel_rfl
@[simp] theorem fld_256_10 : fld Tryz.prog 256 10 = some (10, 1, false) := by kernel_rfl
@[simp] theorem isBytesT_256 : isBytes Tryz.prog 256 = false := by kernel_rfl
@[simp] theorem intOfT_256 : Av.intOf Tryz.prog 256 = none := by kernel_rfl
end Go.Av
