/- Facts on the types of this translation, laid by a program of our own. -/
import Derived.Test.YtpffiikopcpgfaaDoorEg
import Derived.Test.YtpffiikopcpgfaaDoorRows
import Derived.KernelRfl
set_option linter.all false
namespace Go.Av
open Go.Proofs
@[simp] theorem tyAgg_1 : tyAgg Tryd.prog 1 = some false := by kernel_rfl
@[simp] theorem tySize_1 : tySize Tryd.prog 1 = some 1 := by kernel_rfl
@[simp] theorem isSomeT_1 : Av.isSome Tryd.prog 1 = true := by kernel_rfl
@[simp] theorem isIfaceT_1 : isIface Tryd.prog 1 = false := by kernel_rfl
@[simp] theorem isStrT_1 : isStr Tryd.prog 1 = false := by kernel_rfl
@[simp] theorem zeroC_1 : zeroC Tryd.prog 1 = some [.sc .nilFunc] := by kernel_rfl
@[simp] theorem isPtrT_1 : isPtr Tryd.prog 1 = false := by kernel_rfl
@[simp] theorem isBytesT_1 : isBytes Tryd.prog 1 = false := by kernel_rfl
@[simp] theorem intOfT_1 : Av.intOf Tryd.prog 1 = none := by kernel_rfl
@[simp] theorem tyAgg_2 : tyAgg Tryd.prog 2 = some false := by kernel_rfl
@[simp] theorem tySize_2 : tySize Tryd.prog 2 = some 1 := by kernel_rfl
@[simp] theorem isSomeT_2 : Av.isSome Tryd.prog 2 = true := by kernel_rfl
@[simp] theorem isIfaceT_2 : isIface Tryd.prog 2 = false := by kernel_rfl
@[simp] theorem isStrT_2 : isStr Tryd.prog 2 = false := by kernel_rfl
@[simp] theorem zeroC_2 : zeroC Tryd.prog 2 = some [.sc (.int .i64 0)] := by kernel_rfl
@[simp] theorem isPtrT_2 : isPtr Tryd.prog 2 = false := by kernel_rfl
@[simp] theorem isBytesT_2 : isBytes Tryd.prog 2 = false := by kernel_rfl
@[simp] theorem intOfT_2 : Av.intOf Tryd.prog 2 = some .i64 := by kernel_rfl
@[simp] theorem tyAgg_3 : tyAgg Tryd.prog 3 = some false := by kernel_rfl
@[simp] theorem tySize_3 : tySize Tryd.prog 3 = some 1 := by kernel_rfl
@[simp] theorem isSomeT_3 : Av.isSome Tryd.prog 3 = true := by kernel_rfl
@[simp] theorem isIfaceT_3 : isIface Tryd.prog 3 = false := by kernel_rfl
@[simp] theorem isStrT_3 : isStr Tryd.prog 3 = false := by kernel_rfl
@[simp] theorem zeroC_3 : zeroC Tryd.prog 3 = some [.sc (.int .i64 0)] := by kernel_rfl
@[simp] theorem isPtrT_3 : isPtr Tryd.prog 3 = false := by kernel_rfl
@[simp] theorem isBytesT_3 : isBytes Tryd.prog 3 = false := by kernel_rfl
@[simp] theorem intOfT_3 : Av.intOf Tryd.prog 3 = some .i64 := by kernel_rfl
@[simp] theorem tyAgg_4 : tyAgg Tryd.prog 4 = some false := by kernel_rfl
@[simp] theorem tySize_4 : tySize Tryd.prog 4 = some 1 := by kernel_rfl
@[simp] theorem isSomeT_4 : Av.isSome Tryd.prog 4 = true := by kernel_rfl
@[simp] theorem isIfaceT_4 : isIface Tryd.prog 4 = false := by kernel_rfl
@[simp] theorem isStrT_4 : isStr Tryd.prog 4 = false := by kernel_rfl
@[simp] theorem zeroC_4 : zeroC Tryd.prog 4 = some [.sc (.bool false)] := by kernel_rfl
@[simp] theorem isPtrT_4 : isPtr Tryd.prog 4 = false := by kernel_rfl
@[simp] theorem isBytesT_4 : isBytes Tryd.prog 4 = false := by kernel_rfl
@[simp] theorem isBoolT_4 : isBool Tryd.prog 4 = true := by kernel_rfl
@[simp] theorem intOfT_4 : Av.intOf Tryd.prog 4 = none := by kernel_rfl
@[simp] theorem tyAgg_5 : tyAgg Tryd.prog 5 = some false := by kernel_rfl
@[simp] theorem tySize_5 : tySize Tryd.prog 5 = some 1 := by kernel_rfl
@[simp] theorem isSomeT_5 : Av.isSome Tryd.prog 5 = true := by kernel_rfl
@[simp] theorem isIfaceT_5 : isIface Tryd.prog 5 = false := by kernel_rfl
@[simp] theorem isStrT_5 : isStr Tryd.prog 5 = false := by kernel_rfl
@[simp] theorem zeroC_5 : zeroC Tryd.prog 5 = some [.sc (.int .u8 0)] := by kernel_rfl
@[simp] theorem isPtrT_5 : isPtr Tryd.prog 5 = false := by kernel_rfl
@[simp] theorem isBytesT_5 : isBytes Tryd.prog 5 = false := by kernel_rfl
@[simp] theorem intOfT_5 : Av.intOf Tryd.prog 5 = some .u8 := by kernel_rfl
@[simp] theorem tyAgg_6 : tyAgg Tryd.prog 6 = some false := by kernel_rfl
@[simp] theorem tySize_6 : tySize Tryd.prog 6 = some 1 := by kernel_rfl
@[simp] theorem isSomeT_6 : Av.isSome Tryd.prog 6 = true := by kernel_rfl
@[simp] theorem isIfaceT_6 : isIface Tryd.prog 6 = false := by kernel_rfl
@[simp] theorem isStrT_6 : isStr Tryd.prog 6 = false := by kernel_rfl
@[simp] theorem zeroC_6 : zeroC Tryd.prog 6 = some [.sc (.int .u8 0)] := by kernel_rfl
@[simp] theorem isPtrT_6 : isPtr Tryd.prog 6 = false := by kernel_rfl
@[simp] theorem isBytesT_6 : isBytes Tryd.prog 6 = false := by kernel_rfl
@[simp] theorem intOfT_6 : Av.intOf Tryd.prog 6 = some .u8 := by kernel_rfl
@[simp] theorem tyAgg_7 : tyAgg Tryd.prog 7 = some true := by kernel_rfl
@[simp] theorem tySize_7 : tySize Tryd.prog 7 = some 4 := by kernel_rfl
@[simp] theorem isSomeT_7 : Av.isSome Tryd.prog 7 = true := by kernel_rfl
@[simp] theorem isIfaceT_7 : isIface Tryd.prog 7 = false := by kernel_rfl
@[simp] theorem isStrT_7 : isStr Tryd.prog 7 = false := by kernel_rfl
@[simp] theorem zeroC_7 : zeroC Tryd.prog 7 = some [.sc (.int .i64 0), .sc (.int .i64 0), .sc (.bool false), .sc (.int .u8 0)] := by kernel_rfl
@[simp] theorem fieldsOk_7 : fieldsOk Tryd.prog 7 = true := by kernel_rfl
@[simp] theorem isPtrT_7 : isPtr Tryd.prog 7 = false := by kernel_rfl
@[simp] theorem placeP_7_0 : placeP Tryd.prog 7 0 = some (0, 1) := by kernel_rfl
@[simp] theorem placeP_7_1 : placeP Tryd.prog 7 1 = some (1, 1) := by kernel_rfl
@[simp] theorem placeP_7_2 : placeP Tryd.prog 7 2 = some (2, 1) := by kernel_rfl
@[simp] theorem placeP_7_3 : placeP Tryd.prog 7 3 = some (3, 1) := by kernel_rfl
@[simp] theorem fld_7_0 : fld Tryd.prog 7 0 = some (0, 1, false) := by kernel_rfl
@[simp] theorem fld_7_1 : fld Tryd.prog 7 1 = some (1, 1, false) := by kernel_rfl
@[simp] theorem fld_7_2 : fld Tryd.prog 7 2 = some (2, 1, false) := by kernel_rfl
@[simp] theorem fld_7_3 : fld Tryd.prog 7 3 = some (3, 1, false) := by kernel_rfl
@[simp] theorem isBytesT_7 : isBytes Tryd.prog 7 = false := by kernel_rfl
@[simp] theorem intOfT_7 : Av.intOf Tryd.prog 7 = none := by kernel_rfl
@[simp] theorem tyAgg_8 : tyAgg Tryd.prog 8 = some true := by kernel_rfl
@[simp] theorem tySize_8 : tySize Tryd.prog 8 = some 4 := by kernel_rfl
@[simp] theorem isSomeT_8 : Av.isSome Tryd.prog 8 = true := by kernel_rfl
@[simp] theorem isIfaceT_8 : isIface Tryd.prog 8 = false := by kernel_rfl
@[simp] theorem isStrT_8 : isStr Tryd.prog 8 = false := by kernel_rfl
@[simp] theorem zeroC_8 : zeroC Tryd.prog 8 = some [.sc (.int .i64 0), .sc (.int .i64 0), .sc (.bool false), .sc (.int .u8 0)] := by kernel_rfl
@[simp] theorem fieldsOk_8 : fieldsOk Tryd.prog 8 = true := by kernel_rfl
@[simp] theorem isPtrT_8 : isPtr Tryd.prog 8 = false := by kernel_rfl
@[simp] theorem placeP_8_0 : placeP Tryd.prog 8 0 = some (0, 1) := by kernel_rfl
@[simp] theorem placeP_8_1 : placeP Tryd.prog 8 1 = some (1, 1) := by kernel_rfl
@[simp] theorem placeP_8_2 : placeP Tryd.prog 8 2 = some (2, 1) := by kernel_rfl
@[simp] theorem placeP_8_3 : placeP Tryd.prog 8 3 = some (3, 1) := by kernel_rfl
@[simp] theorem fld_8_0 : fld Tryd.prog 8 0 = some (0, 1, false) := by kernel_rfl
@[simp] theorem fld_8_1 : fld Tryd.prog 8 1 = some (1, 1, false) := by kernel_rfl
@[simp] theorem fld_8_2 : fld Tryd.prog 8 2 = some (2, 1, false) := by kernel_rfl
@[simp] theorem fld_8_3 : fld Tryd.prog 8 3 = some (3, 1, false) := by kernel_rfl
@[simp] theorem isBytesT_8 : isBytes Tryd.prog 8 = false := by kernel_rfl
@[simp] theorem intOfT_8 : Av.intOf Tryd.prog 8 = none := by kernel_rfl
@[simp] theorem tyAgg_9 : tyAgg Tryd.prog 9 = some false := by kernel_rfl
@[simp] theorem tySize_9 : tySize Tryd.prog 9 = some 1 := by kernel_rfl
@[simp] theorem isSomeT_9 : Av.isSome Tryd.prog 9 = true := by kernel_rfl
@[simp] theorem isIfaceT_9 : isIface Tryd.prog 9 = false := by kernel_rfl
@[simp] theorem isStrT_9 : isStr Tryd.prog 9 = true := by kernel_rfl
@[simp] theorem zeroC_9 : zeroC Tryd.prog 9 = some [.str []] := by kernel_rfl
@[simp] theorem isPtrT_9 : isPtr Tryd.prog 9 = false := by kernel_rfl
@[simp] theorem isBytesT_9 : isBytes Tryd.prog 9 = false := by kernel_rfl
@[simp] theorem intOfT_9 : Av.intOf Tryd.prog 9 = none := by kernel_rfl
@[simp] theorem tyAgg_10 : tyAgg Tryd.prog 10 = some false := by kernel_rfl
@[simp] theorem tySize_10 : tySize Tryd.prog 10 = some 1 := by kernel_rfl
@[simp] theorem isSomeT_10 : Av.isSome Tryd.prog 10 = true := by kernel_rfl
@[simp] theorem isIfaceT_10 : isIface Tryd.prog 10 = false := by kernel_rfl
@[simp] theorem isStrT_10 : isStr Tryd.prog 10 = true := by kernel_rfl
@[simp] theorem zeroC_10 : zeroC Tryd.prog 10 = some [.str []] := by kernel_rfl
@[simp] theorem isPtrT_10 : isPtr Tryd.prog 10 = false := by kernel_rfl
@[simp] theorem isBytesT_10 : isBytes Tryd.prog 10 = false := by kernel_rfl
@[simp] theorem intOfT_10 : Av.intOf Tryd.prog 10 = none := by kernel_rfl
@[simp] theorem tyAgg_11 : tyAgg Tryd.prog 11 = some false := by kernel_rfl
@[simp] theorem tySize_11 : tySize Tryd.prog 11 = some 1 := by kernel_rfl
@[simp] theorem isSomeT_11 : Av.isSome Tryd.prog 11 = true := by kernel_rfl
@[simp] theorem isIfaceT_11 : isIface Tryd.prog 11 = false := by kernel_rfl
@[simp] theorem isStrT_11 : isStr Tryd.prog 11 = true := by kernel_rfl
@[simp] theorem zeroC_11 : zeroC Tryd.prog 11 = some [.str []] := by kernel_rfl
@[simp] theorem isPtrT_11 : isPtr Tryd.prog 11 = false := by kernel_rfl
@[simp] theorem isBytesT_11 : isBytes Tryd.prog 11 = false := by kernel_rfl
@[simp] theorem intOfT_11 : Av.intOf Tryd.prog 11 = none := by kernel_rfl
@[simp] theorem tyAgg_12 : tyAgg Tryd.prog 12 = some false := by kernel_rfl
@[simp] theorem tySize_12 : tySize Tryd.prog 12 = some 1 := by kernel_rfl
@[simp] theorem isSomeT_12 : Av.isSome Tryd.prog 12 = true := by kernel_rfl
@[simp] theorem isIfaceT_12 : isIface Tryd.prog 12 = false := by kernel_rfl
@[simp] theorem isStrT_12 : isStr Tryd.prog 12 = false := by kernel_rfl
@[simp] theorem zeroC_12 : zeroC Tryd.prog 12 = some [.sc (.int .u64 0)] := by kernel_rfl
@[simp] theorem isPtrT_12 : isPtr Tryd.prog 12 = false := by kernel_rfl
@[simp] theorem isBytesT_12 : isBytes Tryd.prog 12 = false := by kernel_rfl
@[simp] theorem intOfT_12 : Av.intOf Tryd.prog 12 = some .u64 := by kernel_rfl
@[simp] theorem tyAgg_13 : tyAgg Tryd.prog 13 = some true := by kernel_rfl
@[simp] theorem tySize_13 : tySize Tryd.prog 13 = some 2 := by kernel_rfl
@[simp] theorem isSomeT_13 : Av.isSome Tryd.prog 13 = true := by kernel_rfl
@[simp] theorem isIfaceT_13 : isIface Tryd.prog 13 = false := by kernel_rfl
@[simp] theorem isStrT_13 : isStr Tryd.prog 13 = false := by kernel_rfl
@[simp] theorem zeroC_13 : zeroC Tryd.prog 13 = some [.str [], .sc (.int .u64 0)] := by kernel_rfl
@[simp] theorem fieldsOk_13 : fieldsOk Tryd.prog 13 = true := by kernel_rfl
@[simp] theorem isPtrT_13 : isPtr Tryd.prog 13 = false := by kernel_rfl
@[simp] theorem placeP_13_0 : placeP Tryd.prog 13 0 = some (0, 1) := by kernel_rfl
@[simp] theorem placeP_13_1 : placeP Tryd.prog 13 1 = some (1, 1) := by kernel_rfl
@[simp] theorem fld_13_0 : fld Tryd.prog 13 0 = some (0, 1, false) := by kernel_rfl
@[simp] theorem fld_13_1 : fld Tryd.prog 13 1 = some (1, 1, false) := by kernel_rfl
@[simp] theorem isBytesT_13 : isBytes Tryd.prog 13 = false := by kernel_rfl
@[simp] theorem intOfT_13 : Av.intOf Tryd.prog 13 = none := by kernel_rfl
@[simp] theorem tyAgg_14 : tyAgg Tryd.prog 14 = some true := by kernel_rfl
@[simp] theorem tySize_14 : tySize Tryd.prog 14 = some 2 := by kernel_rfl
@[simp] theorem isSomeT_14 : Av.isSome Tryd.prog 14 = true := by kernel_rfl
@[simp] theorem isIfaceT_14 : isIface Tryd.prog 14 = false := by kernel_rfl
@[simp] theorem isStrT_14 : isStr Tryd.prog 14 = false := by kernel_rfl
@[simp] theorem zeroC_14 : zeroC Tryd.prog 14 = some [.str [], .sc (.int .u64 0)] := by kernel_rfl
@[simp] theorem fieldsOk_14 : fieldsOk Tryd.prog 14 = true := by kernel_rfl
@[simp] theorem isPtrT_14 : isPtr Tryd.prog 14 = false := by kernel_rfl
@[simp] theorem placeP_14_0 : placeP Tryd.prog 14 0 = some (0, 1) := by kernel_rfl
@[simp] theorem placeP_14_1 : placeP Tryd.prog 14 1 = some (1, 1) := by kernel_rfl
@[simp] theorem fld_14_0 : fld Tryd.prog 14 0 = some (0, 1, false) := by kernel_rfl
@[simp] theorem fld_14_1 : fld Tryd.prog 14 1 = some (1, 1, false) := by kernel_rfl
@[simp] theorem isBytesT_14 : isBytes Tryd.prog 14 = false := by kernel_rfl
@[simp] theorem intOfT_14 : Av.intOf Tryd.prog 14 = none := by kernel_rfl
@[simp] theorem tyAgg_15 : tyAgg Tryd.prog 15 = some false := by kernel_rfl
@[simp] theorem tySize_15 : tySize Tryd.prog 15 = some 1 := by kernel_rfl
@[simp] theorem isSomeT_15 : Av.isSome Tryd.prog 15 = true := by kernel_rfl
@[simp] theorem isIfaceT_15 : isIface Tryd.prog 15 = false := by kernel_rfl
@[simp] theorem isStrT_15 : isStr Tryd.prog 15 = false := by kernel_rfl
@[simp] theorem zeroC_15 : zeroC Tryd.prog 15 = some [.sc (.pointer none)] := by kernel_rfl
@[simp] theorem isPtrT_15 : isPtr Tryd.prog 15 = true := by kernel_rfl
@[simp] theorem isBytesT_15 : isBytes Tryd.prog 15 = false := by kernel_rfl
@[simp] theorem intOfT_15 : Av.intOf Tryd.prog 15 = none := by kernel_rfl
@[simp] theorem tyAgg_16 : tyAgg Tryd.prog 16 = some false := by kernel_rfl
@[simp] theorem tySize_16 : tySize Tryd.prog 16 = some 1 := by kernel_rfl
@[simp] theorem isSomeT_16 : Av.isSome Tryd.prog 16 = true := by kernel_rfl
@[simp] theorem isIfaceT_16 : isIface Tryd.prog 16 = false := by kernel_rfl
@[simp] theorem isStrT_16 : isStr Tryd.prog 16 = false := by kernel_rfl
@[simp] theorem zeroC_16 : zeroC Tryd.prog 16 = some [.sc (.pointer none)] := by kernel_rfl
@[simp] theorem isPtrT_16 : isPtr Tryd.prog 16 = true := by kernel_rfl
@[simp] theorem isBytesT_16 : isBytes Tryd.prog 16 = false := by kernel_rfl
@[simp] theorem intOfT_16 : Av.intOf Tryd.prog 16 = none := by kernel_rfl
@[simp] theorem tyAgg_17 : tyAgg Tryd.prog 17 = some false := by kernel_rfl
@[simp] theorem tySize_17 : tySize Tryd.prog 17 = some 1 := by kernel_rfl
@[simp] theorem isSomeT_17 : Av.isSome Tryd.prog 17 = true := by kernel_rfl
@[simp] theorem isIfaceT_17 : isIface Tryd.prog 17 = false := by kernel_rfl
@[simp] theorem isStrT_17 : isStr Tryd.prog 17 = false := by kernel_rfl
@[simp] theorem zeroC_17 : zeroC Tryd.prog 17 = some [.sc (.pointer none)] := by kernel_rfl
@[simp] theorem isPtrT_17 : isPtr Tryd.prog 17 = true := by kernel_rfl
@[simp] theorem isBytesT_17 : isBytes Tryd.prog 17 = false := by kernel_rfl
@[simp] theorem intOfT_17 : Av.intOf Tryd.prog 17 = none := by kernel_rfl
@[simp] theorem tyAgg_18 : tyAgg Tryd.prog 18 = some true := by kernel_rfl
@[simp] theorem tySize_18 : tySize Tryd.prog 18 = some 1 := by kernel_rfl
@[simp] theorem isSomeT_18 : Av.isSome Tryd.prog 18 = true := by kernel_rfl
@[simp] theorem isIfaceT_18 : isIface Tryd.prog 18 = false := by kernel_rfl
@[simp] theorem isStrT_18 : isStr Tryd.prog 18 = false := by kernel_rfl
@[simp] theorem zeroC_18 : zeroC Tryd.prog 18 = some [.sc (.pointer none)] := by kernel_rfl
@[simp] theorem fieldsOk_18 : fieldsOk Tryd.prog 18 = true := by kernel_rfl
@[simp] theorem isPtrT_18 : isPtr Tryd.prog 18 = false := by kernel_rfl
@[simp] theorem placeP_18_0 : placeP Tryd.prog 18 0 = some (0, 1) := by kernel_rfl
@[simp] theorem fld_18_0 : fld Tryd.prog 18 0 = some (0, 1, false) := by kernel_rfl
@[simp] theorem isBytesT_18 : isBytes Tryd.prog 18 = false := by kernel_rfl
@[simp] theorem intOfT_18 : Av.intOf Tryd.prog 18 = none := by kernel_rfl
@[simp] theorem tyAgg_19 : tyAgg Tryd.prog 19 = some true := by kernel_rfl
@[simp] theorem tySize_19 : tySize Tryd.prog 19 = some 1 := by kernel_rfl
@[simp] theorem isSomeT_19 : Av.isSome Tryd.prog 19 = true := by kernel_rfl
@[simp] theorem isIfaceT_19 : isIface Tryd.prog 19 = false := by kernel_rfl
@[simp] theorem isStrT_19 : isStr Tryd.prog 19 = false := by kernel_rfl
@[simp] theorem zeroC_19 : zeroC Tryd.prog 19 = some [.sc (.pointer none)] := by kernel_rfl
@[simp] theorem fieldsOk_19 : fieldsOk Tryd.prog 19 = true := by kernel_rfl
@[simp] theorem isPtrT_19 : isPtr Tryd.prog 19 = false := by kernel_rfl
@[simp] theorem placeP_19_0 : placeP Tryd.prog 19 0 = some (0, 1) := by kernel_rfl
@[simp] theorem fld_19_0 : fld Tryd.prog 19 0 = some (0, 1, false) := by kernel_rfl
@[simp] theorem isBytesT_19 : isBytes Tryd.prog 19 = false := by kernel_rfl
@[simp] theorem intOfT_19 : Av.intOf Tryd.prog 19 = none := by kernel_rfl
@[simp] theorem tyAgg_20 : tyAgg Tryd.prog 20 = some false := by kernel_rfl
@[simp] theorem tySize_20 : tySize Tryd.prog 20 = some 1 := by kernel_rfl
@[simp] theorem isSomeT_20 : Av.isSome Tryd.prog 20 = true := by kernel_rfl
@[simp] theorem isIfaceT_20 : isIface Tryd.prog 20 = true := by kernel_rfl
@[simp] theorem isStrT_20 : isStr Tryd.prog 20 = false := by kernel_rfl
@[simp] theorem zeroC_20 : zeroC Tryd.prog 20 = some [.sc .nilIface] := by kernel_rfl
@[simp] theorem isPtrT_20 : isPtr Tryd.prog 20 = false := by kernel_rfl
@[simp] theorem isBytesT_20 : isBytes Tryd.prog 20 = false := by kernel_rfl
@[simp] theorem intOfT_20 : Av.intOf Tryd.prog 20 = none := by kernel_rfl
@[simp] theorem tyAgg_21 : tyAgg Tryd.prog 21 = some false := by kernel_rfl
@[simp] theorem tySize_21 : tySize Tryd.prog 21 = some 1 := by kernel_rfl
@[simp] theorem isSomeT_21 : Av.isSome Tryd.prog 21 = true := by kernel_rfl
@[simp] theorem isIfaceT_21 : isIface Tryd.prog 21 = false := by kernel_rfl
@[simp] theorem isStrT_21 : isStr Tryd.prog 21 = false := by kernel_rfl
@[simp] theorem zeroC_21 : zeroC Tryd.prog 21 = some [.sc (.int .i32 0)] := by kernel_rfl
@[simp] theorem isPtrT_21 : isPtr Tryd.prog 21 = false := by kernel_rfl
@[simp] theorem isBytesT_21 : isBytes Tryd.prog 21 = false := by kernel_rfl
@[simp] theorem intOfT_21 : Av.intOf Tryd.prog 21 = some .i32 := by kernel_rfl
@[simp] theorem tyAgg_22 : tyAgg Tryd.prog 22 = some false := by kernel_rfl
@[simp] theorem tySize_22 : tySize Tryd.prog 22 = some 1 := by kernel_rfl
@[simp] theorem isSomeT_22 : Av.isSome Tryd.prog 22 = true := by kernel_rfl
@[simp] theorem isIfaceT_22 : isIface Tryd.prog 22 = false := by kernel_rfl
@[simp] theorem isStrT_22 : isStr Tryd.prog 22 = false := by kernel_rfl
@[simp] theorem zeroC_22 : zeroC Tryd.prog 22 = some [.nil] := by kernel_rfl
@[simp] theorem isPtrT_22 : isPtr Tryd.prog 22 = false := by kernel_rfl
@[simp] theorem elSize_22 : elSize Tryd.prog 22 = some 1 := by kernel_rfl
@[simp] theorem elTy_22 : elTy Tryd.prog 22 = some (5, 1, 1) := by kernel_rfl
@[simp] theorem isBytesT_22 : isBytes Tryd.prog 22 = true := by kernel_rfl
@[simp] theorem intOfT_22 : Av.intOf Tryd.prog 22 = none := by kernel_rfl
@[simp] theorem tyAgg_23 : tyAgg Tryd.prog 23 = some false := by kernel_rfl
@[simp] theorem tySize_23 : tySize Tryd.prog 23 = some 1 := by kernel_rfl
@[simp] theorem isSomeT_23 : Av.isSome Tryd.prog 23 = true := by kernel_rfl
@[simp] theorem isIfaceT_23 : isIface Tryd.prog 23 = false := by kernel_rfl
@[simp] theorem isStrT_23 : isStr Tryd.prog 23 = false := by kernel_rfl
@[simp] theorem zeroC_23 : zeroC Tryd.prog 23 = some [.sc .nilFunc] := by kernel_rfl
@[simp] theorem isPtrT_23 : isPtr Tryd.prog 23 = false := by kernel_rfl
@[simp] theorem isBytesT_23 : isBytes Tryd.prog 23 = false := by kernel_rfl
@[simp] theorem intOfT_23 : Av.intOf Tryd.prog 23 = none := by kernel_rfl
@[simp] theorem tyAgg_24 : tyAgg Tryd.prog 24 = some true := by kernel_rfl
@[simp] theorem tySize_24 : tySize Tryd.prog 24 = some 5 := by kernel_rfl
@[simp] theorem isSomeT_24 : Av.isSome Tryd.prog 24 = true := by kernel_rfl
@[simp] theorem isIfaceT_24 : isIface Tryd.prog 24 = false := by kernel_rfl
@[simp] theorem isStrT_24 : isStr Tryd.prog 24 = false := by kernel_rfl
@[simp] theorem zeroC_24 : zeroC Tryd.prog 24 = some [.str [], .str [], .sc (.int .i64 0), .str [], .sc (.int .i64 0)] := by kernel_rfl
@[simp] theorem fieldsOk_24 : fieldsOk Tryd.prog 24 = true := by kernel_rfl
@[simp] theorem isPtrT_24 : isPtr Tryd.prog 24 = false := by kernel_rfl
@[simp] theorem fldL_24 : fldL Tryd.prog 24 = some [(0, 9), (1, 9), (2, 3), (3, 9), (4, 3)] := by kernel_rfl
@[simp] theorem eqOkT_24 : eqOkT Tryd.prog 24 = true := by kernel_rfl
@[simp] theorem placeP_24_0 : placeP Tryd.prog 24 0 = some (0, 1) := by kernel_rfl
@[simp] theorem placeP_24_1 : placeP Tryd.prog 24 1 = some (1, 1) := by kernel_rfl
@[simp] theorem placeP_24_2 : placeP Tryd.prog 24 2 = some (2, 1) := by kernel_rfl
@[simp] theorem placeP_24_3 : placeP Tryd.prog 24 3 = some (3, 1) := by kernel_rfl
@[simp] theorem placeP_24_4 : placeP Tryd.prog 24 4 = some (4, 1) := by kernel_rfl
@[simp] theorem fld_24_0 : fld Tryd.prog 24 0 = some (0, 1, false) := by kernel_rfl
@[simp] theorem fld_24_1 : fld Tryd.prog 24 1 = some (1, 1, false) := by kernel_rfl
@[simp] theorem fld_24_2 : fld Tryd.prog 24 2 = some (2, 1, false) := by kernel_rfl
@[simp] theorem fld_24_3 : fld Tryd.prog 24 3 = some (3, 1, false) := by kernel_rfl
@[simp] theorem fld_24_4 : fld Tryd.prog 24 4 = some (4, 1, false) := by kernel_rfl
@[simp] theorem isBytesT_24 : isBytes Tryd.prog 24 = false := by kernel_rfl
@[simp] theorem intOfT_24 : Av.intOf Tryd.prog 24 = none := by kernel_rfl
@[simp] theorem tyAgg_25 : tyAgg Tryd.prog 25 = some true := by kernel_rfl
@[simp] theorem tySize_25 : tySize Tryd.prog 25 = some 5 := by kernel_rfl
@[simp] theorem isSomeT_25 : Av.isSome Tryd.prog 25 = true := by kernel_rfl
@[simp] theorem isIfaceT_25 : isIface Tryd.prog 25 = false := by kernel_rfl
@[simp] theorem isStrT_25 : isStr Tryd.prog 25 = false := by kernel_rfl
@[simp] theorem zeroC_25 : zeroC Tryd.prog 25 = some [.str [], .str [], .sc (.int .i64 0), .str [], .sc (.int .i64 0)] := by kernel_rfl
@[simp] theorem fieldsOk_25 : fieldsOk Tryd.prog 25 = true := by kernel_rfl
@[simp] theorem isPtrT_25 : isPtr Tryd.prog 25 = false := by kernel_rfl
@[simp] theorem fldL_25 : fldL Tryd.prog 25 = some [(0, 9), (1, 9), (2, 3), (3, 9), (4, 3)] := by kernel_rfl
@[simp] theorem eqOkT_25 : eqOkT Tryd.prog 25 = true := by kernel_rfl
@[simp] theorem placeP_25_0 : placeP Tryd.prog 25 0 = some (0, 1) := by kernel_rfl
@[simp] theorem placeP_25_1 : placeP Tryd.prog 25 1 = some (1, 1) := by kernel_rfl
@[simp] theorem placeP_25_2 : placeP Tryd.prog 25 2 = some (2, 1) := by kernel_rfl
@[simp] theorem placeP_25_3 : placeP Tryd.prog 25 3 = some (3, 1) := by kernel_rfl
@[simp] theorem placeP_25_4 : placeP Tryd.prog 25 4 = some (4, 1) := by kernel_rfl
@[simp] theorem fld_25_0 : fld Tryd.prog 25 0 = some (0, 1, false) := by kernel_rfl
@[simp] theorem fld_25_1 : fld Tryd.prog 25 1 = some (1, 1, false) := by kernel_rfl
@[simp] theorem fld_25_2 : fld Tryd.prog 25 2 = some (2, 1, false) := by kernel_rfl
@[simp] theorem fld_25_3 : fld Tryd.prog 25 3 = some (3, 1, false) := by kernel_rfl
@[simp] theorem fld_25_4 : fld Tryd.prog 25 4 = some (4, 1, false) := by kernel_rfl
@[simp] theorem isBytesT_25 : isBytes Tryd.prog 25 = false := by kernel_rfl
@[simp] theorem intOfT_25 : Av.intOf Tryd.prog 25 = none := by kernel_rfl
@[simp] theorem tyAgg_26 : tyAgg Tryd.prog 26 = some false := by kernel_rfl
@[simp] theorem tySize_26 : tySize Tryd.prog 26 = some 1 := by kernel_rfl
@[simp] theorem isSomeT_26 : Av.isSome Tryd.prog 26 = true := by kernel_rfl
@[simp] theorem isIfaceT_26 : isIface Tryd.prog 26 = false := by kernel_rfl
@[simp] theorem isStrT_26 : isStr Tryd.prog 26 = false := by kernel_rfl
@[simp] theorem zeroC_26 : zeroC Tryd.prog 26 = some [.sc (.int .i64 0)] := by kernel_rfl
@[simp] theorem isPtrT_26 : isPtr Tryd.prog 26 = false := by kernel_rfl
@[simp] theorem isBytesT_26 : isBytes Tryd.prog 26 = false := by kernel_rfl
@[simp] theorem intOfT_26 : Av.intOf Tryd.prog 26 = some .i64 := by kernel_rfl
@[simp] theorem tyAgg_28 : tyAgg Tryd.prog 28 = some false := by kernel_rfl
@[simp] theorem tySize_28 : tySize Tryd.prog 28 = some 1 := by kernel_rfl
@[simp] theorem isSomeT_28 : Av.isSome Tryd.prog 28 = true := by kernel_rfl
@[simp] theorem isIfaceT_28 : isIface Tryd.prog 28 = false := by kernel_rfl
@[simp] theorem isStrT_28 : isStr Tryd.prog 28 = false := by kernel_rfl
@[simp] theorem zeroC_28 : zeroC Tryd.prog 28 = some [.sc .nilFunc] := by kernel_rfl
@[simp] theorem isPtrT_28 : isPtr Tryd.prog 28 = false := by kernel_rfl
@[simp] theorem isBytesT_28 : isBytes Tryd.prog 28 = false := by kernel_rfl
@[simp] theorem intOfT_28 : Av.intOf Tryd.prog 28 = none := by kernel_rfl
@[simp] theorem tyAgg_30 : tyAgg Tryd.prog 30 = some false := by kernel_rfl
@[simp] theorem tySize_30 : tySize Tryd.prog 30 = some 1 := by kernel_rfl
@[simp] theorem isSomeT_30 : Av.isSome Tryd.prog 30 = true := by kernel_rfl
@[simp] theorem isIfaceT_30 : isIface Tryd.prog 30 = false := by kernel_rfl
@[simp] theorem isStrT_30 : isStr Tryd.prog 30 = false := by kernel_rfl
@[simp] theorem zeroC_30 : zeroC Tryd.prog 30 = some [.sc .nilFunc] := by kernel_rfl
@[simp] theorem isPtrT_30 : isPtr Tryd.prog 30 = false := by kernel_rfl
@[simp] theorem isBytesT_30 : isBytes Tryd.prog 30 = false := by kernel_rfl
@[simp] theorem intOfT_30 : Av.intOf Tryd.prog 30 = none := by kernel_rfl
@[simp] theorem tyAgg_31 : tyAgg Tryd.prog 31 = some false := by kernel_rfl
@[simp] theorem tySize_31 : tySize Tryd.prog 31 = some 1 := by kernel_rfl
@[simp] theorem isSomeT_31 : Av.isSome Tryd.prog 31 = true := by kernel_rfl
@[simp] theorem isIfaceT_31 : isIface Tryd.prog 31 = false := by kernel_rfl
@[simp] theorem isStrT_31 : isStr Tryd.prog 31 = false := by kernel_rfl
@[simp] theorem zeroC_31 : zeroC Tryd.prog 31 = some [.sc .nilFunc] := by kernel_rfl
@[simp] theorem isPtrT_31 : isPtr Tryd.prog 31 = false := by kernel_rfl
@[simp] theorem isBytesT_31 : isBytes Tryd.prog 31 = false := by kernel_rfl
@[simp] theorem intOfT_31 : Av.intOf Tryd.prog 31 = none := by kernel_rfl
@[simp] theorem tyAgg_32 : tyAgg Tryd.prog 32 = some false := by kernel_rfl
@[simp] theorem tySize_32 : tySize Tryd.prog 32 = some 1 := by kernel_rfl
@[simp] theorem isSomeT_32 : Av.isSome Tryd.prog 32 = true := by kernel_rfl
@[simp] theorem isIfaceT_32 : isIface Tryd.prog 32 = false := by kernel_rfl
@[simp] theorem isStrT_32 : isStr Tryd.prog 32 = false := by kernel_rfl
@[simp] theorem zeroC_32 : zeroC Tryd.prog 32 = some [.sc .nilFunc] := by kernel_rfl
@[simp] theorem isPtrT_32 : isPtr Tryd.prog 32 = false := by kernel_rfl
@[simp] theorem isBytesT_32 : isBytes Tryd.prog 32 = false := by kernel_rfl
@[simp] theorem intOfT_32 : Av.intOf Tryd.prog 32 = none := by kernel_rfl
@[simp] theorem tyAgg_33 : tyAgg Tryd.prog 33 = some false := by kernel_rfl
@[simp] theorem tySize_33 : tySize Tryd.prog 33 = some 1 := by kernel_rfl
@[simp] theorem isSomeT_33 : Av.isSome Tryd.prog 33 = true := by kernel_rfl
@[simp] theorem isIfaceT_33 : isIface Tryd.prog 33 = false := by kernel_rfl
@[simp] theorem isStrT_33 : isStr Tryd.prog 33 = false := by kernel_rfl
@[simp] theorem zeroC_33 : zeroC Tryd.prog 33 = some [.sc .nilFunc] := by kernel_rfl
@[simp] theorem isPtrT_33 : isPtr Tryd.prog 33 = false := by kernel_rfl
@[simp] theorem isBytesT_33 : isBytes Tryd.prog 33 = false := by kernel_rfl
@[simp] theorem intOfT_33 : Av.intOf Tryd.prog 33 = none := by kernel_rfl
@[simp] theorem tyAgg_34 : tyAgg Tryd.prog 34 = some false := by kernel_rfl
@[simp] theorem tySize_34 : tySize Tryd.prog 34 = some 1 := by kernel_rfl
@[simp] theorem isSomeT_34 : Av.isSome Tryd.prog 34 = true := by kernel_rfl
@[simp] theorem isIfaceT_34 : isIface Tryd.prog 34 = false := by kernel_rfl
@[simp] theorem isStrT_34 : isStr Tryd.prog 34 = false := by kernel_rfl
@[simp] theorem zeroC_34 : zeroC Tryd.prog 34 = some [.sc .nilFunc] := by kernel_rfl
@[simp] theorem isPtrT_34 : isPtr Tryd.prog 34 = false := by kernel_rfl
@[simp] theorem isBytesT_34 : isBytes Tryd.prog 34 = false := by kernel_rfl
@[simp] theorem intOfT_34 : Av.intOf Tryd.prog 34 = none := by kernel_rfl
@[simp] theorem tyAgg_35 : tyAgg Tryd.prog 35 = some false := by kernel_rfl
@[simp] theorem tySize_35 : tySize Tryd.prog 35 = some 1 := by kernel_rfl
@[simp] theorem isSomeT_35 : Av.isSome Tryd.prog 35 = true := by kernel_rfl
@[simp] theorem isIfaceT_35 : isIface Tryd.prog 35 = false := by kernel_rfl
@[simp] theorem isStrT_35 : isStr Tryd.prog 35 = false := by kernel_rfl
@[simp] theorem zeroC_35 : zeroC Tryd.prog 35 = some [.sc .nilFunc] := by kernel_rfl
@[simp] theorem isPtrT_35 : isPtr Tryd.prog 35 = false := by kernel_rfl
@[simp] theorem isBytesT_35 : isBytes Tryd.prog 35 = false := by kernel_rfl
@[simp] theorem intOfT_35 : Av.intOf Tryd.prog 35 = none := by kernel_rfl
@[simp] theorem tyAgg_36 : tyAgg Tryd.prog 36 = some false := by kernel_rfl
@[simp] theorem tySize_36 : tySize Tryd.prog 36 = some 1 := by kernel_rfl
@[simp] theorem isSomeT_36 : Av.isSome Tryd.prog 36 = true := by kernel_rfl
@[simp] theorem isIfaceT_36 : isIface Tryd.prog 36 = false := by kernel_rfl
@[simp] theorem isStrT_36 : isStr Tryd.prog 36 = false := by kernel_rfl
@[simp] theorem zeroC_36 : zeroC Tryd.prog 36 = some [.nil] := by kernel_rfl
@[simp] theorem isPtrT_36 : isPtr Tryd.prog 36 = false := by kernel_rfl
@[simp] theorem elSize_36 : elSize Tryd.prog 36 = some 1 := by kernel_rfl
@[simp] theorem elTy_36 : elTy Tryd.prog 36 = some (9, 1, 16) := by kernel_rfl
@[simp] theorem isBytesT_36 : isBytes Tryd.prog 36 = false := by kernel_rfl
@[simp] theorem intOfT_36 : Av.intOf Tryd.prog 36 = none := by kernel_rfl
@[simp] theorem tyAgg_37 : tyAgg Tryd.prog 37 = some true := by kernel_rfl
@[simp] theorem tySize_37 : tySize Tryd.prog 37 = some 11 := by kernel_rfl
@[simp] theorem isSomeT_37 : Av.isSome Tryd.prog 37 = true := by kernel_rfl
@[simp] theorem isIfaceT_37 : isIface Tryd.prog 37 = false := by kernel_rfl
@[simp] theorem isStrT_37 : isStr Tryd.prog 37 = false := by kernel_rfl
@[simp] theorem zeroC_37 : zeroC Tryd.prog 37 = some [.sc (.bool false), .sc (.bool false), .sc (.bool false), .sc (.bool false), .sc (.bool false), .sc (.bool false), .sc (.bool false), .sc (.int .i64 0), .sc (.int .i64 0), .sc (.int .i64 0), .sc (.int .i64 0)] := by kernel_rfl
@[simp] theorem fieldsOk_37 : fieldsOk Tryd.prog 37 = true := by kernel_rfl
@[simp] theorem isPtrT_37 : isPtr Tryd.prog 37 = false := by kernel_rfl
@[simp] theorem fldL_37 : fldL Tryd.prog 37 = some [(0, 4), (1, 4), (2, 4), (3, 4), (4, 4), (5, 4), (6, 4), (7, 3), (8, 3), (9, 3), (10, 3)] := by kernel_rfl
@[simp] theorem eqOkT_37 : eqOkT Tryd.prog 37 = true := by kernel_rfl
@[simp] theorem placeP_37_0 : placeP Tryd.prog 37 0 = some (0, 1) := by kernel_rfl
@[simp] theorem placeP_37_1 : placeP Tryd.prog 37 1 = some (1, 1) := by kernel_rfl
@[simp] theorem placeP_37_2 : placeP Tryd.prog 37 2 = some (2, 1) := by kernel_rfl
@[simp] theorem placeP_37_3 : placeP Tryd.prog 37 3 = some (3, 1) := by kernel_rfl
@[simp] theorem placeP_37_4 : placeP Tryd.prog 37 4 = some (4, 1) := by kernel_rfl
@[simp] theorem placeP_37_5 : placeP Tryd.prog 37 5 = some (5, 1) := by kernel_rfl
@[simp] theorem placeP_37_6 : placeP Tryd.prog 37 6 = some (6, 1) := by kernel_rfl
@[simp] theorem placeP_37_7 : placeP Tryd.prog 37 7 = some (7, 1) := by kernel_rfl
@[simp] theorem placeP_37_8 : placeP Tryd.prog 37 8 = some (8, 1) := by kernel_rfl
@[simp] theorem placeP_37_9 : placeP Tryd.prog 37 9 = some (9, 1) := by kernel_rfl
@[simp] theorem placeP_37_10 : placeP Tryd.prog 37 10 = some (10, 1) := by kernel_rfl
@[simp] theorem fld_37_0 : fld Tryd.prog 37 0 = some (0, 1, false) := by kernel_rfl
@[simp] theorem fld_37_1 : fld Tryd.prog 37 1 = some (1, 1, false) := by kernel_rfl
@[simp] theorem fld_37_2 : fld Tryd.prog 37 2 = some (2, 1, false) := by kernel_rfl
@[simp] theorem fld_37_3 : fld Tryd.prog 37 3 = some (3, 1, false) := by kernel_rfl
@[simp] theorem fld_37_4 : fld Tryd.prog 37 4 = some (4, 1, false) := by kernel_rfl
@[simp] theorem fld_37_5 : fld Tryd.prog 37 5 = some (5, 1, false) := by kernel_rfl
@[simp] theorem fld_37_6 : fld Tryd.prog 37 6 = some (6, 1, false) := by kernel_rfl
@[simp] theorem fld_37_7 : fld Tryd.prog 37 7 = some (7, 1, false) := by kernel_rfl
@[simp] theorem fld_37_8 : fld Tryd.prog 37 8 = some (8, 1, false) := by kernel_rfl
@[simp] theorem fld_37_9 : fld Tryd.prog 37 9 = some (9, 1, false) := by kernel_rfl
@[simp] theorem fld_37_10 : fld Tryd.prog 37 10 = some (10, 1, false) := by kernel_rfl
@[simp] theorem isBytesT_37 : isBytes Tryd.prog 37 = false := by kernel_rfl
@[simp] theorem intOfT_37 : Av.intOf Tryd.prog 37 = none := by kernel_rfl
@[simp] theorem tyAgg_38 : tyAgg Tryd.prog 38 = some true := by kernel_rfl
@[simp] theorem tySize_38 : tySize Tryd.prog 38 = some 11 := by kernel_rfl
@[simp] theorem isSomeT_38 : Av.isSome Tryd.prog 38 = true := by kernel_rfl
@[simp] theorem isIfaceT_38 : isIface Tryd.prog 38 = false := by kernel_rfl
@[simp] theorem isStrT_38 : isStr Tryd.prog 38 = false := by kernel_rfl
@[simp] theorem zeroC_38 : zeroC Tryd.prog 38 = some [.sc (.bool false), .sc (.bool false), .sc (.bool false), .sc (.bool false), .sc (.bool false), .sc (.bool false), .sc (.bool false), .sc (.int .i64 0), .sc (.int .i64 0), .sc (.int .i64 0), .sc (.int .i64 0)] := by kernel_rfl
@[simp] theorem fieldsOk_38 : fieldsOk Tryd.prog 38 = true := by kernel_rfl
@[simp] theorem isPtrT_38 : isPtr Tryd.prog 38 = false := by kernel_rfl
@[simp] theorem fldL_38 : fldL Tryd.prog 38 = some [(0, 4), (1, 4), (2, 4), (3, 4), (4, 4), (5, 4), (6, 4), (7, 3), (8, 3), (9, 3), (10, 3)] := by kernel_rfl
@[simp] theorem eqOkT_38 : eqOkT Tryd.prog 38 = true := by kernel_rfl
@[simp] theorem placeP_38_0 : placeP Tryd.prog 38 0 = some (0, 1) := by kernel_rfl
@[simp] theorem placeP_38_1 : placeP Tryd.prog 38 1 = some (1, 1) := by kernel_rfl
@[simp] theorem placeP_38_2 : placeP Tryd.prog 38 2 = some (2, 1) := by kernel_rfl
@[simp] theorem placeP_38_3 : placeP Tryd.prog 38 3 = some (3, 1) := by kernel_rfl
@[simp] theorem placeP_38_4 : placeP Tryd.prog 38 4 = some (4, 1) := by kernel_rfl
@[simp] theorem placeP_38_5 : placeP Tryd.prog 38 5 = some (5, 1) := by kernel_rfl
@[simp] theorem placeP_38_6 : placeP Tryd.prog 38 6 = some (6, 1) := by kernel_rfl
@[simp] theorem placeP_38_7 : placeP Tryd.prog 38 7 = some (7, 1) := by kernel_rfl
@[simp] theorem placeP_38_8 : placeP Tryd.prog 38 8 = some (8, 1) := by kernel_rfl
@[simp] theorem placeP_38_9 : placeP Tryd.prog 38 9 = some (9, 1) := by kernel_rfl
@[simp] theorem placeP_38_10 : placeP Tryd.prog 38 10 = some (10, 1) := by kernel_rfl
@[simp] theorem fld_38_0 : fld Tryd.prog 38 0 = some (0, 1, false) := by kernel_rfl
@[simp] theorem fld_38_1 : fld Tryd.prog 38 1 = some (1, 1, false) := by kernel_rfl
@[simp] theorem fld_38_2 : fld Tryd.prog 38 2 = some (2, 1, false) := by kernel_rfl
@[simp] theorem fld_38_3 : fld Tryd.prog 38 3 = some (3, 1, false) := by kernel_rfl
@[simp] theorem fld_38_4 : fld Tryd.prog 38 4 = some (4, 1, false) := by kernel_rfl
@[simp] theorem fld_38_5 : fld Tryd.prog 38 5 = some (5, 1, false) := by kernel_rfl
@[simp] theorem fld_38_6 : fld Tryd.prog 38 6 = some (6, 1, false) := by kernel_rfl
@[simp] theorem fld_38_7 : fld Tryd.prog 38 7 = some (7, 1, false) := by kernel_rfl
@[simp] theorem fld_38_8 : fld Tryd.prog 38 8 = some (8, 1, false) := by kernel_rfl
@[simp] theorem fld_38_9 : fld Tryd.prog 38 9 = some (9, 1, false) := by kernel_rfl
@[simp] theorem fld_38_10 : fld Tryd.prog 38 10 = some (10, 1, false) := by kernel_rfl
@[simp] theorem isBytesT_38 : isBytes Tryd.prog 38 = false := by kernel_rfl
@[simp] theorem intOfT_38 : Av.intOf Tryd.prog 38 = none := by kernel_rfl
@[simp] theorem tyAgg_39 : tyAgg Tryd.prog 39 = some false := by kernel_rfl
@[simp] theorem tySize_39 : tySize Tryd.prog 39 = some 1 := by kernel_rfl
@[simp] theorem isSomeT_39 : Av.isSome Tryd.prog 39 = true := by kernel_rfl
@[simp] theorem isIfaceT_39 : isIface Tryd.prog 39 = false := by kernel_rfl
@[simp] theorem isStrT_39 : isStr Tryd.prog 39 = false := by kernel_rfl
@[simp] theorem zeroC_39 : zeroC Tryd.prog 39 = some [.sc .nilFunc] := by kernel_rfl
@[simp] theorem isPtrT_39 : isPtr Tryd.prog 39 = false := by kernel_rfl
@[simp] theorem isBytesT_39 : isBytes Tryd.prog 39 = false := by kernel_rfl
@[simp] theorem intOfT_39 : Av.intOf Tryd.prog 39 = none := by kernel_rfl
@[simp] theorem tyAgg_40 : tyAgg Tryd.prog 40 = some false := by kernel_rfl
@[simp] theorem tySize_40 : tySize Tryd.prog 40 = some 1 := by kernel_rfl
@[simp] theorem isSomeT_40 : Av.isSome Tryd.prog 40 = true := by kernel_rfl
@[simp] theorem isIfaceT_40 : isIface Tryd.prog 40 = false := by kernel_rfl
@[simp] theorem isStrT_40 : isStr Tryd.prog 40 = false := by kernel_rfl
@[simp] theorem zeroC_40 : zeroC Tryd.prog 40 = some [.sc .nilFunc] := by kernel_rfl
@[simp] theorem isPtrT_40 : isPtr Tryd.prog 40 = false := by kernel_rfl
@[simp] theorem isBytesT_40 : isBytes Tryd.prog 40 = false := by kernel_rfl
@[simp] theorem intOfT_40 : Av.intOf Tryd.prog 40 = none := by kernel_rfl
@[simp] theorem tyAgg_41 : tyAgg Tryd.prog 41 = some false := by kernel_rfl
@[simp] theorem tySize_41 : tySize Tryd.prog 41 = some 1 := by kernel_rfl
@[simp] theorem isSomeT_41 : Av.isSome Tryd.prog 41 = true := by kernel_rfl
@[simp] theorem isIfaceT_41 : isIface Tryd.prog 41 = false := by kernel_rfl
@[simp] theorem isStrT_41 : isStr Tryd.prog 41 = false := by kernel_rfl
@[simp] theorem zeroC_41 : zeroC Tryd.prog 41 = some [.sc .nilFunc] := by kernel_rfl
@[simp] theorem isPtrT_41 : isPtr Tryd.prog 41 = false := by kernel_rfl
@[simp] theorem isBytesT_41 : isBytes Tryd.prog 41 = false := by kernel_rfl
@[simp] theorem intOfT_41 : Av.intOf Tryd.prog 41 = none := by kernel_rfl
@[simp] theorem tyAgg_42 : tyAgg Tryd.prog 42 = some false := by kernel_rfl
@[simp] theorem tySize_42 : tySize Tryd.prog 42 = some 1 := by kernel_rfl
@[simp] theorem isSomeT_42 : Av.isSome Tryd.prog 42 = true := by kernel_rfl
@[simp] theorem isIfaceT_42 : isIface Tryd.prog 42 = false := by kernel_rfl
@[simp] theorem isStrT_42 : isStr Tryd.prog 42 = false := by kernel_rfl
@[simp] theorem zeroC_42 : zeroC Tryd.prog 42 = some [.sc .nilFunc] := by kernel_rfl
@[simp] theorem isPtrT_42 : isPtr Tryd.prog 42 = false := by kernel_rfl
@[simp] theorem isBytesT_42 : isBytes Tryd.prog 42 = false := by kernel_rfl
@[simp] theorem intOfT_42 : Av.intOf Tryd.prog 42 = none := by kernel_rfl
@[simp] theorem tyAgg_43 : tyAgg Tryd.prog 43 = some false := by kernel_rfl
@[simp] theorem tySize_43 : tySize Tryd.prog 43 = some 1 := by kernel_rfl
@[simp] theorem isSomeT_43 : Av.isSome Tryd.prog 43 = true := by kernel_rfl
@[simp] theorem isIfaceT_43 : isIface Tryd.prog 43 = false := by kernel_rfl
@[simp] theorem isStrT_43 : isStr Tryd.prog 43 = false := by kernel_rfl
@[simp] theorem zeroC_43 : zeroC Tryd.prog 43 = some [.sc .nilFunc] := by kernel_rfl
@[simp] theorem isPtrT_43 : isPtr Tryd.prog 43 = false := by kernel_rfl
@[simp] theorem isBytesT_43 : isBytes Tryd.prog 43 = false := by kernel_rfl
@[simp] theorem intOfT_43 : Av.intOf Tryd.prog 43 = none := by kernel_rfl
@[simp] theorem tyAgg_45 : tyAgg Tryd.prog 45 = some false := by kernel_rfl
@[simp] theorem tySize_45 : tySize Tryd.prog 45 = some 1 := by kernel_rfl
@[simp] theorem isSomeT_45 : Av.isSome Tryd.prog 45 = true := by kernel_rfl
@[simp] theorem isIfaceT_45 : isIface Tryd.prog 45 = false := by kernel_rfl
@[simp] theorem isStrT_45 : isStr Tryd.prog 45 = false := by kernel_rfl
@[simp] theorem zeroC_45 : zeroC Tryd.prog 45 = some [.sc .nilFunc] := by kernel_rfl
@[simp] theorem isPtrT_45 : isPtr Tryd.prog 45 = false := by kernel_rfl
@[simp] theorem isBytesT_45 : isBytes Tryd.prog 45 = false := by kernel_rfl
@[simp] theorem intOfT_45 : Av.intOf Tryd.prog 45 = none := by kernel_rfl
@[simp] theorem tyAgg_46 : tyAgg Tryd.prog 46 = some false := by kernel_rfl
@[simp] theorem tySize_46 : tySize Tryd.prog 46 = some 1 := by kernel_rfl
@[simp] theorem isSomeT_46 : Av.isSome Tryd.prog 46 = true := by kernel_rfl
@[simp] theorem isIfaceT_46 : isIface Tryd.prog 46 = false := by kernel_rfl
@[simp] theorem isStrT_46 : isStr Tryd.prog 46 = false := by kernel_rfl
@[simp] theorem zeroC_46 : zeroC Tryd.prog 46 = some [.sc .nilFunc] := by kernel_rfl
@[simp] theorem isPtrT_46 : isPtr Tryd.prog 46 = false := by kernel_rfl
@[simp] theorem isBytesT_46 : isBytes Tryd.prog 46 = false := by kernel_rfl
@[simp] theorem intOfT_46 : Av.intOf Tryd.prog 46 = none := by kernel_rfl
@[simp] theorem tyAgg_47 : tyAgg Tryd.prog 47 = some false := by kernel_rfl
@[simp] theorem tySize_47 : tySize Tryd.prog 47 = some 1 := by kernel_rfl
@[simp] theorem isSomeT_47 : Av.isSome Tryd.prog 47 = true := by kernel_rfl
@[simp] theorem isIfaceT_47 : isIface Tryd.prog 47 = false := by kernel_rfl
@[simp] theorem isStrT_47 : isStr Tryd.prog 47 = false := by kernel_rfl
@[simp] theorem zeroC_47 : zeroC Tryd.prog 47 = some [.sc .nilFunc] := by kernel_rfl
@[simp] theorem isPtrT_47 : isPtr Tryd.prog 47 = false := by kernel_rfl
@[simp] theorem isBytesT_47 : isBytes Tryd.prog 47 = false := by kernel_rfl
@[simp] theorem intOfT_47 : Av.intOf Tryd.prog 47 = none := by kernel_rfl
@[simp] theorem tyAgg_48 : tyAgg Tryd.prog 48 = some false := by kernel_rfl
@[simp] theorem tySize_48 : tySize Tryd.prog 48 = some 1 := by kernel_rfl
@[simp] theorem isSomeT_48 : Av.isSome Tryd.prog 48 = true := by kernel_rfl
@[simp] theorem isIfaceT_48 : isIface Tryd.prog 48 = false := by kernel_rfl
@[simp] theorem isStrT_48 : isStr Tryd.prog 48 = false := by kernel_rfl
@[simp] theorem zeroC_48 : zeroC Tryd.prog 48 = some [.sc .nilFunc] := by kernel_rfl
@[simp] theorem isPtrT_48 : isPtr Tryd.prog 48 = false := by kernel_rfl
@[simp] theorem isBytesT_48 : isBytes Tryd.prog 48 = false := by kernel_rfl
@[simp] theorem intOfT_48 : Av.intOf Tryd.prog 48 = none := by kernel_rfl
@[simp] theorem tyAgg_49 : tyAgg Tryd.prog 49 = some false := by kernel_rfl
@[simp] theorem tySize_49 : tySize Tryd.prog 49 = some 1 := by kernel_rfl
@[simp] theorem isSomeT_49 : Av.isSome Tryd.prog 49 = true := by kernel_rfl
@[simp] theorem isIfaceT_49 : isIface Tryd.prog 49 = false := by kernel_rfl
@[simp] theorem isStrT_49 : isStr Tryd.prog 49 = false := by kernel_rfl
@[simp] theorem zeroC_49 : zeroC Tryd.prog 49 = some [.sc .nilFunc] := by kernel_rfl
@[simp] theorem isPtrT_49 : isPtr Tryd.prog 49 = false := by kernel_rfl
@[simp] theorem isBytesT_49 : isBytes Tryd.prog 49 = false := by kernel_rfl
@[simp] theorem intOfT_49 : Av.intOf Tryd.prog 49 = none := by kernel_rfl
@[simp] theorem tyAgg_50 : tyAgg Tryd.prog 50 = some false := by kernel_rfl
@[simp] theorem tySize_50 : tySize Tryd.prog 50 = some 1 := by kernel_rfl
@[simp] theorem isSomeT_50 : Av.isSome Tryd.prog 50 = true := by kernel_rfl
@[simp] theorem isIfaceT_50 : isIface Tryd.prog 50 = false := by kernel_rfl
@[simp] theorem isStrT_50 : isStr Tryd.prog 50 = false := by kernel_rfl
@[simp] theorem zeroC_50 : zeroC Tryd.prog 50 = some [.sc .nilFunc] := by kernel_rfl
@[simp] theorem isPtrT_50 : isPtr Tryd.prog 50 = false := by kernel_rfl
@[simp] theorem isBytesT_50 : isBytes Tryd.prog 50 = false := by kernel_rfl
@[simp] theorem intOfT_50 : Av.intOf Tryd.prog 50 = none := by kernel_rfl
@[simp] theorem tyAgg_51 : tyAgg Tryd.prog 51 = some false := by kernel_rfl
@[simp] theorem tySize_51 : tySize Tryd.prog 51 = some 1 := by kernel_rfl
@[simp] theorem isSomeT_51 : Av.isSome Tryd.prog 51 = true := by kernel_rfl
@[simp] theorem isIfaceT_51 : isIface Tryd.prog 51 = false := by kernel_rfl
@[simp] theorem isStrT_51 : isStr Tryd.prog 51 = false := by kernel_rfl
@[simp] theorem zeroC_51 : zeroC Tryd.prog 51 = some [.sc .nilFunc] := by kernel_rfl
@[simp] theorem isPtrT_51 : isPtr Tryd.prog 51 = false := by kernel_rfl
@[simp] theorem isBytesT_51 : isBytes Tryd.prog 51 = false := by kernel_rfl
@[simp] theorem intOfT_51 : Av.intOf Tryd.prog 51 = none := by kernel_rfl
@[simp] theorem tyAgg_52 : tyAgg Tryd.prog 52 = some false := by kernel_rfl
@[simp] theorem tySize_52 : tySize Tryd.prog 52 = some 1 := by kernel_rfl
@[simp] theorem isSomeT_52 : Av.isSome Tryd.prog 52 = true := by kernel_rfl
@[simp] theorem isIfaceT_52 : isIface Tryd.prog 52 = false := by kernel_rfl
@[simp] theorem isStrT_52 : isStr Tryd.prog 52 = false := by kernel_rfl
@[simp] theorem zeroC_52 : zeroC Tryd.prog 52 = some [.sc .nilFunc] := by kernel_rfl
@[simp] theorem isPtrT_52 : isPtr Tryd.prog 52 = false := by kernel_rfl
@[simp] theorem isBytesT_52 : isBytes Tryd.prog 52 = false := by kernel_rfl
@[simp] theorem intOfT_52 : Av.intOf Tryd.prog 52 = none := by kernel_rfl
@[simp] theorem tyAgg_54 : tyAgg Tryd.prog 54 = some false := by kernel_rfl
@[simp] theorem tySize_54 : tySize Tryd.prog 54 = some 1 := by kernel_rfl
@[simp] theorem isSomeT_54 : Av.isSome Tryd.prog 54 = true := by kernel_rfl
@[simp] theorem isIfaceT_54 : isIface Tryd.prog 54 = false := by kernel_rfl
@[simp] theorem isStrT_54 : isStr Tryd.prog 54 = false := by kernel_rfl
@[simp] theorem zeroC_54 : zeroC Tryd.prog 54 = some [.sc .nilFunc] := by kernel_rfl
@[simp] theorem isPtrT_54 : isPtr Tryd.prog 54 = false := by kernel_rfl
@[simp] theorem isBytesT_54 : isBytes Tryd.prog 54 = false := by kernel_rfl
@[simp] theorem intOfT_54 : Av.intOf Tryd.prog 54 = none := by kernel_rfl
@[simp] theorem tyAgg_55 : tyAgg Tryd.prog 55 = some false := by kernel_rfl
@[simp] theorem tySize_55 : tySize Tryd.prog 55 = some 1 := by kernel_rfl
@[simp] theorem isSomeT_55 : Av.isSome Tryd.prog 55 = true := by kernel_rfl
@[simp] theorem isIfaceT_55 : isIface Tryd.prog 55 = false := by kernel_rfl
@[simp] theorem isStrT_55 : isStr Tryd.prog 55 = false := by kernel_rfl
@[simp] theorem zeroC_55 : zeroC Tryd.prog 55 = some [.sc .nilFunc] := by kernel_rfl
@[simp] theorem isPtrT_55 : isPtr Tryd.prog 55 = false := by kernel_rfl
@[simp] theorem isBytesT_55 : isBytes Tryd.prog 55 = false := by kernel_rfl
@[simp] theorem intOfT_55 : Av.intOf Tryd.prog 55 = none := by kernel_rfl
@[simp] theorem tyAgg_56 : tyAgg Tryd.prog 56 = some false := by kernel_rfl
@[simp] theorem tySize_56 : tySize Tryd.prog 56 = some 1 := by kernel_rfl
@[simp] theorem isSomeT_56 : Av.isSome Tryd.prog 56 = true := by kernel_rfl
@[simp] theorem isIfaceT_56 : isIface Tryd.prog 56 = false := by kernel_rfl
@[simp] theorem isStrT_56 : isStr Tryd.prog 56 = false := by kernel_rfl
@[simp] theorem zeroC_56 : zeroC Tryd.prog 56 = some [.sc .nilFunc] := by kernel_rfl
@[simp] theorem isPtrT_56 : isPtr Tryd.prog 56 = false := by kernel_rfl
@[simp] theorem isBytesT_56 : isBytes Tryd.prog 56 = false := by kernel_rfl
@[simp] theorem intOfT_56 : Av.intOf Tryd.prog 56 = none := by kernel_rfl
@[simp] theorem tyAgg_58 : tyAgg Tryd.prog 58 = some false := by kernel_rfl
@[simp] theorem tySize_58 : tySize Tryd.prog 58 = some 1 := by kernel_rfl
@[simp] theorem isSomeT_58 : Av.isSome Tryd.prog 58 = true := by kernel_rfl
@[simp] theorem isIfaceT_58 : isIface Tryd.prog 58 = false := by kernel_rfl
@[simp] theorem isStrT_58 : isStr Tryd.prog 58 = false := by kernel_rfl
@[simp] theorem zeroC_58 : zeroC Tryd.prog 58 = some [.sc .nilFunc] := by kernel_rfl
@[simp] theorem isPtrT_58 : isPtr Tryd.prog 58 = false := by kernel_rfl
@[simp] theorem isBytesT_58 : isBytes Tryd.prog 58 = false := by kernel_rfl
@[simp] theorem intOfT_58 : Av.intOf Tryd.prog 58 = none := by kernel_rfl
@[simp] theorem tyAgg_59 : tyAgg Tryd.prog 59 = some false := by kernel_rfl
@[simp] theorem tySize_59 : tySize Tryd.prog 59 = some 1 := by kernel_rfl
@[simp] theorem isSomeT_59 : Av.isSome Tryd.prog 59 = true := by kernel_rfl
@[simp] theorem isIfaceT_59 : isIface Tryd.prog 59 = false := by kernel_rfl
@[simp] theorem isStrT_59 : isStr Tryd.prog 59 = false := by kernel_rfl
@[simp] theorem zeroC_59 : zeroC Tryd.prog 59 = some [.sc .nilFunc] := by kernel_rfl
@[simp] theorem isPtrT_59 : isPtr Tryd.prog 59 = false := by kernel_rfl
@[simp] theorem isBytesT_59 : isBytes Tryd.prog 59 = false := by kernel_rfl
@[simp] theorem intOfT_59 : Av.intOf Tryd.prog 59 = none := by kernel_rfl
@[simp] theorem tyAgg_60 : tyAgg Tryd.prog 60 = some false := by kernel_rfl
@[simp] theorem tySize_60 : tySize Tryd.prog 60 = some 1 := by kernel_rfl
@[simp] theorem isSomeT_60 : Av.isSome Tryd.prog 60 = true := by kernel_rfl
@[simp] theorem isIfaceT_60 : isIface Tryd.prog 60 = false := by kernel_rfl
@[simp] theorem isStrT_60 : isStr Tryd.prog 60 = false := by kernel_rfl
@[simp] theorem zeroC_60 : zeroC Tryd.prog 60 = some [.sc .nilFunc] := by kernel_rfl
@[simp] theorem isPtrT_60 : isPtr Tryd.prog 60 = false := by kernel_rfl
@[simp] theorem isBytesT_60 : isBytes Tryd.prog 60 = false := by kernel_rfl
@[simp] theorem intOfT_60 : Av.intOf Tryd.prog 60 = none := by kernel_rfl
@[simp] theorem tyAgg_61 : tyAgg Tryd.prog 61 = some false := by kernel_rfl
@[simp] theorem tySize_61 : tySize Tryd.prog 61 = some 1 := by kernel_rfl
@[simp] theorem isSomeT_61 : Av.isSome Tryd.prog 61 = true := by kernel_rfl
@[simp] theorem isIfaceT_61 : isIface Tryd.prog 61 = false := by kernel_rfl
@[simp] theorem isStrT_61 : isStr Tryd.prog 61 = false := by kernel_rfl
@[simp] theorem zeroC_61 : zeroC Tryd.prog 61 = some [.nil] := by kernel_rfl
@[simp] theorem isPtrT_61 : isPtr Tryd.prog 61 = false := by kernel_rfl
@[simp] theorem elSize_61 : elSize Tryd.prog 61 = some 2 := by kernel_rfl
@[simp] theorem elTy_61 : elTy Tryd.prog 61 = some (67, 2, 32) := by kernel_rfl
@[simp] theorem isBytesT_61 : isBytes Tryd.prog 61 = false := by kernel_rfl
@[simp] theorem intOfT_61 : Av.intOf Tryd.prog 61 = none := by kernel_rfl
@[simp] theorem tyAgg_62 : tyAgg Tryd.prog 62 = some false := by kernel_rfl
@[simp] theorem tySize_62 : tySize Tryd.prog 62 = some 1 := by kernel_rfl
@[simp] theorem isSomeT_62 : Av.isSome Tryd.prog 62 = true := by kernel_rfl
@[simp] theorem isIfaceT_62 : isIface Tryd.prog 62 = false := by kernel_rfl
@[simp] theorem isStrT_62 : isStr Tryd.prog 62 = false := by kernel_rfl
@[simp] theorem zeroC_62 : zeroC Tryd.prog 62 = some [.sc .nilFunc] := by kernel_rfl
@[simp] theorem isPtrT_62 : isPtr Tryd.prog 62 = false := by kernel_rfl
@[simp] theorem isBytesT_62 : isBytes Tryd.prog 62 = false := by kernel_rfl
@[simp] theorem intOfT_62 : Av.intOf Tryd.prog 62 = none := by kernel_rfl
@[simp] theorem tyAgg_63 : tyAgg Tryd.prog 63 = some false := by kernel_rfl
@[simp] theorem tySize_63 : tySize Tryd.prog 63 = some 1 := by kernel_rfl
@[simp] theorem isSomeT_63 : Av.isSome Tryd.prog 63 = true := by kernel_rfl
@[simp] theorem isIfaceT_63 : isIface Tryd.prog 63 = false := by kernel_rfl
@[simp] theorem isStrT_63 : isStr Tryd.prog 63 = false := by kernel_rfl
@[simp] theorem zeroC_63 : zeroC Tryd.prog 63 = some [.sc .nilFunc] := by kernel_rfl
@[simp] theorem isPtrT_63 : isPtr Tryd.prog 63 = false := by kernel_rfl
@[simp] theorem isBytesT_63 : isBytes Tryd.prog 63 = false := by kernel_rfl
@[simp] theorem intOfT_63 : Av.intOf Tryd.prog 63 = none := by kernel_rfl
@[simp] theorem tyAgg_64 : tyAgg Tryd.prog 64 = some false := by kernel_rfl
@[simp] theorem tySize_64 : tySize Tryd.prog 64 = some 1 := by kernel_rfl
@[simp] theorem isSomeT_64 : Av.isSome Tryd.prog 64 = true := by kernel_rfl
@[simp] theorem isIfaceT_64 : isIface Tryd.prog 64 = false := by kernel_rfl
@[simp] theorem isStrT_64 : isStr Tryd.prog 64 = false := by kernel_rfl
@[simp] theorem zeroC_64 : zeroC Tryd.prog 64 = some [.sc .nilFunc] := by kernel_rfl
@[simp] theorem isPtrT_64 : isPtr Tryd.prog 64 = false := by kernel_rfl
@[simp] theorem isBytesT_64 : isBytes Tryd.prog 64 = false := by kernel_rfl
@[simp] theorem intOfT_64 : Av.intOf Tryd.prog 64 = none := by kernel_rfl
@[simp] theorem tyAgg_65 : tyAgg Tryd.prog 65 = some false := by kernel_rfl
@[simp] theorem tySize_65 : tySize Tryd.prog 65 = some 1 := by kernel_rfl
@[simp] theorem isSomeT_65 : Av.isSome Tryd.prog 65 = true := by kernel_rfl
@[simp] theorem isIfaceT_65 : isIface Tryd.prog 65 = false := by kernel_rfl
@[simp] theorem isStrT_65 : isStr Tryd.prog 65 = false := by kernel_rfl
@[simp] theorem zeroC_65 : zeroC Tryd.prog 65 = some [.sc .nilFunc] := by kernel_rfl
@[simp] theorem isPtrT_65 : isPtr Tryd.prog 65 = false := by kernel_rfl
@[simp] theorem isBytesT_65 : isBytes Tryd.prog 65 = false := by kernel_rfl
@[simp] theorem intOfT_65 : Av.intOf Tryd.prog 65 = none := by kernel_rfl
@[simp] theorem tyAgg_66 : tyAgg Tryd.prog 66 = some true := by kernel_rfl
@[simp] theorem tySize_66 : tySize Tryd.prog 66 = some 2 := by kernel_rfl
@[simp] theorem isSomeT_66 : Av.isSome Tryd.prog 66 = true := by kernel_rfl
@[simp] theorem isIfaceT_66 : isIface Tryd.prog 66 = false := by kernel_rfl
@[simp] theorem isStrT_66 : isStr Tryd.prog 66 = false := by kernel_rfl
@[simp] theorem zeroC_66 : zeroC Tryd.prog 66 = some [.str [], .str []] := by kernel_rfl
@[simp] theorem fieldsOk_66 : fieldsOk Tryd.prog 66 = true := by kernel_rfl
@[simp] theorem isPtrT_66 : isPtr Tryd.prog 66 = false := by kernel_rfl
@[simp] theorem fldL_66 : fldL Tryd.prog 66 = some [(0, 9), (1, 9)] := by kernel_rfl
@[simp] theorem eqOkT_66 : eqOkT Tryd.prog 66 = true := by kernel_rfl
@[simp] theorem placeP_66_0 : placeP Tryd.prog 66 0 = some (0, 1) := by kernel_rfl
@[simp] theorem placeP_66_1 : placeP Tryd.prog 66 1 = some (1, 1) := by kernel_rfl
@[simp] theorem fld_66_0 : fld Tryd.prog 66 0 = some (0, 1, false) := by kernel_rfl
@[simp] theorem fld_66_1 : fld Tryd.prog 66 1 = some (1, 1, false) := by kernel_rfl
@[simp] theorem isBytesT_66 : isBytes Tryd.prog 66 = false := by kernel_rfl
@[simp] theorem intOfT_66 : Av.intOf Tryd.prog 66 = none := by kernel_rfl
@[simp] theorem tyAgg_67 : tyAgg Tryd.prog 67 = some true := by kernel_rfl
@[simp] theorem tySize_67 : tySize Tryd.prog 67 = some 2 := by kernel_rfl
@[simp] theorem isSomeT_67 : Av.isSome Tryd.prog 67 = true := by kernel_rfl
@[simp] theorem isIfaceT_67 : isIface Tryd.prog 67 = false := by kernel_rfl
@[simp] theorem isStrT_67 : isStr Tryd.prog 67 = false := by kernel_rfl
@[simp] theorem zeroC_67 : zeroC Tryd.prog 67 = some [.str [], .str []] := by kernel_rfl
@[simp] theorem fieldsOk_67 : fieldsOk Tryd.prog 67 = true := by kernel_rfl
@[simp] theorem isPtrT_67 : isPtr Tryd.prog 67 = false := by kernel_rfl
@[simp] theorem fldL_67 : fldL Tryd.prog 67 = some [(0, 9), (1, 9)] := by kernel_rfl
@[simp] theorem eqOkT_67 : eqOkT Tryd.prog 67 = true := by kernel_rfl
@[simp] theorem placeP_67_0 : placeP Tryd.prog 67 0 = some (0, 1) := by kernel_rfl
@[simp] theorem placeP_67_1 : placeP Tryd.prog 67 1 = some (1, 1) := by kernel_rfl
@[simp] theorem fld_67_0 : fld Tryd.prog 67 0 = some (0, 1, false) := by kernel_rfl
@[simp] theorem fld_67_1 : fld Tryd.prog 67 1 = some (1, 1, false) := by kernel_rfl
@[simp] theorem isBytesT_67 : isBytes Tryd.prog 67 = false := by kernel_rfl
@[simp] theorem intOfT_67 : Av.intOf Tryd.prog 67 = none := by kernel_rfl
@[simp] theorem tyAgg_68 : tyAgg Tryd.prog 68 = some false := by kernel_rfl
@[simp] theorem tySize_68 : tySize Tryd.prog 68 = some 1 := by kernel_rfl
@[simp] theorem isSomeT_68 : Av.isSome Tryd.prog 68 = true := by kernel_rfl
@[simp] theorem isIfaceT_68 : isIface Tryd.prog 68 = false := by kernel_rfl
@[simp] theorem isStrT_68 : isStr Tryd.prog 68 = false := by kernel_rfl
@[simp] theorem zeroC_68 : zeroC Tryd.prog 68 = some [.sc .nilFunc] := by kernel_rfl
@[simp] theorem isPtrT_68 : isPtr Tryd.prog 68 = false := by kernel_rfl
@[simp] theorem isBytesT_68 : isBytes Tryd.prog 68 = false := by kernel_rfl
@[simp] theorem intOfT_68 : Av.intOf Tryd.prog 68 = none := by kernel_rfl
@[simp] theorem tyAgg_69 : tyAgg Tryd.prog 69 = some false := by kernel_rfl
@[simp] theorem tySize_69 : tySize Tryd.prog 69 = some 1 := by kernel_rfl
@[simp] theorem isSomeT_69 : Av.isSome Tryd.prog 69 = true := by kernel_rfl
@[simp] theorem isIfaceT_69 : isIface Tryd.prog 69 = false := by kernel_rfl
@[simp] theorem isStrT_69 : isStr Tryd.prog 69 = false := by kernel_rfl
@[simp] theorem zeroC_69 : zeroC Tryd.prog 69 = some [.sc .nilFunc] := by kernel_rfl
@[simp] theorem isPtrT_69 : isPtr Tryd.prog 69 = false := by kernel_rfl
@[simp] theorem isBytesT_69 : isBytes Tryd.prog 69 = false := by kernel_rfl
@[simp] theorem intOfT_69 : Av.intOf Tryd.prog 69 = none := by kernel_rfl
@[simp] theorem tyAgg_71 : tyAgg Tryd.prog 71 = some false := by kernel_rfl
@[simp] theorem tySize_71 : tySize Tryd.prog 71 = some 1 := by kernel_rfl
@[simp] theorem isSomeT_71 : Av.isSome Tryd.prog 71 = true := by kernel_rfl
@[simp] theorem isIfaceT_71 : isIface Tryd.prog 71 = false := by kernel_rfl
@[simp] theorem isStrT_71 : isStr Tryd.prog 71 = false := by kernel_rfl
@[simp] theorem zeroC_71 : zeroC Tryd.prog 71 = some [.sc .nilFunc] := by kernel_rfl
@[simp] theorem isPtrT_71 : isPtr Tryd.prog 71 = false := by kernel_rfl
@[simp] theorem isBytesT_71 : isBytes Tryd.prog 71 = false := by kernel_rfl
@[simp] theorem intOfT_71 : Av.intOf Tryd.prog 71 = none := by kernel_rfl
@[simp] theorem tyAgg_72 : tyAgg Tryd.prog 72 = some false := by kernel_rfl
@[simp] theorem tySize_72 : tySize Tryd.prog 72 = some 1 := by kernel_rfl
@[simp] theorem isSomeT_72 : Av.isSome Tryd.prog 72 = true := by kernel_rfl
@[simp] theorem isIfaceT_72 : isIface Tryd.prog 72 = false := by kernel_rfl
@[simp] theorem isStrT_72 : isStr Tryd.prog 72 = false := by kernel_rfl
@[simp] theorem zeroC_72 : zeroC Tryd.prog 72 = some [.sc .nilFunc] := by kernel_rfl
@[simp] theorem isPtrT_72 : isPtr Tryd.prog 72 = false := by kernel_rfl
@[simp] theorem isBytesT_72 : isBytes Tryd.prog 72 = false := by kernel_rfl
@[simp] theorem intOfT_72 : Av.intOf Tryd.prog 72 = none := by kernel_rfl
@[simp] theorem tyAgg_74 : tyAgg Tryd.prog 74 = some false := by kernel_rfl
@[simp] theorem tySize_74 : tySize Tryd.prog 74 = some 1 := by kernel_rfl
@[simp] theorem isSomeT_74 : Av.isSome Tryd.prog 74 = true := by kernel_rfl
@[simp] theorem isIfaceT_74 : isIface Tryd.prog 74 = false := by kernel_rfl
@[simp] theorem isStrT_74 : isStr Tryd.prog 74 = false := by kernel_rfl
@[simp] theorem zeroC_74 : zeroC Tryd.prog 74 = some [.sc .nilFunc] := by kernel_rfl
@[simp] theorem isPtrT_74 : isPtr Tryd.prog 74 = false := by kernel_rfl
@[simp] theorem isBytesT_74 : isBytes Tryd.prog 74 = false := by kernel_rfl
@[simp] theorem intOfT_74 : Av.intOf Tryd.prog 74 = none := by kernel_rfl
@[simp] theorem tyAgg_76 : tyAgg Tryd.prog 76 = some false := by kernel_rfl
@[simp] theorem tySize_76 : tySize Tryd.prog 76 = some 1 := by kernel_rfl
@[simp] theorem isSomeT_76 : Av.isSome Tryd.prog 76 = true := by kernel_rfl
@[simp] theorem isIfaceT_76 : isIface Tryd.prog 76 = false := by kernel_rfl
@[simp] theorem isStrT_76 : isStr Tryd.prog 76 = false := by kernel_rfl
@[simp] theorem zeroC_76 : zeroC Tryd.prog 76 = some [.sc .nilFunc] := by kernel_rfl
@[simp] theorem isPtrT_76 : isPtr Tryd.prog 76 = false := by kernel_rfl
@[simp] theorem isBytesT_76 : isBytes Tryd.prog 76 = false := by kernel_rfl
@[simp] theorem intOfT_76 : Av.intOf Tryd.prog 76 = none := by kernel_rfl
@[simp] theorem tyAgg_77 : tyAgg Tryd.prog 77 = some false := by kernel_rfl
@[simp] theorem tySize_77 : tySize Tryd.prog 77 = some 1 := by kernel_rfl
@[simp] theorem isSomeT_77 : Av.isSome Tryd.prog 77 = true := by kernel_rfl
@[simp] theorem isIfaceT_77 : isIface Tryd.prog 77 = false := by kernel_rfl
@[simp] theorem isStrT_77 : isStr Tryd.prog 77 = false := by kernel_rfl
@[simp] theorem zeroC_77 : zeroC Tryd.prog 77 = some [.sc .nilFunc] := by kernel_rfl
@[simp] theorem isPtrT_77 : isPtr Tryd.prog 77 = false := by kernel_rfl
@[simp] theorem isBytesT_77 : isBytes Tryd.prog 77 = false := by kernel_rfl
@[simp] theorem intOfT_77 : Av.intOf Tryd.prog 77 = none := by kernel_rfl
@[simp] theorem tyAgg_78 : tyAgg Tryd.prog 78 = some false := by kernel_rfl
@[simp] theorem tySize_78 : tySize Tryd.prog 78 = some 1 := by kernel_rfl
@[simp] theorem isSomeT_78 : Av.isSome Tryd.prog 78 = true := by kernel_rfl
@[simp] theorem isIfaceT_78 : isIface Tryd.prog 78 = false := by kernel_rfl
@[simp] theorem isStrT_78 : isStr Tryd.prog 78 = false := by kernel_rfl
@[simp] theorem zeroC_78 : zeroC Tryd.prog 78 = some [.sc .nilFunc] := by kernel_rfl
@[simp] theorem isPtrT_78 : isPtr Tryd.prog 78 = false := by kernel_rfl
@[simp] theorem isBytesT_78 : isBytes Tryd.prog 78 = false := by kernel_rfl
@[simp] theorem intOfT_78 : Av.intOf Tryd.prog 78 = none := by kernel_rfl
@[simp] theorem tyAgg_80 : tyAgg Tryd.prog 80 = some false := by kernel_rfl
@[simp] theorem tySize_80 : tySize Tryd.prog 80 = some 1 := by kernel_rfl
@[simp] theorem isSomeT_80 : Av.isSome Tryd.prog 80 = true := by kernel_rfl
@[simp] theorem isIfaceT_80 : isIface Tryd.prog 80 = false := by kernel_rfl
@[simp] theorem isStrT_80 : isStr Tryd.prog 80 = false := by kernel_rfl
@[simp] theorem zeroC_80 : zeroC Tryd.prog 80 = some [.sc .nilFunc] := by kernel_rfl
@[simp] theorem isPtrT_80 : isPtr Tryd.prog 80 = false := by kernel_rfl
@[simp] theorem isBytesT_80 : isBytes Tryd.prog 80 = false := by kernel_rfl
@[simp] theorem intOfT_80 : Av.intOf Tryd.prog 80 = none := by kernel_rfl
@[simp] theorem tyAgg_81 : tyAgg Tryd.prog 81 = some false := by kernel_rfl
@[simp] theorem tySize_81 : tySize Tryd.prog 81 = some 1 := by kernel_rfl
@[simp] theorem isSomeT_81 : Av.isSome Tryd.prog 81 = true := by kernel_rfl
@[simp] theorem isIfaceT_81 : isIface Tryd.prog 81 = false := by kernel_rfl
@[simp] theorem isStrT_81 : isStr Tryd.prog 81 = false := by kernel_rfl
@[simp] theorem zeroC_81 : zeroC Tryd.prog 81 = some [.sc .nilFunc] := by kernel_rfl
@[simp] theorem isPtrT_81 : isPtr Tryd.prog 81 = false := by kernel_rfl
@[simp] theorem isBytesT_81 : isBytes Tryd.prog 81 = false := by kernel_rfl
@[simp] theorem intOfT_81 : Av.intOf Tryd.prog 81 = none := by kernel_rfl
@[simp] theorem tyAgg_82 : tyAgg Tryd.prog 82 = some true := by kernel_rfl
@[simp] theorem tySize_82 : tySize Tryd.prog 82 = some 3 := by kernel_rfl
@[simp] theorem isSomeT_82 : Av.isSome Tryd.prog 82 = true := by kernel_rfl
@[simp] theorem isIfaceT_82 : isIface Tryd.prog 82 = false := by kernel_rfl
@[simp] theorem isStrT_82 : isStr Tryd.prog 82 = false := by kernel_rfl
@[simp] theorem zeroC_82 : zeroC Tryd.prog 82 = some [.str [], .str [], .sc (.bool false)] := by kernel_rfl
@[simp] theorem fieldsOk_82 : fieldsOk Tryd.prog 82 = true := by kernel_rfl
@[simp] theorem isPtrT_82 : isPtr Tryd.prog 82 = false := by kernel_rfl
@[simp] theorem fldL_82 : fldL Tryd.prog 82 = some [(0, 9), (1, 9), (2, 4)] := by kernel_rfl
@[simp] theorem eqOkT_82 : eqOkT Tryd.prog 82 = true := by kernel_rfl
@[simp] theorem placeP_82_0 : placeP Tryd.prog 82 0 = some (0, 1) := by kernel_rfl
@[simp] theorem placeP_82_1 : placeP Tryd.prog 82 1 = some (1, 1) := by kernel_rfl
@[simp] theorem placeP_82_2 : placeP Tryd.prog 82 2 = some (2, 1) := by kernel_rfl
@[simp] theorem fld_82_0 : fld Tryd.prog 82 0 = some (0, 1, false) := by kernel_rfl
@[simp] theorem fld_82_1 : fld Tryd.prog 82 1 = some (1, 1, false) := by kernel_rfl
@[simp] theorem fld_82_2 : fld Tryd.prog 82 2 = some (2, 1, false) := by kernel_rfl
@[simp] theorem isBytesT_82 : isBytes Tryd.prog 82 = false := by kernel_rfl
@[simp] theorem intOfT_82 : Av.intOf Tryd.prog 82 = none := by kernel_rfl
@[simp] theorem tyAgg_83 : tyAgg Tryd.prog 83 = some true := by kernel_rfl
@[simp] theorem tySize_83 : tySize Tryd.prog 83 = some 3 := by kernel_rfl
@[simp] theorem isSomeT_83 : Av.isSome Tryd.prog 83 = true := by kernel_rfl
@[simp] theorem isIfaceT_83 : isIface Tryd.prog 83 = false := by kernel_rfl
@[simp] theorem isStrT_83 : isStr Tryd.prog 83 = false := by kernel_rfl
@[simp] theorem zeroC_83 : zeroC Tryd.prog 83 = some [.str [], .str [], .sc (.bool false)] := by kernel_rfl
@[simp] theorem fieldsOk_83 : fieldsOk Tryd.prog 83 = true := by kernel_rfl
@[simp] theorem isPtrT_83 : isPtr Tryd.prog 83 = false := by kernel_rfl
@[simp] theorem fldL_83 : fldL Tryd.prog 83 = some [(0, 9), (1, 9), (2, 4)] := by kernel_rfl
@[simp] theorem eqOkT_83 : eqOkT Tryd.prog 83 = true := by kernel_rfl
@[simp] theorem placeP_83_0 : placeP Tryd.prog 83 0 = some (0, 1) := by kernel_rfl
@[simp] theorem placeP_83_1 : placeP Tryd.prog 83 1 = some (1, 1) := by kernel_rfl
@[simp] theorem placeP_83_2 : placeP Tryd.prog 83 2 = some (2, 1) := by kernel_rfl
@[simp] theorem fld_83_0 : fld Tryd.prog 83 0 = some (0, 1, false) := by kernel_rfl
@[simp] theorem fld_83_1 : fld Tryd.prog 83 1 = some (1, 1, false) := by kernel_rfl
@[simp] theorem fld_83_2 : fld Tryd.prog 83 2 = some (2, 1, false) := by kernel_rfl
@[simp] theorem isBytesT_83 : isBytes Tryd.prog 83 = false := by kernel_rfl
@[simp] theorem intOfT_83 : Av.intOf Tryd.prog 83 = none := by kernel_rfl
@[simp] theorem tyAgg_85 : tyAgg Tryd.prog 85 = some false := by kernel_rfl
@[simp] theorem tySize_85 : tySize Tryd.prog 85 = some 1 := by kernel_rfl
@[simp] theorem isSomeT_85 : Av.isSome Tryd.prog 85 = true := by kernel_rfl
@[simp] theorem isIfaceT_85 : isIface Tryd.prog 85 = false := by kernel_rfl
@[simp] theorem isStrT_85 : isStr Tryd.prog 85 = false := by kernel_rfl
@[simp] theorem zeroC_85 : zeroC Tryd.prog 85 = some [.sc .nilFunc] := by kernel_rfl
@[simp] theorem isPtrT_85 : isPtr Tryd.prog 85 = false := by kernel_rfl
@[simp] theorem isBytesT_85 : isBytes Tryd.prog 85 = false := by kernel_rfl
@[simp] theorem intOfT_85 : Av.intOf Tryd.prog 85 = none := by kernel_rfl
@[simp] theorem tyAgg_86 : tyAgg Tryd.prog 86 = some false := by kernel_rfl
@[simp] theorem tySize_86 : tySize Tryd.prog 86 = some 1 := by kernel_rfl
@[simp] theorem isSomeT_86 : Av.isSome Tryd.prog 86 = true := by kernel_rfl
@[simp] theorem isIfaceT_86 : isIface Tryd.prog 86 = false := by kernel_rfl
@[simp] theorem isStrT_86 : isStr Tryd.prog 86 = false := by kernel_rfl
@[simp] theorem zeroC_86 : zeroC Tryd.prog 86 = some [.sc (.pointer none)] := by kernel_rfl
@[simp] theorem isPtrT_86 : isPtr Tryd.prog 86 = true := by kernel_rfl
@[simp] theorem isBytesT_86 : isBytes Tryd.prog 86 = false := by kernel_rfl
@[simp] theorem intOfT_86 : Av.intOf Tryd.prog 86 = none := by kernel_rfl
@[simp] theorem tyAgg_87 : tyAgg Tryd.prog 87 = some false := by kernel_rfl
@[simp] theorem tySize_87 : tySize Tryd.prog 87 = some 1 := by kernel_rfl
@[simp] theorem isSomeT_87 : Av.isSome Tryd.prog 87 = true := by kernel_rfl
@[simp] theorem isIfaceT_87 : isIface Tryd.prog 87 = false := by kernel_rfl
@[simp] theorem isStrT_87 : isStr Tryd.prog 87 = false := by kernel_rfl
@[simp] theorem zeroC_87 : zeroC Tryd.prog 87 = some [.sc .nilFunc] := by kernel_rfl
@[simp] theorem isPtrT_87 : isPtr Tryd.prog 87 = false := by kernel_rfl
@[simp] theorem isBytesT_87 : isBytes Tryd.prog 87 = false := by kernel_rfl
@[simp] theorem intOfT_87 : Av.intOf Tryd.prog 87 = none := by kernel_rfl
@[simp] theorem tyAgg_88 : tyAgg Tryd.prog 88 = some false := by kernel_rfl
@[simp] theorem tySize_88 : tySize Tryd.prog 88 = some 1 := by kernel_rfl
@[simp] theorem isSomeT_88 : Av.isSome Tryd.prog 88 = true := by kernel_rfl
@[simp] theorem isIfaceT_88 : isIface Tryd.prog 88 = false := by kernel_rfl
@[simp] theorem isStrT_88 : isStr Tryd.prog 88 = false := by kernel_rfl
@[simp] theorem zeroC_88 : zeroC Tryd.prog 88 = some [.sc (.pointer none)] := by kernel_rfl
@[simp] theorem isPtrT_88 : isPtr Tryd.prog 88 = true := by kernel_rfl
@[simp] theorem isBytesT_88 : isBytes Tryd.prog 88 = false := by kernel_rfl
@[simp] theorem intOfT_88 : Av.intOf Tryd.prog 88 = none := by kernel_rfl
@[simp] theorem tyAgg_89 : tyAgg Tryd.prog 89 = some false := by kernel_rfl
@[simp] theorem tySize_89 : tySize Tryd.prog 89 = some 1 := by kernel_rfl
@[simp] theorem isSomeT_89 : Av.isSome Tryd.prog 89 = true := by kernel_rfl
@[simp] theorem isIfaceT_89 : isIface Tryd.prog 89 = false := by kernel_rfl
@[simp] theorem isStrT_89 : isStr Tryd.prog 89 = false := by kernel_rfl
@[simp] theorem zeroC_89 : zeroC Tryd.prog 89 = some [.sc (.pointer none)] := by kernel_rfl
@[simp] theorem isPtrT_89 : isPtr Tryd.prog 89 = true := by kernel_rfl
@[simp] theorem isBytesT_89 : isBytes Tryd.prog 89 = false := by kernel_rfl
@[simp] theorem intOfT_89 : Av.intOf Tryd.prog 89 = none := by kernel_rfl
@[simp] theorem tyAgg_90 : tyAgg Tryd.prog 90 = some false := by kernel_rfl
@[simp] theorem tySize_90 : tySize Tryd.prog 90 = some 1 := by kernel_rfl
@[simp] theorem isSomeT_90 : Av.isSome Tryd.prog 90 = true := by kernel_rfl
@[simp] theorem isIfaceT_90 : isIface Tryd.prog 90 = false := by kernel_rfl
@[simp] theorem isStrT_90 : isStr Tryd.prog 90 = false := by kernel_rfl
@[simp] theorem zeroC_90 : zeroC Tryd.prog 90 = some [.sc .nilFunc] := by kernel_rfl
@[simp] theorem isPtrT_90 : isPtr Tryd.prog 90 = false := by kernel_rfl
@[simp] theorem isBytesT_90 : isBytes Tryd.prog 90 = false := by kernel_rfl
@[simp] theorem intOfT_90 : Av.intOf Tryd.prog 90 = none := by kernel_rfl
@[simp] theorem tyAgg_91 : tyAgg Tryd.prog 91 = some false := by kernel_rfl
@[simp] theorem tySize_91 : tySize Tryd.prog 91 = some 1 := by kernel_rfl
@[simp] theorem isSomeT_91 : Av.isSome Tryd.prog 91 = true := by kernel_rfl
@[simp] theorem isIfaceT_91 : isIface Tryd.prog 91 = false := by kernel_rfl
@[simp] theorem isStrT_91 : isStr Tryd.prog 91 = false := by kernel_rfl
@[simp] theorem zeroC_91 : zeroC Tryd.prog 91 = some [.sc .nilFunc] := by kernel_rfl
@[simp] theorem isPtrT_91 : isPtr Tryd.prog 91 = false := by kernel_rfl
@[simp] theorem isBytesT_91 : isBytes Tryd.prog 91 = false := by kernel_rfl
@[simp] theorem intOfT_91 : Av.intOf Tryd.prog 91 = none := by kernel_rfl
@[simp] theorem tyAgg_93 : tyAgg Tryd.prog 93 = some false := by kernel_rfl
@[simp] theorem tySize_93 : tySize Tryd.prog 93 = some 1 := by kernel_rfl
@[simp] theorem isSomeT_93 : Av.isSome Tryd.prog 93 = true := by kernel_rfl
@[simp] theorem isIfaceT_93 : isIface Tryd.prog 93 = false := by kernel_rfl
@[simp] theorem isStrT_93 : isStr Tryd.prog 93 = false := by kernel_rfl
@[simp] theorem zeroC_93 : zeroC Tryd.prog 93 = some [.sc .nilFunc] := by kernel_rfl
@[simp] theorem isPtrT_93 : isPtr Tryd.prog 93 = false := by kernel_rfl
@[simp] theorem isBytesT_93 : isBytes Tryd.prog 93 = false := by kernel_rfl
@[simp] theorem intOfT_93 : Av.intOf Tryd.prog 93 = none := by kernel_rfl
@[simp] theorem tyAgg_94 : tyAgg Tryd.prog 94 = some false := by kernel_rfl
@[simp] theorem tySize_94 : tySize Tryd.prog 94 = some 1 := by kernel_rfl
@[simp] theorem isSomeT_94 : Av.isSome Tryd.prog 94 = true := by kernel_rfl
@[simp] theorem isIfaceT_94 : isIface Tryd.prog 94 = false := by kernel_rfl
@[simp] theorem isStrT_94 : isStr Tryd.prog 94 = false := by kernel_rfl
@[simp] theorem zeroC_94 : zeroC Tryd.prog 94 = some [.sc .nilFunc] := by kernel_rfl
@[simp] theorem isPtrT_94 : isPtr Tryd.prog 94 = false := by kernel_rfl
@[simp] theorem isBytesT_94 : isBytes Tryd.prog 94 = false := by kernel_rfl
@[simp] theorem intOfT_94 : Av.intOf Tryd.prog 94 = none := by kernel_rfl
@[simp] theorem tyAgg_95 : tyAgg Tryd.prog 95 = some false := by kernel_rfl
@[simp] theorem tySize_95 : tySize Tryd.prog 95 = some 1 := by kernel_rfl
@[simp] theorem isSomeT_95 : Av.isSome Tryd.prog 95 = true := by kernel_rfl
@[simp] theorem isIfaceT_95 : isIface Tryd.prog 95 = false := by kernel_rfl
@[simp] theorem isStrT_95 : isStr Tryd.prog 95 = false := by kernel_rfl
@[simp] theorem zeroC_95 : zeroC Tryd.prog 95 = some [.sc .nilFunc] := by kernel_rfl
@[simp] theorem isPtrT_95 : isPtr Tryd.prog 95 = false := by kernel_rfl
@[simp] theorem isBytesT_95 : isBytes Tryd.prog 95 = false := by kernel_rfl
@[simp] theorem intOfT_95 : Av.intOf Tryd.prog 95 = none := by kernel_rfl
@[simp] theorem tyAgg_96 : tyAgg Tryd.prog 96 = some false := by kernel_rfl
@[simp] theorem tySize_96 : tySize Tryd.prog 96 = some 1 := by kernel_rfl
@[simp] theorem isSomeT_96 : Av.isSome Tryd.prog 96 = true := by kernel_rfl
@[simp] theorem isIfaceT_96 : isIface Tryd.prog 96 = false := by kernel_rfl
@[simp] theorem isStrT_96 : isStr Tryd.prog 96 = false := by kernel_rfl
@[simp] theorem zeroC_96 : zeroC Tryd.prog 96 = some [.sc .nilFunc] := by kernel_rfl
@[simp] theorem isPtrT_96 : isPtr Tryd.prog 96 = false := by kernel_rfl
@[simp] theorem isBytesT_96 : isBytes Tryd.prog 96 = false := by kernel_rfl
@[simp] theorem intOfT_96 : Av.intOf Tryd.prog 96 = none := by kernel_rfl
@[simp] theorem tyAgg_97 : tyAgg Tryd.prog 97 = some false := by kernel_rfl
@[simp] theorem tySize_97 : tySize Tryd.prog 97 = some 1 := by kernel_rfl
@[simp] theorem isSomeT_97 : Av.isSome Tryd.prog 97 = true := by kernel_rfl
@[simp] theorem isIfaceT_97 : isIface Tryd.prog 97 = false := by kernel_rfl
@[simp] theorem isStrT_97 : isStr Tryd.prog 97 = false := by kernel_rfl
@[simp] theorem zeroC_97 : zeroC Tryd.prog 97 = some [.sc .nilFunc] := by kernel_rfl
@[simp] theorem isPtrT_97 : isPtr Tryd.prog 97 = false := by kernel_rfl
@[simp] theorem isBytesT_97 : isBytes Tryd.prog 97 = false := by kernel_rfl
@[simp] theorem intOfT_97 : Av.intOf Tryd.prog 97 = none := by kernel_rfl
@[simp] theorem tyAgg_98 : tyAgg Tryd.prog 98 = some false := by kernel_rfl
@[simp] theorem tySize_98 : tySize Tryd.prog 98 = some 1 := by kernel_rfl
@[simp] theorem isSomeT_98 : Av.isSome Tryd.prog 98 = true := by kernel_rfl
@[simp] theorem isIfaceT_98 : isIface Tryd.prog 98 = false := by kernel_rfl
@[simp] theorem isStrT_98 : isStr Tryd.prog 98 = false := by kernel_rfl
@[simp] theorem zeroC_98 : zeroC Tryd.prog 98 = some [.sc .nilFunc] := by kernel_rfl
@[simp] theorem isPtrT_98 : isPtr Tryd.prog 98 = false := by kernel_rfl
@[simp] theorem isBytesT_98 : isBytes Tryd.prog 98 = false := by kernel_rfl
@[simp] theorem intOfT_98 : Av.intOf Tryd.prog 98 = none := by kernel_rfl
@[simp] theorem tyAgg_99 : tyAgg Tryd.prog 99 = some false := by kernel_rfl
@[simp] theorem tySize_99 : tySize Tryd.prog 99 = some 1 := by kernel_rfl
@[simp] theorem isSomeT_99 : Av.isSome Tryd.prog 99 = true := by kernel_rfl
@[simp] theorem isIfaceT_99 : isIface Tryd.prog 99 = false := by kernel_rfl
@[simp] theorem isStrT_99 : isStr Tryd.prog 99 = false := by kernel_rfl
@[simp] theorem zeroC_99 : zeroC Tryd.prog 99 = some [.sc (.pointer none)] := by kernel_rfl
@[simp] theorem isPtrT_99 : isPtr Tryd.prog 99 = true := by kernel_rfl
@[simp] theorem isBytesT_99 : isBytes Tryd.prog 99 = false := by kernel_rfl
@[simp] theorem intOfT_99 : Av.intOf Tryd.prog 99 = none := by kernel_rfl
@[simp] theorem tyAgg_100 : tyAgg Tryd.prog 100 = some true := by kernel_rfl
@[simp] theorem tySize_100 : tySize Tryd.prog 100 = some 2 := by kernel_rfl
@[simp] theorem isSomeT_100 : Av.isSome Tryd.prog 100 = true := by kernel_rfl
@[simp] theorem isIfaceT_100 : isIface Tryd.prog 100 = false := by kernel_rfl
@[simp] theorem isStrT_100 : isStr Tryd.prog 100 = false := by kernel_rfl
@[simp] theorem zeroC_100 : zeroC Tryd.prog 100 = some [.sc (.pointer none), .nil] := by kernel_rfl
@[simp] theorem fieldsOk_100 : fieldsOk Tryd.prog 100 = true := by kernel_rfl
@[simp] theorem isPtrT_100 : isPtr Tryd.prog 100 = false := by kernel_rfl
@[simp] theorem placeP_100_0 : placeP Tryd.prog 100 0 = some (0, 1) := by kernel_rfl
@[simp] theorem placeP_100_1 : placeP Tryd.prog 100 1 = some (1, 1) := by kernel_rfl
@[simp] theorem fld_100_0 : fld Tryd.prog 100 0 = some (0, 1, false) := by kernel_rfl
@[simp] theorem fld_100_1 : fld Tryd.prog 100 1 = some (1, 1, false) := by kernel_rfl
@[simp] theorem isBytesT_100 : isBytes Tryd.prog 100 = false := by kernel_rfl
@[simp] theorem intOfT_100 : Av.intOf Tryd.prog 100 = none := by kernel_rfl
@[simp] theorem tyAgg_101 : tyAgg Tryd.prog 101 = some true := by kernel_rfl
@[simp] theorem tySize_101 : tySize Tryd.prog 101 = some 2 := by kernel_rfl
@[simp] theorem isSomeT_101 : Av.isSome Tryd.prog 101 = true := by kernel_rfl
@[simp] theorem isIfaceT_101 : isIface Tryd.prog 101 = false := by kernel_rfl
@[simp] theorem isStrT_101 : isStr Tryd.prog 101 = false := by kernel_rfl
@[simp] theorem zeroC_101 : zeroC Tryd.prog 101 = some [.sc (.pointer none), .nil] := by kernel_rfl
@[simp] theorem fieldsOk_101 : fieldsOk Tryd.prog 101 = true := by kernel_rfl
@[simp] theorem isPtrT_101 : isPtr Tryd.prog 101 = false := by kernel_rfl
@[simp] theorem placeP_101_0 : placeP Tryd.prog 101 0 = some (0, 1) := by kernel_rfl
@[simp] theorem placeP_101_1 : placeP Tryd.prog 101 1 = some (1, 1) := by kernel_rfl
@[simp] theorem fld_101_0 : fld Tryd.prog 101 0 = some (0, 1, false) := by kernel_rfl
@[simp] theorem fld_101_1 : fld Tryd.prog 101 1 = some (1, 1, false) := by kernel_rfl
@[simp] theorem isBytesT_101 : isBytes Tryd.prog 101 = false := by kernel_rfl
@[simp] theorem intOfT_101 : Av.intOf Tryd.prog 101 = none := by kernel_rfl
@[simp] theorem tyAgg_102 : tyAgg Tryd.prog 102 = some false := by kernel_rfl
@[simp] theorem tySize_102 : tySize Tryd.prog 102 = some 1 := by kernel_rfl
@[simp] theorem isSomeT_102 : Av.isSome Tryd.prog 102 = true := by kernel_rfl
@[simp] theorem isIfaceT_102 : isIface Tryd.prog 102 = true := by kernel_rfl
@[simp] theorem isStrT_102 : isStr Tryd.prog 102 = false := by kernel_rfl
@[simp] theorem zeroC_102 : zeroC Tryd.prog 102 = some [.sc .nilIface] := by kernel_rfl
@[simp] theorem isPtrT_102 : isPtr Tryd.prog 102 = false := by kernel_rfl
@[simp] theorem isBytesT_102 : isBytes Tryd.prog 102 = false := by kernel_rfl
@[simp] theorem intOfT_102 : Av.intOf Tryd.prog 102 = none := by kernel_rfl
@[simp] theorem tyAgg_103 : tyAgg Tryd.prog 103 = some false := by kernel_rfl
@[simp] theorem tySize_103 : tySize Tryd.prog 103 = some 1 := by kernel_rfl
@[simp] theorem isSomeT_103 : Av.isSome Tryd.prog 103 = true := by kernel_rfl
@[simp] theorem isIfaceT_103 : isIface Tryd.prog 103 = true := by kernel_rfl
@[simp] theorem isStrT_103 : isStr Tryd.prog 103 = false := by kernel_rfl
@[simp] theorem zeroC_103 : zeroC Tryd.prog 103 = some [.sc .nilIface] := by kernel_rfl
@[simp] theorem isPtrT_103 : isPtr Tryd.prog 103 = false := by kernel_rfl
@[simp] theorem isBytesT_103 : isBytes Tryd.prog 103 = false := by kernel_rfl
@[simp] theorem intOfT_103 : Av.intOf Tryd.prog 103 = none := by kernel_rfl
@[simp] theorem tyAgg_105 : tyAgg Tryd.prog 105 = some false := by kernel_rfl
@[simp] theorem tySize_105 : tySize Tryd.prog 105 = some 1 := by kernel_rfl
@[simp] theorem isSomeT_105 : Av.isSome Tryd.prog 105 = true := by kernel_rfl
@[simp] theorem isIfaceT_105 : isIface Tryd.prog 105 = false := by kernel_rfl
@[simp] theorem isStrT_105 : isStr Tryd.prog 105 = false := by kernel_rfl
@[simp] theorem zeroC_105 : zeroC Tryd.prog 105 = some [.sc .nilFunc] := by kernel_rfl
@[simp] theorem isPtrT_105 : isPtr Tryd.prog 105 = false := by kernel_rfl
@[simp] theorem isBytesT_105 : isBytes Tryd.prog 105 = false := by kernel_rfl
@[simp] theorem intOfT_105 : Av.intOf Tryd.prog 105 = none := by kernel_rfl
@[simp] theorem tyAgg_107 : tyAgg Tryd.prog 107 = some false := by kernel_rfl
@[simp] theorem tySize_107 : tySize Tryd.prog 107 = some 1 := by kernel_rfl
@[simp] theorem isSomeT_107 : Av.isSome Tryd.prog 107 = true := by kernel_rfl
@[simp] theorem isIfaceT_107 : isIface Tryd.prog 107 = false := by kernel_rfl
@[simp] theorem isStrT_107 : isStr Tryd.prog 107 = false := by kernel_rfl
@[simp] theorem zeroC_107 : zeroC Tryd.prog 107 = some [.sc .nilFunc] := by kernel_rfl
@[simp] theorem isPtrT_107 : isPtr Tryd.prog 107 = false := by kernel_rfl
@[simp] theorem isBytesT_107 : isBytes Tryd.prog 107 = false := by kernel_rfl
@[simp] theorem intOfT_107 : Av.intOf Tryd.prog 107 = none := by kernel_rfl
@[simp] theorem tyAgg_108 : tyAgg Tryd.prog 108 = some false := by kernel_rfl
@[simp] theorem tySize_108 : tySize Tryd.prog 108 = some 1 := by kernel_rfl
@[simp] theorem isSomeT_108 : Av.isSome Tryd.prog 108 = true := by kernel_rfl
@[simp] theorem isIfaceT_108 : isIface Tryd.prog 108 = false := by kernel_rfl
@[simp] theorem isStrT_108 : isStr Tryd.prog 108 = false := by kernel_rfl
@[simp] theorem zeroC_108 : zeroC Tryd.prog 108 = some [.sc .nilFunc] := by kernel_rfl
@[simp] theorem isPtrT_108 : isPtr Tryd.prog 108 = false := by kernel_rfl
@[simp] theorem isBytesT_108 : isBytes Tryd.prog 108 = false := by kernel_rfl
@[simp] theorem intOfT_108 : Av.intOf Tryd.prog 108 = none := by kernel_rfl
@[simp] theorem tyAgg_109 : tyAgg Tryd.prog 109 = some false := by kernel_rfl
@[simp] theorem tySize_109 : tySize Tryd.prog 109 = some 1 := by kernel_rfl
@[simp] theorem isSomeT_109 : Av.isSome Tryd.prog 109 = true := by kernel_rfl
@[simp] theorem isIfaceT_109 : isIface Tryd.prog 109 = false := by kernel_rfl
@[simp] theorem isStrT_109 : isStr Tryd.prog 109 = false := by kernel_rfl
@[simp] theorem zeroC_109 : zeroC Tryd.prog 109 = some [.sc .nilFunc] := by kernel_rfl
@[simp] theorem isPtrT_109 : isPtr Tryd.prog 109 = false := by kernel_rfl
@[simp] theorem isBytesT_109 : isBytes Tryd.prog 109 = false := by kernel_rfl
@[simp] theorem intOfT_109 : Av.intOf Tryd.prog 109 = none := by kernel_rfl
@[simp] theorem tyAgg_110 : tyAgg Tryd.prog 110 = some false := by kernel_rfl
@[simp] theorem tySize_110 : tySize Tryd.prog 110 = some 1 := by kernel_rfl
@[simp] theorem isSomeT_110 : Av.isSome Tryd.prog 110 = true := by kernel_rfl
@[simp] theorem isIfaceT_110 : isIface Tryd.prog 110 = false := by kernel_rfl
@[simp] theorem isStrT_110 : isStr Tryd.prog 110 = false := by kernel_rfl
@[simp] theorem zeroC_110 : zeroC Tryd.prog 110 = some [.sc .nilFunc] := by kernel_rfl
@[simp] theorem isPtrT_110 : isPtr Tryd.prog 110 = false := by kernel_rfl
@[simp] theorem isBytesT_110 : isBytes Tryd.prog 110 = false := by kernel_rfl
@[simp] theorem intOfT_110 : Av.intOf Tryd.prog 110 = none := by kernel_rfl
@[simp] theorem tyAgg_111 : tyAgg Tryd.prog 111 = some false := by kernel_rfl
@[simp] theorem tySize_111 : tySize Tryd.prog 111 = some 1 := by kernel_rfl
@[simp] theorem isSomeT_111 : Av.isSome Tryd.prog 111 = true := by kernel_rfl
@[simp] theorem isIfaceT_111 : isIface Tryd.prog 111 = false := by kernel_rfl
@[simp] theorem isStrT_111 : isStr Tryd.prog 111 = false := by kernel_rfl
@[simp] theorem zeroC_111 : zeroC Tryd.prog 111 = some [.sc .nilFunc] := by kernel_rfl
@[simp] theorem isPtrT_111 : isPtr Tryd.prog 111 = false := by kernel_rfl
@[simp] theorem isBytesT_111 : isBytes Tryd.prog 111 = false := by kernel_rfl
@[simp] theorem intOfT_111 : Av.intOf Tryd.prog 111 = none := by kernel_rfl
@[simp] theorem tyAgg_112 : tyAgg Tryd.prog 112 = some false := by kernel_rfl
@[simp] theorem tySize_112 : tySize Tryd.prog 112 = some 1 := by kernel_rfl
@[simp] theorem isSomeT_112 : Av.isSome Tryd.prog 112 = true := by kernel_rfl
@[simp] theorem isIfaceT_112 : isIface Tryd.prog 112 = false := by kernel_rfl
@[simp] theorem isStrT_112 : isStr Tryd.prog 112 = false := by kernel_rfl
@[simp] theorem zeroC_112 : zeroC Tryd.prog 112 = some [.sc .nilFunc] := by kernel_rfl
@[simp] theorem isPtrT_112 : isPtr Tryd.prog 112 = false := by kernel_rfl
@[simp] theorem isBytesT_112 : isBytes Tryd.prog 112 = false := by kernel_rfl
@[simp] theorem intOfT_112 : Av.intOf Tryd.prog 112 = none := by kernel_rfl
@[simp] theorem tyAgg_113 : tyAgg Tryd.prog 113 = some false := by kernel_rfl
@[simp] theorem tySize_113 : tySize Tryd.prog 113 = some 1 := by kernel_rfl
@[simp] theorem isSomeT_113 : Av.isSome Tryd.prog 113 = true := by kernel_rfl
@[simp] theorem isIfaceT_113 : isIface Tryd.prog 113 = false := by kernel_rfl
@[simp] theorem isStrT_113 : isStr Tryd.prog 113 = false := by kernel_rfl
@[simp] theorem zeroC_113 : zeroC Tryd.prog 113 = some [.sc .nilFunc] := by kernel_rfl
@[simp] theorem isPtrT_113 : isPtr Tryd.prog 113 = false := by kernel_rfl
@[simp] theorem isBytesT_113 : isBytes Tryd.prog 113 = false := by kernel_rfl
@[simp] theorem intOfT_113 : Av.intOf Tryd.prog 113 = none := by kernel_rfl
@[simp] theorem tyAgg_114 : tyAgg Tryd.prog 114 = some false := by kernel_rfl
@[simp] theorem tySize_114 : tySize Tryd.prog 114 = some 1 := by kernel_rfl
@[simp] theorem isSomeT_114 : Av.isSome Tryd.prog 114 = true := by kernel_rfl
@[simp] theorem isIfaceT_114 : isIface Tryd.prog 114 = false := by kernel_rfl
@[simp] theorem isStrT_114 : isStr Tryd.prog 114 = false := by kernel_rfl
@[simp] theorem zeroC_114 : zeroC Tryd.prog 114 = some [.sc .nilFunc] := by kernel_rfl
@[simp] theorem isPtrT_114 : isPtr Tryd.prog 114 = false := by kernel_rfl
@[simp] theorem isBytesT_114 : isBytes Tryd.prog 114 = false := by kernel_rfl
@[simp] theorem intOfT_114 : Av.intOf Tryd.prog 114 = none := by kernel_rfl
@[simp] theorem tyAgg_115 : tyAgg Tryd.prog 115 = some false := by kernel_rfl
@[simp] theorem tySize_115 : tySize Tryd.prog 115 = some 1 := by kernel_rfl
@[simp] theorem isSomeT_115 : Av.isSome Tryd.prog 115 = true := by kernel_rfl
@[simp] theorem isIfaceT_115 : isIface Tryd.prog 115 = false := by kernel_rfl
@[simp] theorem isStrT_115 : isStr Tryd.prog 115 = false := by kernel_rfl
@[simp] theorem zeroC_115 : zeroC Tryd.prog 115 = some [.sc .nilFunc] := by kernel_rfl
@[simp] theorem isPtrT_115 : isPtr Tryd.prog 115 = false := by kernel_rfl
@[simp] theorem isBytesT_115 : isBytes Tryd.prog 115 = false := by kernel_rfl
@[simp] theorem intOfT_115 : Av.intOf Tryd.prog 115 = none := by kernel_rfl
@[simp] theorem tyAgg_117 : tyAgg Tryd.prog 117 = some false := by kernel_rfl
@[simp] theorem tySize_117 : tySize Tryd.prog 117 = some 1 := by kernel_rfl
@[simp] theorem isSomeT_117 : Av.isSome Tryd.prog 117 = true := by kernel_rfl
@[simp] theorem isIfaceT_117 : isIface Tryd.prog 117 = false := by kernel_rfl
@[simp] theorem isStrT_117 : isStr Tryd.prog 117 = false := by kernel_rfl
@[simp] theorem zeroC_117 : zeroC Tryd.prog 117 = some [.sc .nilFunc] := by kernel_rfl
@[simp] theorem isPtrT_117 : isPtr Tryd.prog 117 = false := by kernel_rfl
@[simp] theorem isBytesT_117 : isBytes Tryd.prog 117 = false := by kernel_rfl
@[simp] theorem intOfT_117 : Av.intOf Tryd.prog 117 = none := by kernel_rfl
@[simp] theorem tyAgg_118 : tyAgg Tryd.prog 118 = some false := by kernel_rfl
@[simp] theorem tySize_118 : tySize Tryd.prog 118 = some 1 := by kernel_rfl
@[simp] theorem isSomeT_118 : Av.isSome Tryd.prog 118 = true := by kernel_rfl
@[simp] theorem isIfaceT_118 : isIface Tryd.prog 118 = false := by kernel_rfl
@[simp] theorem isStrT_118 : isStr Tryd.prog 118 = false := by kernel_rfl
@[simp] theorem zeroC_118 : zeroC Tryd.prog 118 = some [.sc .nilFunc] := by kernel_rfl
@[simp] theorem isPtrT_118 : isPtr Tryd.prog 118 = false := by kernel_rfl
@[simp] theorem isBytesT_118 : isBytes Tryd.prog 118 = false := by kernel_rfl
@[simp] theorem intOfT_118 : Av.intOf Tryd.prog 118 = none := by kernel_rfl
@[simp] theorem tyAgg_119 : tyAgg Tryd.prog 119 = some false := by kernel_rfl
@[simp] theorem tySize_119 : tySize Tryd.prog 119 = some 1 := by kernel_rfl
@[simp] theorem isSomeT_119 : Av.isSome Tryd.prog 119 = true := by kernel_rfl
@[simp] theorem isIfaceT_119 : isIface Tryd.prog 119 = false := by kernel_rfl
@[simp] theorem isStrT_119 : isStr Tryd.prog 119 = false := by kernel_rfl
@[simp] theorem zeroC_119 : zeroC Tryd.prog 119 = some [.sc .nilFunc] := by kernel_rfl
@[simp] theorem isPtrT_119 : isPtr Tryd.prog 119 = false := by kernel_rfl
@[simp] theorem isBytesT_119 : isBytes Tryd.prog 119 = false := by kernel_rfl
@[simp] theorem intOfT_119 : Av.intOf Tryd.prog 119 = none := by kernel_rfl
@[simp] theorem tyAgg_120 : tyAgg Tryd.prog 120 = some false := by kernel_rfl
@[simp] theorem tySize_120 : tySize Tryd.prog 120 = some 1 := by kernel_rfl
@[simp] theorem isSomeT_120 : Av.isSome Tryd.prog 120 = true := by kernel_rfl
@[simp] theorem isIfaceT_120 : isIface Tryd.prog 120 = false := by kernel_rfl
@[simp] theorem isStrT_120 : isStr Tryd.prog 120 = false := by kernel_rfl
@[simp] theorem zeroC_120 : zeroC Tryd.prog 120 = some [.sc .nilFunc] := by kernel_rfl
@[simp] theorem isPtrT_120 : isPtr Tryd.prog 120 = false := by kernel_rfl
@[simp] theorem isBytesT_120 : isBytes Tryd.prog 120 = false := by kernel_rfl
@[simp] theorem intOfT_120 : Av.intOf Tryd.prog 120 = none := by kernel_rfl
@[simp] theorem tyAgg_121 : tyAgg Tryd.prog 121 = some false := by kernel_rfl
@[simp] theorem tySize_121 : tySize Tryd.prog 121 = some 1 := by kernel_rfl
@[simp] theorem isSomeT_121 : Av.isSome Tryd.prog 121 = true := by kernel_rfl
@[simp] theorem isIfaceT_121 : isIface Tryd.prog 121 = false := by kernel_rfl
@[simp] theorem isStrT_121 : isStr Tryd.prog 121 = false := by kernel_rfl
@[simp] theorem zeroC_121 : zeroC Tryd.prog 121 = some [.sc .nilFunc] := by kernel_rfl
@[simp] theorem isPtrT_121 : isPtr Tryd.prog 121 = false := by kernel_rfl
@[simp] theorem isBytesT_121 : isBytes Tryd.prog 121 = false := by kernel_rfl
@[simp] theorem intOfT_121 : Av.intOf Tryd.prog 121 = none := by kernel_rfl
@[simp] theorem tyAgg_122 : tyAgg Tryd.prog 122 = some false := by kernel_rfl
@[simp] theorem tySize_122 : tySize Tryd.prog 122 = some 1 := by kernel_rfl
@[simp] theorem isSomeT_122 : Av.isSome Tryd.prog 122 = true := by kernel_rfl
@[simp] theorem isIfaceT_122 : isIface Tryd.prog 122 = false := by kernel_rfl
@[simp] theorem isStrT_122 : isStr Tryd.prog 122 = false := by kernel_rfl
@[simp] theorem zeroC_122 : zeroC Tryd.prog 122 = some [.sc .nilFunc] := by kernel_rfl
@[simp] theorem isPtrT_122 : isPtr Tryd.prog 122 = false := by kernel_rfl
@[simp] theorem isBytesT_122 : isBytes Tryd.prog 122 = false := by kernel_rfl
@[simp] theorem intOfT_122 : Av.intOf Tryd.prog 122 = none := by kernel_rfl
@[simp] theorem tyAgg_123 : tyAgg Tryd.prog 123 = some false := by kernel_rfl
@[simp] theorem tySize_123 : tySize Tryd.prog 123 = some 1 := by kernel_rfl
@[simp] theorem isSomeT_123 : Av.isSome Tryd.prog 123 = true := by kernel_rfl
@[simp] theorem isIfaceT_123 : isIface Tryd.prog 123 = false := by kernel_rfl
@[simp] theorem isStrT_123 : isStr Tryd.prog 123 = false := by kernel_rfl
@[simp] theorem zeroC_123 : zeroC Tryd.prog 123 = some [.sc (.int .u64 0)] := by kernel_rfl
@[simp] theorem isPtrT_123 : isPtr Tryd.prog 123 = false := by kernel_rfl
@[simp] theorem isBytesT_123 : isBytes Tryd.prog 123 = false := by kernel_rfl
@[simp] theorem intOfT_123 : Av.intOf Tryd.prog 123 = some .u64 := by kernel_rfl
@[simp] theorem tyAgg_124 : tyAgg Tryd.prog 124 = some false := by kernel_rfl
@[simp] theorem tySize_124 : tySize Tryd.prog 124 = some 1 := by kernel_rfl
@[simp] theorem isSomeT_124 : Av.isSome Tryd.prog 124 = true := by kernel_rfl
@[simp] theorem isIfaceT_124 : isIface Tryd.prog 124 = false := by kernel_rfl
@[simp] theorem isStrT_124 : isStr Tryd.prog 124 = false := by kernel_rfl
@[simp] theorem zeroC_124 : zeroC Tryd.prog 124 = some [.sc .nilFunc] := by kernel_rfl
@[simp] theorem isPtrT_124 : isPtr Tryd.prog 124 = false := by kernel_rfl
@[simp] theorem isBytesT_124 : isBytes Tryd.prog 124 = false := by kernel_rfl
@[simp] theorem intOfT_124 : Av.intOf Tryd.prog 124 = none := by kernel_rfl
@[simp] theorem tyAgg_125 : tyAgg Tryd.prog 125 = some false := by kernel_rfl
@[simp] theorem tySize_125 : tySize Tryd.prog 125 = some 1 := by kernel_rfl
@[simp] theorem isSomeT_125 : Av.isSome Tryd.prog 125 = true := by kernel_rfl
@[simp] theorem isIfaceT_125 : isIface Tryd.prog 125 = false := by kernel_rfl
@[simp] theorem isStrT_125 : isStr Tryd.prog 125 = false := by kernel_rfl
@[simp] theorem zeroC_125 : zeroC Tryd.prog 125 = some [.sc (.pointer none)] := by kernel_rfl
@[simp] theorem isPtrT_125 : isPtr Tryd.prog 125 = true := by kernel_rfl
@[simp] theorem isBytesT_125 : isBytes Tryd.prog 125 = false := by kernel_rfl
@[simp] theorem intOfT_125 : Av.intOf Tryd.prog 125 = none := by kernel_rfl
@[simp] theorem tyAgg_126 : tyAgg Tryd.prog 126 = some false := by kernel_rfl
@[simp] theorem tySize_126 : tySize Tryd.prog 126 = some 1 := by kernel_rfl
@[simp] theorem isSomeT_126 : Av.isSome Tryd.prog 126 = true := by kernel_rfl
@[simp] theorem isIfaceT_126 : isIface Tryd.prog 126 = false := by kernel_rfl
@[simp] theorem isStrT_126 : isStr Tryd.prog 126 = false := by kernel_rfl
@[simp] theorem zeroC_126 : zeroC Tryd.prog 126 = some [.sc .nilFunc] := by kernel_rfl
@[simp] theorem isPtrT_126 : isPtr Tryd.prog 126 = false := by kernel_rfl
@[simp] theorem isBytesT_126 : isBytes Tryd.prog 126 = false := by kernel_rfl
@[simp] theorem intOfT_126 : Av.intOf Tryd.prog 126 = none := by kernel_rfl
@[simp] theorem tyAgg_127 : tyAgg Tryd.prog 127 = some false := by kernel_rfl
@[simp] theorem tySize_127 : tySize Tryd.prog 127 = some 1 := by kernel_rfl
@[simp] theorem isSomeT_127 : Av.isSome Tryd.prog 127 = true := by kernel_rfl
@[simp] theorem isIfaceT_127 : isIface Tryd.prog 127 = false := by kernel_rfl
@[simp] theorem isStrT_127 : isStr Tryd.prog 127 = false := by kernel_rfl
@[simp] theorem zeroC_127 : zeroC Tryd.prog 127 = some [.sc .nilFunc] := by kernel_rfl
@[simp] theorem isPtrT_127 : isPtr Tryd.prog 127 = false := by kernel_rfl
@[simp] theorem isBytesT_127 : isBytes Tryd.prog 127 = false := by kernel_rfl
@[simp] theorem intOfT_127 : Av.intOf Tryd.prog 127 = none := by kernel_rfl
@[simp] theorem tyAgg_128 : tyAgg Tryd.prog 128 = some false := by kernel_rfl
@[simp] theorem tySize_128 : tySize Tryd.prog 128 = some 1 := by kernel_rfl
@[simp] theorem isSomeT_128 : Av.isSome Tryd.prog 128 = true := by kernel_rfl
@[simp] theorem isIfaceT_128 : isIface Tryd.prog 128 = false := by kernel_rfl
@[simp] theorem isStrT_128 : isStr Tryd.prog 128 = false := by kernel_rfl
@[simp] theorem zeroC_128 : zeroC Tryd.prog 128 = some [.sc .nilFunc] := by kernel_rfl
@[simp] theorem isPtrT_128 : isPtr Tryd.prog 128 = false := by kernel_rfl
@[simp] theorem isBytesT_128 : isBytes Tryd.prog 128 = false := by kernel_rfl
@[simp] theorem intOfT_128 : Av.intOf Tryd.prog 128 = none := by kernel_rfl
@[simp] theorem tyAgg_129 : tyAgg Tryd.prog 129 = some false := by kernel_rfl
@[simp] theorem tySize_129 : tySize Tryd.prog 129 = some 1 := by kernel_rfl
@[simp] theorem isSomeT_129 : Av.isSome Tryd.prog 129 = true := by kernel_rfl
@[simp] theorem isIfaceT_129 : isIface Tryd.prog 129 = false := by kernel_rfl
@[simp] theorem isStrT_129 : isStr Tryd.prog 129 = false := by kernel_rfl
@[simp] theorem zeroC_129 : zeroC Tryd.prog 129 = some [.sc .nilFunc] := by kernel_rfl
@[simp] theorem isPtrT_129 : isPtr Tryd.prog 129 = false := by kernel_rfl
@[simp] theorem isBytesT_129 : isBytes Tryd.prog 129 = false := by kernel_rfl
@[simp] theorem intOfT_129 : Av.intOf Tryd.prog 129 = none := by kernel_rfl
@[simp] theorem tyAgg_130 : tyAgg Tryd.prog 130 = some false := by kernel_rfl
@[simp] theorem tySize_130 : tySize Tryd.prog 130 = some 1 := by kernel_rfl
@[simp] theorem isSomeT_130 : Av.isSome Tryd.prog 130 = true := by kernel_rfl
@[simp] theorem isIfaceT_130 : isIface Tryd.prog 130 = false := by kernel_rfl
@[simp] theorem isStrT_130 : isStr Tryd.prog 130 = false := by kernel_rfl
@[simp] theorem zeroC_130 : zeroC Tryd.prog 130 = some [.sc .nilFunc] := by kernel_rfl
@[simp] theorem isPtrT_130 : isPtr Tryd.prog 130 = false := by kernel_rfl
@[simp] theorem isBytesT_130 : isBytes Tryd.prog 130 = false := by kernel_rfl
@[simp] theorem intOfT_130 : Av.intOf Tryd.prog 130 = none := by kernel_rfl
@[simp] theorem tyAgg_131 : tyAgg Tryd.prog 131 = some false := by kernel_rfl
@[simp] theorem tySize_131 : tySize Tryd.prog 131 = some 1 := by kernel_rfl
@[simp] theorem isSomeT_131 : Av.isSome Tryd.prog 131 = true := by kernel_rfl
@[simp] theorem isIfaceT_131 : isIface Tryd.prog 131 = false := by kernel_rfl
@[simp] theorem isStrT_131 : isStr Tryd.prog 131 = false := by kernel_rfl
@[simp] theorem zeroC_131 : zeroC Tryd.prog 131 = some [.sc .nilFunc] := by kernel_rfl
@[simp] theorem isPtrT_131 : isPtr Tryd.prog 131 = false := by kernel_rfl
@[simp] theorem isBytesT_131 : isBytes Tryd.prog 131 = false := by kernel_rfl
@[simp] theorem intOfT_131 : Av.intOf Tryd.prog 131 = none := by kernel_rfl
@[simp] theorem tyAgg_132 : tyAgg Tryd.prog 132 = some false := by kernel_rfl
@[simp] theorem tySize_132 : tySize Tryd.prog 132 = some 1 := by kernel_rfl
@[simp] theorem isSomeT_132 : Av.isSome Tryd.prog 132 = true := by kernel_rfl
@[simp] theorem isIfaceT_132 : isIface Tryd.prog 132 = false := by kernel_rfl
@[simp] theorem isStrT_132 : isStr Tryd.prog 132 = false := by kernel_rfl
@[simp] theorem zeroC_132 : zeroC Tryd.prog 132 = some [.sc (.int .i64 0)] := by kernel_rfl
@[simp] theorem isPtrT_132 : isPtr Tryd.prog 132 = false := by kernel_rfl
@[simp] theorem isBytesT_132 : isBytes Tryd.prog 132 = false := by kernel_rfl
@[simp] theorem intOfT_132 : Av.intOf Tryd.prog 132 = some .i64 := by kernel_rfl
@[simp] theorem tyAgg_134 : tyAgg Tryd.prog 134 = some false := by kernel_rfl
@[simp] theorem tySize_134 : tySize Tryd.prog 134 = some 1 := by kernel_rfl
@[simp] theorem isSomeT_134 : Av.isSome Tryd.prog 134 = true := by kernel_rfl
@[simp] theorem isIfaceT_134 : isIface Tryd.prog 134 = false := by kernel_rfl
@[simp] theorem isStrT_134 : isStr Tryd.prog 134 = false := by kernel_rfl
@[simp] theorem zeroC_134 : zeroC Tryd.prog 134 = some [.sc .nilFunc] := by kernel_rfl
@[simp] theorem isPtrT_134 : isPtr Tryd.prog 134 = false := by kernel_rfl
@[simp] theorem isBytesT_134 : isBytes Tryd.prog 134 = false := by kernel_rfl
@[simp] theorem intOfT_134 : Av.intOf Tryd.prog 134 = none := by kernel_rfl
@[simp] theorem tyAgg_135 : tyAgg Tryd.prog 135 = some false := by kernel_rfl
@[simp] theorem tySize_135 : tySize Tryd.prog 135 = some 1 := by kernel_rfl
@[simp] theorem isSomeT_135 : Av.isSome Tryd.prog 135 = true := by kernel_rfl
@[simp] theorem isIfaceT_135 : isIface Tryd.prog 135 = false := by kernel_rfl
@[simp] theorem isStrT_135 : isStr Tryd.prog 135 = false := by kernel_rfl
@[simp] theorem zeroC_135 : zeroC Tryd.prog 135 = some [.sc .nilFunc] := by kernel_rfl
@[simp] theorem isPtrT_135 : isPtr Tryd.prog 135 = false := by kernel_rfl
@[simp] theorem isBytesT_135 : isBytes Tryd.prog 135 = false := by kernel_rfl
@[simp] theorem intOfT_135 : Av.intOf Tryd.prog 135 = none := by kernel_rfl
@[simp] theorem tyAgg_136 : tyAgg Tryd.prog 136 = some false := by kernel_rfl
@[simp] theorem tySize_136 : tySize Tryd.prog 136 = some 1 := by kernel_rfl
@[simp] theorem isSomeT_136 : Av.isSome Tryd.prog 136 = true := by kernel_rfl
@[simp] theorem isIfaceT_136 : isIface Tryd.prog 136 = false := by kernel_rfl
@[simp] theorem isStrT_136 : isStr Tryd.prog 136 = false := by kernel_rfl
@[simp] theorem zeroC_136 : zeroC Tryd.prog 136 = some [.sc .nilFunc] := by kernel_rfl
@[simp] theorem isPtrT_136 : isPtr Tryd.prog 136 = false := by kernel_rfl
@[simp] theorem isBytesT_136 : isBytes Tryd.prog 136 = false := by kernel_rfl
@[simp] theorem intOfT_136 : Av.intOf Tryd.prog 136 = none := by kernel_rfl
@[simp] theorem tyAgg_137 : tyAgg Tryd.prog 137 = some false := by kernel_rfl
@[simp] theorem tySize_137 : tySize Tryd.prog 137 = some 1 := by kernel_rfl
@[simp] theorem isSomeT_137 : Av.isSome Tryd.prog 137 = true := by kernel_rfl
@[simp] theorem isIfaceT_137 : isIface Tryd.prog 137 = false := by kernel_rfl
@[simp] theorem isStrT_137 : isStr Tryd.prog 137 = false := by kernel_rfl
@[simp] theorem zeroC_137 : zeroC Tryd.prog 137 = some [.sc .nilFunc] := by kernel_rfl
@[simp] theorem isPtrT_137 : isPtr Tryd.prog 137 = false := by kernel_rfl
@[simp] theorem isBytesT_137 : isBytes Tryd.prog 137 = false := by kernel_rfl
@[simp] theorem intOfT_137 : Av.intOf Tryd.prog 137 = none := by kernel_rfl
@[simp] theorem tyAgg_138 : tyAgg Tryd.prog 138 = some false := by kernel_rfl
@[simp] theorem tySize_138 : tySize Tryd.prog 138 = some 1 := by kernel_rfl
@[simp] theorem isSomeT_138 : Av.isSome Tryd.prog 138 = true := by kernel_rfl
@[simp] theorem isIfaceT_138 : isIface Tryd.prog 138 = false := by kernel_rfl
@[simp] theorem isStrT_138 : isStr Tryd.prog 138 = false := by kernel_rfl
@[simp] theorem zeroC_138 : zeroC Tryd.prog 138 = some [.sc .nilFunc] := by kernel_rfl
@[simp] theorem isPtrT_138 : isPtr Tryd.prog 138 = false := by kernel_rfl
@[simp] theorem isBytesT_138 : isBytes Tryd.prog 138 = false := by kernel_rfl
@[simp] theorem intOfT_138 : Av.intOf Tryd.prog 138 = none := by kernel_rfl
@[simp] theorem tyAgg_139 : tyAgg Tryd.prog 139 = some false := by kernel_rfl
@[simp] theorem tySize_139 : tySize Tryd.prog 139 = some 1 := by kernel_rfl
@[simp] theorem isSomeT_139 : Av.isSome Tryd.prog 139 = true := by kernel_rfl
@[simp] theorem isIfaceT_139 : isIface Tryd.prog 139 = false := by kernel_rfl
@[simp] theorem isStrT_139 : isStr Tryd.prog 139 = false := by kernel_rfl
@[simp] theorem zeroC_139 : zeroC Tryd.prog 139 = some [.sc (.int .u32 0)] := by kernel_rfl
@[simp] theorem isPtrT_139 : isPtr Tryd.prog 139 = false := by kernel_rfl
@[simp] theorem isBytesT_139 : isBytes Tryd.prog 139 = false := by kernel_rfl
@[simp] theorem intOfT_139 : Av.intOf Tryd.prog 139 = some .u32 := by kernel_rfl
@[simp] theorem tyAgg_140 : tyAgg Tryd.prog 140 = some false := by kernel_rfl
@[simp] theorem tySize_140 : tySize Tryd.prog 140 = some 1 := by kernel_rfl
@[simp] theorem isSomeT_140 : Av.isSome Tryd.prog 140 = true := by kernel_rfl
@[simp] theorem isIfaceT_140 : isIface Tryd.prog 140 = false := by kernel_rfl
@[simp] theorem isStrT_140 : isStr Tryd.prog 140 = false := by kernel_rfl
@[simp] theorem zeroC_140 : zeroC Tryd.prog 140 = some [.sc .nilFunc] := by kernel_rfl
@[simp] theorem isPtrT_140 : isPtr Tryd.prog 140 = false := by kernel_rfl
@[simp] theorem isBytesT_140 : isBytes Tryd.prog 140 = false := by kernel_rfl
@[simp] theorem intOfT_140 : Av.intOf Tryd.prog 140 = none := by kernel_rfl
@[simp] theorem tyAgg_141 : tyAgg Tryd.prog 141 = some false := by kernel_rfl
@[simp] theorem tySize_141 : tySize Tryd.prog 141 = some 1 := by kernel_rfl
@[simp] theorem isSomeT_141 : Av.isSome Tryd.prog 141 = true := by kernel_rfl
@[simp] theorem isIfaceT_141 : isIface Tryd.prog 141 = false := by kernel_rfl
@[simp] theorem isStrT_141 : isStr Tryd.prog 141 = false := by kernel_rfl
@[simp] theorem zeroC_141 : zeroC Tryd.prog 141 = some [.sc (.int .u64 0)] := by kernel_rfl
@[simp] theorem isPtrT_141 : isPtr Tryd.prog 141 = false := by kernel_rfl
@[simp] theorem isBytesT_141 : isBytes Tryd.prog 141 = false := by kernel_rfl
@[simp] theorem intOfT_141 : Av.intOf Tryd.prog 141 = some .u64 := by kernel_rfl
@[simp] theorem tyAgg_142 : tyAgg Tryd.prog 142 = some false := by kernel_rfl
@[simp] theorem tySize_142 : tySize Tryd.prog 142 = some 1 := by kernel_rfl
@[simp] theorem isSomeT_142 : Av.isSome Tryd.prog 142 = true := by kernel_rfl
@[simp] theorem isIfaceT_142 : isIface Tryd.prog 142 = false := by kernel_rfl
@[simp] theorem isStrT_142 : isStr Tryd.prog 142 = false := by kernel_rfl
@[simp] theorem isPtrT_142 : isPtr Tryd.prog 142 = false := by kernel_rfl
@[simp] theorem isBytesT_142 : isBytes Tryd.prog 142 = false := by kernel_rfl
@[simp] theorem intOfT_142 : Av.intOf Tryd.prog 142 = none := by kernel_rfl
@[simp] theorem tyAgg_143 : tyAgg Tryd.prog 143 = some false := by kernel_rfl
@[simp] theorem tySize_143 : tySize Tryd.prog 143 = some 1 := by kernel_rfl
@[simp] theorem isSomeT_143 : Av.isSome Tryd.prog 143 = true := by kernel_rfl
@[simp] theorem isIfaceT_143 : isIface Tryd.prog 143 = false := by kernel_rfl
@[simp] theorem isStrT_143 : isStr Tryd.prog 143 = false := by kernel_rfl
@[simp] theorem zeroC_143 : zeroC Tryd.prog 143 = some [.sc .nilFunc] := by kernel_rfl
@[simp] theorem isPtrT_143 : isPtr Tryd.prog 143 = false := by kernel_rfl
@[simp] theorem isBytesT_143 : isBytes Tryd.prog 143 = false := by kernel_rfl
@[simp] theorem intOfT_143 : Av.intOf Tryd.prog 143 = none := by kernel_rfl
@[simp] theorem tyAgg_144 : tyAgg Tryd.prog 144 = some false := by kernel_rfl
@[simp] theorem tySize_144 : tySize Tryd.prog 144 = some 1 := by kernel_rfl
@[simp] theorem isSomeT_144 : Av.isSome Tryd.prog 144 = true := by kernel_rfl
@[simp] theorem isIfaceT_144 : isIface Tryd.prog 144 = false := by kernel_rfl
@[simp] theorem isStrT_144 : isStr Tryd.prog 144 = false := by kernel_rfl
@[simp] theorem zeroC_144 : zeroC Tryd.prog 144 = some [.sc .nilFunc] := by kernel_rfl
@[simp] theorem isPtrT_144 : isPtr Tryd.prog 144 = false := by kernel_rfl
@[simp] theorem isBytesT_144 : isBytes Tryd.prog 144 = false := by kernel_rfl
@[simp] theorem intOfT_144 : Av.intOf Tryd.prog 144 = none := by kernel_rfl
@[simp] theorem tyAgg_146 : tyAgg Tryd.prog 146 = some false := by kernel_rfl
@[simp] theorem tySize_146 : tySize Tryd.prog 146 = some 1 := by kernel_rfl
@[simp] theorem isSomeT_146 : Av.isSome Tryd.prog 146 = true := by kernel_rfl
@[simp] theorem isIfaceT_146 : isIface Tryd.prog 146 = false := by kernel_rfl
@[simp] theorem isStrT_146 : isStr Tryd.prog 146 = false := by kernel_rfl
@[simp] theorem zeroC_146 : zeroC Tryd.prog 146 = some [.sc .nilFunc] := by kernel_rfl
@[simp] theorem isPtrT_146 : isPtr Tryd.prog 146 = false := by kernel_rfl
@[simp] theorem isBytesT_146 : isBytes Tryd.prog 146 = false := by kernel_rfl
@[simp] theorem intOfT_146 : Av.intOf Tryd.prog 146 = none := by kernel_rfl
@[simp] theorem tyAgg_147 : tyAgg Tryd.prog 147 = some false := by kernel_rfl
@[simp] theorem tySize_147 : tySize Tryd.prog 147 = some 1 := by kernel_rfl
@[simp] theorem isSomeT_147 : Av.isSome Tryd.prog 147 = true := by kernel_rfl
@[simp] theorem isIfaceT_147 : isIface Tryd.prog 147 = false := by kernel_rfl
@[simp] theorem isStrT_147 : isStr Tryd.prog 147 = false := by kernel_rfl
@[simp] theorem zeroC_147 : zeroC Tryd.prog 147 = some [.sc .nilFunc] := by kernel_rfl
@[simp] theorem isPtrT_147 : isPtr Tryd.prog 147 = false := by kernel_rfl
@[simp] theorem isBytesT_147 : isBytes Tryd.prog 147 = false := by kernel_rfl
@[simp] theorem intOfT_147 : Av.intOf Tryd.prog 147 = none := by kernel_rfl
@[simp] theorem tyAgg_148 : tyAgg Tryd.prog 148 = some true := by kernel_rfl
@[simp] theorem tySize_148 : tySize Tryd.prog 148 = some 256 := by kernel_rfl
@[simp] theorem isSomeT_148 : Av.isSome Tryd.prog 148 = true := by kernel_rfl
@[simp] theorem isIfaceT_148 : isIface Tryd.prog 148 = false := by kernel_rfl
@[simp] theorem isStrT_148 : isStr Tryd.prog 148 = false := by kernel_rfl
@[simp] theorem fieldsOk_148 : fieldsOk Tryd.prog 148 = true := by kernel_rfl
@[simp] theorem isPtrT_148 : isPtr Tryd.prog 148 = false := by kernel_rfl
@[simp] theorem isBytesT_148 : isBytes Tryd.prog 148 = false := by kernel_rfl
@[simp] theorem intOfT_148 : Av.intOf Tryd.prog 148 = none := by kernel_rfl
@[simp] theorem tyAgg_149 : tyAgg Tryd.prog 149 = some true := by kernel_rfl
@[simp] theorem tySize_149 : tySize Tryd.prog 149 = some 256 := by kernel_rfl
@[simp] theorem isSomeT_149 : Av.isSome Tryd.prog 149 = true := by kernel_rfl
@[simp] theorem isIfaceT_149 : isIface Tryd.prog 149 = false := by kernel_rfl
@[simp] theorem isStrT_149 : isStr Tryd.prog 149 = false := by kernel_rfl
@[simp] theorem fieldsOk_149 : fieldsOk Tryd.prog 149 = true := by kernel_rfl
@[simp] theorem isPtrT_149 : isPtr Tryd.prog 149 = false := by kernel_rfl
@[simp] theorem isBytesT_149 : isBytes Tryd.prog 149 = false := by kernel_rfl
@[simp] theorem intOfT_149 : Av.intOf Tryd.prog 149 = none := by kernel_rfl
@[simp] theorem tyAgg_151 : tyAgg Tryd.prog 151 = some false := by kernel_rfl
@[simp] theorem tySize_151 : tySize Tryd.prog 151 = some 1 := by kernel_rfl
@[simp] theorem isSomeT_151 : Av.isSome Tryd.prog 151 = true := by kernel_rfl
@[simp] theorem isIfaceT_151 : isIface Tryd.prog 151 = false := by kernel_rfl
@[simp] theorem isStrT_151 : isStr Tryd.prog 151 = false := by kernel_rfl
@[simp] theorem zeroC_151 : zeroC Tryd.prog 151 = some [.sc .nilFunc] := by kernel_rfl
@[simp] theorem isPtrT_151 : isPtr Tryd.prog 151 = false := by kernel_rfl
@[simp] theorem isBytesT_151 : isBytes Tryd.prog 151 = false := by kernel_rfl
@[simp] theorem intOfT_151 : Av.intOf Tryd.prog 151 = none := by kernel_rfl
@[simp] theorem tyAgg_152 : tyAgg Tryd.prog 152 = some false := by kernel_rfl
@[simp] theorem tySize_152 : tySize Tryd.prog 152 = some 1 := by kernel_rfl
@[simp] theorem isSomeT_152 : Av.isSome Tryd.prog 152 = true := by kernel_rfl
@[simp] theorem isIfaceT_152 : isIface Tryd.prog 152 = false := by kernel_rfl
@[simp] theorem isStrT_152 : isStr Tryd.prog 152 = false := by kernel_rfl
@[simp] theorem zeroC_152 : zeroC Tryd.prog 152 = some [.sc .nilFunc] := by kernel_rfl
@[simp] theorem isPtrT_152 : isPtr Tryd.prog 152 = false := by kernel_rfl
@[simp] theorem isBytesT_152 : isBytes Tryd.prog 152 = false := by kernel_rfl
@[simp] theorem intOfT_152 : Av.intOf Tryd.prog 152 = none := by kernel_rfl
@[simp] theorem tyAgg_153 : tyAgg Tryd.prog 153 = some false := by kernel_rfl
@[simp] theorem tySize_153 : tySize Tryd.prog 153 = some 1 := by kernel_rfl
@[simp] theorem isSomeT_153 : Av.isSome Tryd.prog 153 = true := by kernel_rfl
@[simp] theorem isIfaceT_153 : isIface Tryd.prog 153 = false := by kernel_rfl
@[simp] theorem isStrT_153 : isStr Tryd.prog 153 = false := by kernel_rfl
@[simp] theorem zeroC_153 : zeroC Tryd.prog 153 = some [.sc (.pointer none)] := by kernel_rfl
@[simp] theorem isPtrT_153 : isPtr Tryd.prog 153 = true := by kernel_rfl
@[simp] theorem isBytesT_153 : isBytes Tryd.prog 153 = false := by kernel_rfl
@[simp] theorem intOfT_153 : Av.intOf Tryd.prog 153 = none := by kernel_rfl
@[simp] theorem tyAgg_154 : tyAgg Tryd.prog 154 = some false := by kernel_rfl
@[simp] theorem tySize_154 : tySize Tryd.prog 154 = some 1 := by kernel_rfl
@[simp] theorem isSomeT_154 : Av.isSome Tryd.prog 154 = true := by kernel_rfl
@[simp] theorem isIfaceT_154 : isIface Tryd.prog 154 = false := by kernel_rfl
@[simp] theorem isStrT_154 : isStr Tryd.prog 154 = false := by kernel_rfl
@[simp] theorem zeroC_154 : zeroC Tryd.prog 154 = some [.sc .nilFunc] := by kernel_rfl
@[simp] theorem isPtrT_154 : isPtr Tryd.prog 154 = false := by kernel_rfl
@[simp] theorem isBytesT_154 : isBytes Tryd.prog 154 = false := by kernel_rfl
@[simp] theorem intOfT_154 : Av.intOf Tryd.prog 154 = none := by kernel_rfl
@[simp] theorem tyAgg_155 : tyAgg Tryd.prog 155 = some false := by kernel_rfl
@[simp] theorem tySize_155 : tySize Tryd.prog 155 = some 1 := by kernel_rfl
@[simp] theorem isSomeT_155 : Av.isSome Tryd.prog 155 = true := by kernel_rfl
@[simp] theorem isIfaceT_155 : isIface Tryd.prog 155 = false := by kernel_rfl
@[simp] theorem isStrT_155 : isStr Tryd.prog 155 = false := by kernel_rfl
@[simp] theorem zeroC_155 : zeroC Tryd.prog 155 = some [.sc (.int .u64 0)] := by kernel_rfl
@[simp] theorem isPtrT_155 : isPtr Tryd.prog 155 = false := by kernel_rfl
@[simp] theorem isBytesT_155 : isBytes Tryd.prog 155 = false := by kernel_rfl
@[simp] theorem intOfT_155 : Av.intOf Tryd.prog 155 = some .u64 := by kernel_rfl
@[simp] theorem tyAgg_156 : tyAgg Tryd.prog 156 = some false := by kernel_rfl
@[simp] theorem tySize_156 : tySize Tryd.prog 156 = some 1 := by kernel_rfl
@[simp] theorem isSomeT_156 : Av.isSome Tryd.prog 156 = true := by kernel_rfl
@[simp] theorem isIfaceT_156 : isIface Tryd.prog 156 = false := by kernel_rfl
@[simp] theorem isStrT_156 : isStr Tryd.prog 156 = false := by kernel_rfl
@[simp] theorem zeroC_156 : zeroC Tryd.prog 156 = some [.sc .nilFunc] := by kernel_rfl
@[simp] theorem isPtrT_156 : isPtr Tryd.prog 156 = false := by kernel_rfl
@[simp] theorem isBytesT_156 : isBytes Tryd.prog 156 = false := by kernel_rfl
@[simp] theorem intOfT_156 : Av.intOf Tryd.prog 156 = none := by kernel_rfl
@[simp] theorem tyAgg_157 : tyAgg Tryd.prog 157 = some false := by kernel_rfl
@[simp] theorem tySize_157 : tySize Tryd.prog 157 = some 1 := by kernel_rfl
@[simp] theorem isSomeT_157 : Av.isSome Tryd.prog 157 = true := by kernel_rfl
@[simp] theorem isIfaceT_157 : isIface Tryd.prog 157 = false := by kernel_rfl
@[simp] theorem isStrT_157 : isStr Tryd.prog 157 = false := by kernel_rfl
@[simp] theorem zeroC_157 : zeroC Tryd.prog 157 = some [.sc .nilFunc] := by kernel_rfl
@[simp] theorem isPtrT_157 : isPtr Tryd.prog 157 = false := by kernel_rfl
@[simp] theorem isBytesT_157 : isBytes Tryd.prog 157 = false := by kernel_rfl
@[simp] theorem intOfT_157 : Av.intOf Tryd.prog 157 = none := by kernel_rfl
@[simp] theorem tyAgg_158 : tyAgg Tryd.prog 158 = some false := by kernel_rfl
@[simp] theorem tySize_158 : tySize Tryd.prog 158 = some 1 := by kernel_rfl
@[simp] theorem isSomeT_158 : Av.isSome Tryd.prog 158 = true := by kernel_rfl
@[simp] theorem isIfaceT_158 : isIface Tryd.prog 158 = false := by kernel_rfl
@[simp] theorem isStrT_158 : isStr Tryd.prog 158 = false := by kernel_rfl
@[simp] theorem zeroC_158 : zeroC Tryd.prog 158 = some [.sc .nilFunc] := by kernel_rfl
@[simp] theorem isPtrT_158 : isPtr Tryd.prog 158 = false := by kernel_rfl
@[simp] theorem isBytesT_158 : isBytes Tryd.prog 158 = false := by kernel_rfl
@[simp] theorem intOfT_158 : Av.intOf Tryd.prog 158 = none := by kernel_rfl
@[simp] theorem tyAgg_159 : tyAgg Tryd.prog 159 = some false := by kernel_rfl
@[simp] theorem tySize_159 : tySize Tryd.prog 159 = some 1 := by kernel_rfl
@[simp] theorem isSomeT_159 : Av.isSome Tryd.prog 159 = true := by kernel_rfl
@[simp] theorem isIfaceT_159 : isIface Tryd.prog 159 = false := by kernel_rfl
@[simp] theorem isStrT_159 : isStr Tryd.prog 159 = false := by kernel_rfl
@[simp] theorem zeroC_159 : zeroC Tryd.prog 159 = some [.sc .nilFunc] := by kernel_rfl
@[simp] theorem isPtrT_159 : isPtr Tryd.prog 159 = false := by kernel_rfl
@[simp] theorem isBytesT_159 : isBytes Tryd.prog 159 = false := by kernel_rfl
@[simp] theorem intOfT_159 : Av.intOf Tryd.prog 159 = none := by kernel_rfl
@[simp] theorem tyAgg_160 : tyAgg Tryd.prog 160 = some false := by kernel_rfl
@[simp] theorem tySize_160 : tySize Tryd.prog 160 = some 1 := by kernel_rfl
@[simp] theorem isSomeT_160 : Av.isSome Tryd.prog 160 = true := by kernel_rfl
@[simp] theorem isIfaceT_160 : isIface Tryd.prog 160 = false := by kernel_rfl
@[simp] theorem isStrT_160 : isStr Tryd.prog 160 = false := by kernel_rfl
@[simp] theorem zeroC_160 : zeroC Tryd.prog 160 = some [.sc .nilFunc] := by kernel_rfl
@[simp] theorem isPtrT_160 : isPtr Tryd.prog 160 = false := by kernel_rfl
@[simp] theorem isBytesT_160 : isBytes Tryd.prog 160 = false := by kernel_rfl
@[simp] theorem intOfT_160 : Av.intOf Tryd.prog 160 = none := by kernel_rfl
@[simp] theorem tyAgg_161 : tyAgg Tryd.prog 161 = some false := by kernel_rfl
@[simp] theorem tySize_161 : tySize Tryd.prog 161 = some 1 := by kernel_rfl
@[simp] theorem isSomeT_161 : Av.isSome Tryd.prog 161 = true := by kernel_rfl
@[simp] theorem isIfaceT_161 : isIface Tryd.prog 161 = false := by kernel_rfl
@[simp] theorem isStrT_161 : isStr Tryd.prog 161 = false := by kernel_rfl
@[simp] theorem zeroC_161 : zeroC Tryd.prog 161 = some [.sc (.pointer none)] := by kernel_rfl
@[simp] theorem isPtrT_161 : isPtr Tryd.prog 161 = true := by kernel_rfl
@[simp] theorem isBytesT_161 : isBytes Tryd.prog 161 = false := by kernel_rfl
@[simp] theorem intOfT_161 : Av.intOf Tryd.prog 161 = none := by kernel_rfl
@[simp] theorem tyAgg_162 : tyAgg Tryd.prog 162 = some false := by kernel_rfl
@[simp] theorem tySize_162 : tySize Tryd.prog 162 = some 1 := by kernel_rfl
@[simp] theorem isSomeT_162 : Av.isSome Tryd.prog 162 = true := by kernel_rfl
@[simp] theorem isIfaceT_162 : isIface Tryd.prog 162 = false := by kernel_rfl
@[simp] theorem isStrT_162 : isStr Tryd.prog 162 = false := by kernel_rfl
@[simp] theorem zeroC_162 : zeroC Tryd.prog 162 = some [.sc .nilFunc] := by kernel_rfl
@[simp] theorem isPtrT_162 : isPtr Tryd.prog 162 = false := by kernel_rfl
@[simp] theorem isBytesT_162 : isBytes Tryd.prog 162 = false := by kernel_rfl
@[simp] theorem intOfT_162 : Av.intOf Tryd.prog 162 = none := by kernel_rfl
@[simp] theorem tyAgg_163 : tyAgg Tryd.prog 163 = some true := by kernel_rfl
@[simp] theorem tySize_163 : tySize Tryd.prog 163 = some 256 := by kernel_rfl
@[simp] theorem isSomeT_163 : Av.isSome Tryd.prog 163 = true := by kernel_rfl
@[simp] theorem isIfaceT_163 : isIface Tryd.prog 163 = false := by kernel_rfl
@[simp] theorem isStrT_163 : isStr Tryd.prog 163 = false := by kernel_rfl
@[simp] theorem fieldsOk_163 : fieldsOk Tryd.prog 163 = true := by kernel_rfl
@[simp] theorem isPtrT_163 : isPtr Tryd.prog 163 = false := by kernel_rfl
@[simp] theorem isBytesT_163 : isBytes Tryd.prog 163 = false := by kernel_rfl
@[simp] theorem intOfT_163 : Av.intOf Tryd.prog 163 = none := by kernel_rfl
@[simp] theorem tyAgg_164 : tyAgg Tryd.prog 164 = some true := by kernel_rfl
@[simp] theorem tySize_164 : tySize Tryd.prog 164 = some 2 := by kernel_rfl
@[simp] theorem isSomeT_164 : Av.isSome Tryd.prog 164 = true := by kernel_rfl
@[simp] theorem isIfaceT_164 : isIface Tryd.prog 164 = false := by kernel_rfl
@[simp] theorem isStrT_164 : isStr Tryd.prog 164 = false := by kernel_rfl
@[simp] theorem zeroC_164 : zeroC Tryd.prog 164 = some [.sc (.int .u8 0), .sc (.int .u8 0)] := by kernel_rfl
@[simp] theorem fieldsOk_164 : fieldsOk Tryd.prog 164 = true := by kernel_rfl
@[simp] theorem isPtrT_164 : isPtr Tryd.prog 164 = false := by kernel_rfl
@[simp] theorem fldL_164 : fldL Tryd.prog 164 = some [(0, 5), (1, 5)] := by kernel_rfl
@[simp] theorem eqOkT_164 : eqOkT Tryd.prog 164 = true := by kernel_rfl
@[simp] theorem placeP_164_0 : placeP Tryd.prog 164 0 = some (0, 1) := by kernel_rfl
@[simp] theorem placeP_164_1 : placeP Tryd.prog 164 1 = some (1, 1) := by kernel_rfl
@[simp] theorem fld_164_0 : fld Tryd.prog 164 0 = some (0, 1, false) := by kernel_rfl
@[simp] theorem fld_164_1 : fld Tryd.prog 164 1 = some (1, 1, false) := by kernel_rfl
@[simp] theorem isBytesT_164 : isBytes Tryd.prog 164 = false := by kernel_rfl
@[simp] theorem intOfT_164 : Av.intOf Tryd.prog 164 = none := by kernel_rfl
@[simp] theorem tyAgg_165 : tyAgg Tryd.prog 165 = some true := by kernel_rfl
@[simp] theorem tySize_165 : tySize Tryd.prog 165 = some 2 := by kernel_rfl
@[simp] theorem isSomeT_165 : Av.isSome Tryd.prog 165 = true := by kernel_rfl
@[simp] theorem isIfaceT_165 : isIface Tryd.prog 165 = false := by kernel_rfl
@[simp] theorem isStrT_165 : isStr Tryd.prog 165 = false := by kernel_rfl
@[simp] theorem zeroC_165 : zeroC Tryd.prog 165 = some [.sc (.int .u8 0), .sc (.int .u8 0)] := by kernel_rfl
@[simp] theorem fieldsOk_165 : fieldsOk Tryd.prog 165 = true := by kernel_rfl
@[simp] theorem isPtrT_165 : isPtr Tryd.prog 165 = false := by kernel_rfl
@[simp] theorem fldL_165 : fldL Tryd.prog 165 = some [(0, 5), (1, 5)] := by kernel_rfl
@[simp] theorem eqOkT_165 : eqOkT Tryd.prog 165 = true := by kernel_rfl
@[simp] theorem placeP_165_0 : placeP Tryd.prog 165 0 = some (0, 1) := by kernel_rfl
@[simp] theorem placeP_165_1 : placeP Tryd.prog 165 1 = some (1, 1) := by kernel_rfl
@[simp] theorem fld_165_0 : fld Tryd.prog 165 0 = some (0, 1, false) := by kernel_rfl
@[simp] theorem fld_165_1 : fld Tryd.prog 165 1 = some (1, 1, false) := by kernel_rfl
@[simp] theorem isBytesT_165 : isBytes Tryd.prog 165 = false := by kernel_rfl
@[simp] theorem intOfT_165 : Av.intOf Tryd.prog 165 = none := by kernel_rfl
@[simp] theorem tyAgg_166 : tyAgg Tryd.prog 166 = some true := by kernel_rfl
@[simp] theorem tySize_166 : tySize Tryd.prog 166 = some 32 := by kernel_rfl
@[simp] theorem isSomeT_166 : Av.isSome Tryd.prog 166 = true := by kernel_rfl
@[simp] theorem isIfaceT_166 : isIface Tryd.prog 166 = false := by kernel_rfl
@[simp] theorem isStrT_166 : isStr Tryd.prog 166 = false := by kernel_rfl
@[simp] theorem zeroC_166 : zeroC Tryd.prog 166 = some [.sc (.int .u8 0), .sc (.int .u8 0), .sc (.int .u8 0), .sc (.int .u8 0), .sc (.int .u8 0), .sc (.int .u8 0), .sc (.int .u8 0), .sc (.int .u8 0), .sc (.int .u8 0), .sc (.int .u8 0), .sc (.int .u8 0), .sc (.int .u8 0), .sc (.int .u8 0), .sc (.int .u8 0), .sc (.int .u8 0), .sc (.int .u8 0), .sc (.int .u8 0), .sc (.int .u8 0), .sc (.int .u8 0), .sc (.int .u8 0), .sc (.int .u8 0), .sc (.int .u8 0), .sc (.int .u8 0), .sc (.int .u8 0), .sc (.int .u8 0), .sc (.int .u8 0), .sc (.int .u8 0), .sc (.int .u8 0), .sc (.int .u8 0), .sc (.int .u8 0), .sc (.int .u8 0), .sc (.int .u8 0)] := by kernel_rfl
@[simp] theorem fieldsOk_166 : fieldsOk Tryd.prog 166 = true := by kernel_rfl
@[simp] theorem isPtrT_166 : isPtr Tryd.prog 166 = false := by kernel_rfl
@[simp] theorem isBytesT_166 : isBytes Tryd.prog 166 = false := by kernel_rfl
@[simp] theorem intOfT_166 : Av.intOf Tryd.prog 166 = none := by kernel_rfl
@[simp] theorem tyAgg_168 : tyAgg Tryd.prog 168 = some false := by kernel_rfl
@[simp] theorem tySize_168 : tySize Tryd.prog 168 = some 1 := by kernel_rfl
@[simp] theorem isSomeT_168 : Av.isSome Tryd.prog 168 = true := by kernel_rfl
@[simp] theorem isIfaceT_168 : isIface Tryd.prog 168 = false := by kernel_rfl
@[simp] theorem isStrT_168 : isStr Tryd.prog 168 = false := by kernel_rfl
@[simp] theorem zeroC_168 : zeroC Tryd.prog 168 = some [.sc .nilFunc] := by kernel_rfl
@[simp] theorem isPtrT_168 : isPtr Tryd.prog 168 = false := by kernel_rfl
@[simp] theorem isBytesT_168 : isBytes Tryd.prog 168 = false := by kernel_rfl
@[simp] theorem intOfT_168 : Av.intOf Tryd.prog 168 = none := by kernel_rfl
@[simp] theorem tyAgg_169 : tyAgg Tryd.prog 169 = some false := by kernel_rfl
@[simp] theorem tySize_169 : tySize Tryd.prog 169 = some 1 := by kernel_rfl
@[simp] theorem isSomeT_169 : Av.isSome Tryd.prog 169 = true := by kernel_rfl
@[simp] theorem isIfaceT_169 : isIface Tryd.prog 169 = false := by kernel_rfl
@[simp] theorem isStrT_169 : isStr Tryd.prog 169 = false := by kernel_rfl
@[simp] theorem zeroC_169 : zeroC Tryd.prog 169 = some [.sc .nilFunc] := by kernel_rfl
@[simp] theorem isPtrT_169 : isPtr Tryd.prog 169 = false := by kernel_rfl
@[simp] theorem isBytesT_169 : isBytes Tryd.prog 169 = false := by kernel_rfl
@[simp] theorem intOfT_169 : Av.intOf Tryd.prog 169 = none := by kernel_rfl
@[simp] theorem tyAgg_170 : tyAgg Tryd.prog 170 = some false := by kernel_rfl
@[simp] theorem tySize_170 : tySize Tryd.prog 170 = some 1 := by kernel_rfl
@[simp] theorem isSomeT_170 : Av.isSome Tryd.prog 170 = true := by kernel_rfl
@[simp] theorem isIfaceT_170 : isIface Tryd.prog 170 = false := by kernel_rfl
@[simp] theorem isStrT_170 : isStr Tryd.prog 170 = false := by kernel_rfl
@[simp] theorem zeroC_170 : zeroC Tryd.prog 170 = some [.sc .nilFunc] := by kernel_rfl
@[simp] theorem isPtrT_170 : isPtr Tryd.prog 170 = false := by kernel_rfl
@[simp] theorem isBytesT_170 : isBytes Tryd.prog 170 = false := by kernel_rfl
@[simp] theorem intOfT_170 : Av.intOf Tryd.prog 170 = none := by kernel_rfl
@[simp] theorem tyAgg_171 : tyAgg Tryd.prog 171 = some true := by kernel_rfl
@[simp] theorem tySize_171 : tySize Tryd.prog 171 = some 4 := by kernel_rfl
@[simp] theorem isSomeT_171 : Av.isSome Tryd.prog 171 = true := by kernel_rfl
@[simp] theorem isIfaceT_171 : isIface Tryd.prog 171 = false := by kernel_rfl
@[simp] theorem isStrT_171 : isStr Tryd.prog 171 = false := by kernel_rfl
@[simp] theorem zeroC_171 : zeroC Tryd.prog 171 = some [.sc (.pointer none), .sc (.pointer none), .sc (.pointer none), .str []] := by kernel_rfl
@[simp] theorem fieldsOk_171 : fieldsOk Tryd.prog 171 = true := by kernel_rfl
@[simp] theorem isPtrT_171 : isPtr Tryd.prog 171 = false := by kernel_rfl
@[simp] theorem placeP_171_0 : placeP Tryd.prog 171 0 = some (0, 1) := by kernel_rfl
@[simp] theorem placeP_171_1 : placeP Tryd.prog 171 1 = some (1, 1) := by kernel_rfl
@[simp] theorem placeP_171_2 : placeP Tryd.prog 171 2 = some (2, 1) := by kernel_rfl
@[simp] theorem placeP_171_3 : placeP Tryd.prog 171 3 = some (3, 1) := by kernel_rfl
@[simp] theorem fld_171_0 : fld Tryd.prog 171 0 = some (0, 1, false) := by kernel_rfl
@[simp] theorem fld_171_1 : fld Tryd.prog 171 1 = some (1, 1, false) := by kernel_rfl
@[simp] theorem fld_171_2 : fld Tryd.prog 171 2 = some (2, 1, false) := by kernel_rfl
@[simp] theorem fld_171_3 : fld Tryd.prog 171 3 = some (3, 1, false) := by kernel_rfl
@[simp] theorem isBytesT_171 : isBytes Tryd.prog 171 = false := by kernel_rfl
@[simp] theorem intOfT_171 : Av.intOf Tryd.prog 171 = none := by kernel_rfl
@[simp] theorem tyAgg_172 : tyAgg Tryd.prog 172 = some true := by kernel_rfl
@[simp] theorem tySize_172 : tySize Tryd.prog 172 = some 4 := by kernel_rfl
@[simp] theorem isSomeT_172 : Av.isSome Tryd.prog 172 = true := by kernel_rfl
@[simp] theorem isIfaceT_172 : isIface Tryd.prog 172 = false := by kernel_rfl
@[simp] theorem isStrT_172 : isStr Tryd.prog 172 = false := by kernel_rfl
@[simp] theorem zeroC_172 : zeroC Tryd.prog 172 = some [.sc (.pointer none), .sc (.pointer none), .sc (.pointer none), .str []] := by kernel_rfl
@[simp] theorem fieldsOk_172 : fieldsOk Tryd.prog 172 = true := by kernel_rfl
@[simp] theorem isPtrT_172 : isPtr Tryd.prog 172 = false := by kernel_rfl
@[simp] theorem placeP_172_0 : placeP Tryd.prog 172 0 = some (0, 1) := by kernel_rfl
@[simp] theorem placeP_172_1 : placeP Tryd.prog 172 1 = some (1, 1) := by kernel_rfl
@[simp] theorem placeP_172_2 : placeP Tryd.prog 172 2 = some (2, 1) := by kernel_rfl
@[simp] theorem placeP_172_3 : placeP Tryd.prog 172 3 = some (3, 1) := by kernel_rfl
@[simp] theorem fld_172_0 : fld Tryd.prog 172 0 = some (0, 1, false) := by kernel_rfl
@[simp] theorem fld_172_1 : fld Tryd.prog 172 1 = some (1, 1, false) := by kernel_rfl
@[simp] theorem fld_172_2 : fld Tryd.prog 172 2 = some (2, 1, false) := by kernel_rfl
@[simp] theorem fld_172_3 : fld Tryd.prog 172 3 = some (3, 1, false) := by kernel_rfl
@[simp] theorem isBytesT_172 : isBytes Tryd.prog 172 = false := by kernel_rfl
@[simp] theorem intOfT_172 : Av.intOf Tryd.prog 172 = none := by kernel_rfl
@[simp] theorem tyAgg_173 : tyAgg Tryd.prog 173 = some true := by kernel_rfl
@[simp] theorem tySize_173 : tySize Tryd.prog 173 = some 0 := by kernel_rfl
@[simp] theorem isSomeT_173 : Av.isSome Tryd.prog 173 = true := by kernel_rfl
@[simp] theorem isIfaceT_173 : isIface Tryd.prog 173 = false := by kernel_rfl
@[simp] theorem isStrT_173 : isStr Tryd.prog 173 = false := by kernel_rfl
@[simp] theorem zeroC_173 : zeroC Tryd.prog 173 = some [] := by kernel_rfl
@[simp] theorem fieldsOk_173 : fieldsOk Tryd.prog 173 = true := by kernel_rfl
@[simp] theorem isPtrT_173 : isPtr Tryd.prog 173 = false := by kernel_rfl
@[simp] theorem isBytesT_173 : isBytes Tryd.prog 173 = false := by kernel_rfl
@[simp] theorem intOfT_173 : Av.intOf Tryd.prog 173 = none := by kernel_rfl
@[simp] theorem tyAgg_174 : tyAgg Tryd.prog 174 = some true := by kernel_rfl
@[simp] theorem tySize_174 : tySize Tryd.prog 174 = some 0 := by kernel_rfl
@[simp] theorem isSomeT_174 : Av.isSome Tryd.prog 174 = true := by kernel_rfl
@[simp] theorem isIfaceT_174 : isIface Tryd.prog 174 = false := by kernel_rfl
@[simp] theorem isStrT_174 : isStr Tryd.prog 174 = false := by kernel_rfl
@[simp] theorem zeroC_174 : zeroC Tryd.prog 174 = some [] := by kernel_rfl
@[simp] theorem fieldsOk_174 : fieldsOk Tryd.prog 174 = true := by kernel_rfl
@[simp] theorem isPtrT_174 : isPtr Tryd.prog 174 = false := by kernel_rfl
@[simp] theorem placeP_174_0 : placeP Tryd.prog 174 0 = some (0, 0) := by kernel_rfl
@[simp] theorem fld_174_0 : fld Tryd.prog 174 0 = some (0, 0, true) := by kernel_rfl
@[simp] theorem isBytesT_174 : isBytes Tryd.prog 174 = false := by kernel_rfl
@[simp] theorem intOfT_174 : Av.intOf Tryd.prog 174 = none := by kernel_rfl
@[simp] theorem tyAgg_175 : tyAgg Tryd.prog 175 = some true := by kernel_rfl
@[simp] theorem tySize_175 : tySize Tryd.prog 175 = some 0 := by kernel_rfl
@[simp] theorem isSomeT_175 : Av.isSome Tryd.prog 175 = true := by kernel_rfl
@[simp] theorem isIfaceT_175 : isIface Tryd.prog 175 = false := by kernel_rfl
@[simp] theorem isStrT_175 : isStr Tryd.prog 175 = false := by kernel_rfl
@[simp] theorem zeroC_175 : zeroC Tryd.prog 175 = some [] := by kernel_rfl
@[simp] theorem fieldsOk_175 : fieldsOk Tryd.prog 175 = true := by kernel_rfl
@[simp] theorem isPtrT_175 : isPtr Tryd.prog 175 = false := by kernel_rfl
@[simp] theorem placeP_175_0 : placeP Tryd.prog 175 0 = some (0, 0) := by kernel_rfl
@[simp] theorem fld_175_0 : fld Tryd.prog 175 0 = some (0, 0, true) := by kernel_rfl
@[simp] theorem isBytesT_175 : isBytes Tryd.prog 175 = false := by kernel_rfl
@[simp] theorem intOfT_175 : Av.intOf Tryd.prog 175 = none := by kernel_rfl
@[simp] theorem tyAgg_176 : tyAgg Tryd.prog 176 = some false := by kernel_rfl
@[simp] theorem tySize_176 : tySize Tryd.prog 176 = some 1 := by kernel_rfl
@[simp] theorem isSomeT_176 : Av.isSome Tryd.prog 176 = true := by kernel_rfl
@[simp] theorem isIfaceT_176 : isIface Tryd.prog 176 = false := by kernel_rfl
@[simp] theorem isStrT_176 : isStr Tryd.prog 176 = false := by kernel_rfl
@[simp] theorem zeroC_176 : zeroC Tryd.prog 176 = some [.sc .nilFunc] := by kernel_rfl
@[simp] theorem isPtrT_176 : isPtr Tryd.prog 176 = false := by kernel_rfl
@[simp] theorem isBytesT_176 : isBytes Tryd.prog 176 = false := by kernel_rfl
@[simp] theorem intOfT_176 : Av.intOf Tryd.prog 176 = none := by kernel_rfl
@[simp] theorem tyAgg_177 : tyAgg Tryd.prog 177 = some false := by kernel_rfl
@[simp] theorem tySize_177 : tySize Tryd.prog 177 = some 1 := by kernel_rfl
@[simp] theorem isSomeT_177 : Av.isSome Tryd.prog 177 = true := by kernel_rfl
@[simp] theorem isIfaceT_177 : isIface Tryd.prog 177 = false := by kernel_rfl
@[simp] theorem isStrT_177 : isStr Tryd.prog 177 = false := by kernel_rfl
@[simp] theorem zeroC_177 : zeroC Tryd.prog 177 = some [.sc (.int .u8 0)] := by kernel_rfl
@[simp] theorem isPtrT_177 : isPtr Tryd.prog 177 = false := by kernel_rfl
@[simp] theorem isBytesT_177 : isBytes Tryd.prog 177 = false := by kernel_rfl
@[simp] theorem intOfT_177 : Av.intOf Tryd.prog 177 = some .u8 := by kernel_rfl
@[simp] theorem tyAgg_178 : tyAgg Tryd.prog 178 = some false := by kernel_rfl
@[simp] theorem tySize_178 : tySize Tryd.prog 178 = some 1 := by kernel_rfl
@[simp] theorem isSomeT_178 : Av.isSome Tryd.prog 178 = true := by kernel_rfl
@[simp] theorem isIfaceT_178 : isIface Tryd.prog 178 = false := by kernel_rfl
@[simp] theorem isStrT_178 : isStr Tryd.prog 178 = false := by kernel_rfl
@[simp] theorem zeroC_178 : zeroC Tryd.prog 178 = some [.sc (.int .u8 0)] := by kernel_rfl
@[simp] theorem isPtrT_178 : isPtr Tryd.prog 178 = false := by kernel_rfl
@[simp] theorem isBytesT_178 : isBytes Tryd.prog 178 = false := by kernel_rfl
@[simp] theorem intOfT_178 : Av.intOf Tryd.prog 178 = some .u8 := by kernel_rfl
@[simp] theorem tyAgg_179 : tyAgg Tryd.prog 179 = some false := by kernel_rfl
@[simp] theorem tySize_179 : tySize Tryd.prog 179 = some 1 := by kernel_rfl
@[simp] theorem isSomeT_179 : Av.isSome Tryd.prog 179 = true := by kernel_rfl
@[simp] theorem isIfaceT_179 : isIface Tryd.prog 179 = false := by kernel_rfl
@[simp] theorem isStrT_179 : isStr Tryd.prog 179 = false := by kernel_rfl
@[simp] theorem zeroC_179 : zeroC Tryd.prog 179 = some [.sc .nilFunc] := by kernel_rfl
@[simp] theorem isPtrT_179 : isPtr Tryd.prog 179 = false := by kernel_rfl
@[simp] theorem isBytesT_179 : isBytes Tryd.prog 179 = false := by kernel_rfl
@[simp] theorem intOfT_179 : Av.intOf Tryd.prog 179 = none := by kernel_rfl
@[simp] theorem tyAgg_180 : tyAgg Tryd.prog 180 = some false := by kernel_rfl
@[simp] theorem tySize_180 : tySize Tryd.prog 180 = some 1 := by kernel_rfl
@[simp] theorem isSomeT_180 : Av.isSome Tryd.prog 180 = true := by kernel_rfl
@[simp] theorem isIfaceT_180 : isIface Tryd.prog 180 = false := by kernel_rfl
@[simp] theorem isStrT_180 : isStr Tryd.prog 180 = false := by kernel_rfl
@[simp] theorem zeroC_180 : zeroC Tryd.prog 180 = some [.sc (.int .i32 0)] := by kernel_rfl
@[simp] theorem isPtrT_180 : isPtr Tryd.prog 180 = false := by kernel_rfl
@[simp] theorem isBytesT_180 : isBytes Tryd.prog 180 = false := by kernel_rfl
@[simp] theorem intOfT_180 : Av.intOf Tryd.prog 180 = some .i32 := by kernel_rfl
@[simp] theorem tyAgg_181 : tyAgg Tryd.prog 181 = some false := by kernel_rfl
@[simp] theorem tySize_181 : tySize Tryd.prog 181 = some 1 := by kernel_rfl
@[simp] theorem isSomeT_181 : Av.isSome Tryd.prog 181 = true := by kernel_rfl
@[simp] theorem isIfaceT_181 : isIface Tryd.prog 181 = false := by kernel_rfl
@[simp] theorem isStrT_181 : isStr Tryd.prog 181 = false := by kernel_rfl
@[simp] theorem zeroC_181 : zeroC Tryd.prog 181 = some [.sc (.int .i32 0)] := by kernel_rfl
@[simp] theorem isPtrT_181 : isPtr Tryd.prog 181 = false := by kernel_rfl
@[simp] theorem isBytesT_181 : isBytes Tryd.prog 181 = false := by kernel_rfl
@[simp] theorem intOfT_181 : Av.intOf Tryd.prog 181 = some .i32 := by kernel_rfl
@[simp] theorem tyAgg_182 : tyAgg Tryd.prog 182 = some true := by kernel_rfl
@[simp] theorem tySize_182 : tySize Tryd.prog 182 = some 11 := by kernel_rfl
@[simp] theorem isSomeT_182 : Av.isSome Tryd.prog 182 = true := by kernel_rfl
@[simp] theorem isIfaceT_182 : isIface Tryd.prog 182 = false := by kernel_rfl
@[simp] theorem isStrT_182 : isStr Tryd.prog 182 = false := by kernel_rfl
@[simp] theorem zeroC_182 : zeroC Tryd.prog 182 = some [.sc (.int .u64 0), .sc (.int .u64 0), .sc (.int .u32 0), .sc (.int .u8 0), .sc (.int .u8 0), .sc (.int .u8 0), .sc (.int .u8 0), .sc .nilFunc, .sc (.pointer none), .sc (.int .i32 0), .sc (.int .i32 0)] := by kernel_rfl
@[simp] theorem fieldsOk_182 : fieldsOk Tryd.prog 182 = true := by kernel_rfl
@[simp] theorem isPtrT_182 : isPtr Tryd.prog 182 = false := by kernel_rfl
@[simp] theorem placeP_182_0 : placeP Tryd.prog 182 0 = some (0, 1) := by kernel_rfl
@[simp] theorem placeP_182_1 : placeP Tryd.prog 182 1 = some (1, 1) := by kernel_rfl
@[simp] theorem placeP_182_2 : placeP Tryd.prog 182 2 = some (2, 1) := by kernel_rfl
@[simp] theorem placeP_182_3 : placeP Tryd.prog 182 3 = some (3, 1) := by kernel_rfl
@[simp] theorem placeP_182_4 : placeP Tryd.prog 182 4 = some (4, 1) := by kernel_rfl
@[simp] theorem placeP_182_5 : placeP Tryd.prog 182 5 = some (5, 1) := by kernel_rfl
@[simp] theorem placeP_182_6 : placeP Tryd.prog 182 6 = some (6, 1) := by kernel_rfl
@[simp] theorem placeP_182_7 : placeP Tryd.prog 182 7 = some (7, 1) := by kernel_rfl
@[simp] theorem placeP_182_8 : placeP Tryd.prog 182 8 = some (8, 1) := by kernel_rfl
@[simp] theorem placeP_182_9 : placeP Tryd.prog 182 9 = some (9, 1) := by kernel_rfl
@[simp] theorem placeP_182_10 : placeP Tryd.prog 182 10 = some (10, 1) := by kernel_rfl
@[simp] theorem fld_182_0 : fld Tryd.prog 182 0 = some (0, 1, false) := by kernel_rfl
@[simp] theorem fld_182_1 : fld Tryd.prog 182 1 = some (1, 1, false) := by kernel_rfl
@[simp] theorem fld_182_2 : fld Tryd.prog 182 2 = some (2, 1, false) := by kernel_rfl
@[simp] theorem fld_182_3 : fld Tryd.prog 182 3 = some (3, 1, false) := by kernel_rfl
@[simp] theorem fld_182_4 : fld Tryd.prog 182 4 = some (4, 1, false) := by kernel_rfl
@[simp] theorem fld_182_5 : fld Tryd.prog 182 5 = some (5, 1, false) := by kernel_rfl
@[simp] theorem fld_182_6 : fld Tryd.prog 182 6 = some (6, 1, false) := by kernel_rfl
@[simp] theorem fld_182_7 : fld Tryd.prog 182 7 = some (7, 1, false) := by kernel_rfl
@[simp] theorem fld_182_8 : fld Tryd.prog 182 8 = some (8, 1, false) := by kernel_rfl
@[simp] theorem fld_182_9 : fld Tryd.prog 182 9 = some (9, 1, false) := by kernel_rfl
@[simp] theorem fld_182_10 : fld Tryd.prog 182 10 = some (10, 1, false) := by kernel_rfl
@[simp] theorem isBytesT_182 : isBytes Tryd.prog 182 = false := by kernel_rfl
@[simp] theorem intOfT_182 : Av.intOf Tryd.prog 182 = none := by kernel_rfl
@[simp] theorem tyAgg_183 : tyAgg Tryd.prog 183 = some true := by kernel_rfl
@[simp] theorem tySize_183 : tySize Tryd.prog 183 = some 11 := by kernel_rfl
@[simp] theorem isSomeT_183 : Av.isSome Tryd.prog 183 = true := by kernel_rfl
@[simp] theorem isIfaceT_183 : isIface Tryd.prog 183 = false := by kernel_rfl
@[simp] theorem isStrT_183 : isStr Tryd.prog 183 = false := by kernel_rfl
@[simp] theorem zeroC_183 : zeroC Tryd.prog 183 = some [.sc (.int .u64 0), .sc (.int .u64 0), .sc (.int .u32 0), .sc (.int .u8 0), .sc (.int .u8 0), .sc (.int .u8 0), .sc (.int .u8 0), .sc .nilFunc, .sc (.pointer none), .sc (.int .i32 0), .sc (.int .i32 0)] := by kernel_rfl
@[simp] theorem fieldsOk_183 : fieldsOk Tryd.prog 183 = true := by kernel_rfl
@[simp] theorem isPtrT_183 : isPtr Tryd.prog 183 = false := by kernel_rfl
@[simp] theorem placeP_183_0 : placeP Tryd.prog 183 0 = some (0, 1) := by kernel_rfl
@[simp] theorem placeP_183_1 : placeP Tryd.prog 183 1 = some (1, 1) := by kernel_rfl
@[simp] theorem placeP_183_2 : placeP Tryd.prog 183 2 = some (2, 1) := by kernel_rfl
@[simp] theorem placeP_183_3 : placeP Tryd.prog 183 3 = some (3, 1) := by kernel_rfl
@[simp] theorem placeP_183_4 : placeP Tryd.prog 183 4 = some (4, 1) := by kernel_rfl
@[simp] theorem placeP_183_5 : placeP Tryd.prog 183 5 = some (5, 1) := by kernel_rfl
@[simp] theorem placeP_183_6 : placeP Tryd.prog 183 6 = some (6, 1) := by kernel_rfl
@[simp] theorem placeP_183_7 : placeP Tryd.prog 183 7 = some (7, 1) := by kernel_rfl
@[simp] theorem placeP_183_8 : placeP Tryd.prog 183 8 = some (8, 1) := by kernel_rfl
@[simp] theorem placeP_183_9 : placeP Tryd.prog 183 9 = some (9, 1) := by kernel_rfl
@[simp] theorem placeP_183_10 : placeP Tryd.prog 183 10 = some (10, 1) := by kernel_rfl
@[simp] theorem fld_183_0 : fld Tryd.prog 183 0 = some (0, 1, false) := by kernel_rfl
@[simp] theorem fld_183_1 : fld Tryd.prog 183 1 = some (1, 1, false) := by kernel_rfl
@[simp] theorem fld_183_2 : fld Tryd.prog 183 2 = some (2, 1, false) := by kernel_rfl
@[simp] theorem fld_183_3 : fld Tryd.prog 183 3 = some (3, 1, false) := by kernel_rfl
@[simp] theorem fld_183_4 : fld Tryd.prog 183 4 = some (4, 1, false) := by kernel_rfl
@[simp] theorem fld_183_5 : fld Tryd.prog 183 5 = some (5, 1, false) := by kernel_rfl
@[simp] theorem fld_183_6 : fld Tryd.prog 183 6 = some (6, 1, false) := by kernel_rfl
@[simp] theorem fld_183_7 : fld Tryd.prog 183 7 = some (7, 1, false) := by kernel_rfl
@[simp] theorem fld_183_8 : fld Tryd.prog 183 8 = some (8, 1, false) := by kernel_rfl
@[simp] theorem fld_183_9 : fld Tryd.prog 183 9 = some (9, 1, false) := by kernel_rfl
@[simp] theorem fld_183_10 : fld Tryd.prog 183 10 = some (10, 1, false) := by kernel_rfl
@[simp] theorem isBytesT_183 : isBytes Tryd.prog 183 = false := by kernel_rfl
@[simp] theorem intOfT_183 : Av.intOf Tryd.prog 183 = none := by kernel_rfl
end Go.Av
