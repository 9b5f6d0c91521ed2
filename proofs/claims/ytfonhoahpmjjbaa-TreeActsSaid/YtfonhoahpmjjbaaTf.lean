/- Facts on the types of this translation, laid by a program of our own. -/
import Derived.Test.YtfonhoahpmjjbaaEg
import Derived.Test.YtfonhoahpmjjbaaRows
import Derived.KernelRfl
set_option linter.all false
namespace Go.Av
open Go.Proofs
@[simp] theorem tyAgg_1 : tyAgg Try.prog 1 = some false := by kernel_rfl
@[simp] theorem tySize_1 : tySize Try.prog 1 = some 1 := by kernel_rfl
@[simp] theorem isSomeT_1 : Av.isSome Try.prog 1 = true := by kernel_rfl
@[simp] theorem isIfaceT_1 : isIface Try.prog 1 = false := by kernel_rfl
@[simp] theorem isStrT_1 : isStr Try.prog 1 = false := by kernel_rfl
@[simp] theorem zeroC_1 : zeroC Try.prog 1 = some [.sc .nilFunc] := by kernel_rfl
@[simp] theorem isPtrT_1 : isPtr Try.prog 1 = false := by kernel_rfl
@[simp] theorem isBytesT_1 : isBytes Try.prog 1 = false := by kernel_rfl
@[simp] theorem intOfT_1 : Av.intOf Try.prog 1 = none := by kernel_rfl
@[simp] theorem tyAgg_2 : tyAgg Try.prog 2 = some false := by kernel_rfl
@[simp] theorem tySize_2 : tySize Try.prog 2 = some 1 := by kernel_rfl
@[simp] theorem isSomeT_2 : Av.isSome Try.prog 2 = true := by kernel_rfl
@[simp] theorem isIfaceT_2 : isIface Try.prog 2 = false := by kernel_rfl
@[simp] theorem isStrT_2 : isStr Try.prog 2 = false := by kernel_rfl
@[simp] theorem zeroC_2 : zeroC Try.prog 2 = some [.sc (.int .i64 0)] := by kernel_rfl
@[simp] theorem isPtrT_2 : isPtr Try.prog 2 = false := by kernel_rfl
@[simp] theorem isBytesT_2 : isBytes Try.prog 2 = false := by kernel_rfl
@[simp] theorem intOfT_2 : Av.intOf Try.prog 2 = some .i64 := by kernel_rfl
@[simp] theorem tyAgg_3 : tyAgg Try.prog 3 = some false := by kernel_rfl
@[simp] theorem tySize_3 : tySize Try.prog 3 = some 1 := by kernel_rfl
@[simp] theorem isSomeT_3 : Av.isSome Try.prog 3 = true := by kernel_rfl
@[simp] theorem isIfaceT_3 : isIface Try.prog 3 = false := by kernel_rfl
@[simp] theorem isStrT_3 : isStr Try.prog 3 = false := by kernel_rfl
@[simp] theorem zeroC_3 : zeroC Try.prog 3 = some [.sc (.int .i64 0)] := by kernel_rfl
@[simp] theorem isPtrT_3 : isPtr Try.prog 3 = false := by kernel_rfl
@[simp] theorem isBytesT_3 : isBytes Try.prog 3 = false := by kernel_rfl
@[simp] theorem intOfT_3 : Av.intOf Try.prog 3 = some .i64 := by kernel_rfl
@[simp] theorem tyAgg_4 : tyAgg Try.prog 4 = some false := by kernel_rfl
@[simp] theorem tySize_4 : tySize Try.prog 4 = some 1 := by kernel_rfl
@[simp] theorem isSomeT_4 : Av.isSome Try.prog 4 = true := by kernel_rfl
@[simp] theorem isIfaceT_4 : isIface Try.prog 4 = false := by kernel_rfl
@[simp] theorem isStrT_4 : isStr Try.prog 4 = false := by kernel_rfl
@[simp] theorem zeroC_4 : zeroC Try.prog 4 = some [.sc (.bool false)] := by kernel_rfl
@[simp] theorem isPtrT_4 : isPtr Try.prog 4 = false := by kernel_rfl
@[simp] theorem isBytesT_4 : isBytes Try.prog 4 = false := by kernel_rfl
@[simp] theorem isBoolT_4 : isBool Try.prog 4 = true := by kernel_rfl
@[simp] theorem intOfT_4 : Av.intOf Try.prog 4 = none := by kernel_rfl
@[simp] theorem tyAgg_5 : tyAgg Try.prog 5 = some false := by kernel_rfl
@[simp] theorem tySize_5 : tySize Try.prog 5 = some 1 := by kernel_rfl
@[simp] theorem isSomeT_5 : Av.isSome Try.prog 5 = true := by kernel_rfl
@[simp] theorem isIfaceT_5 : isIface Try.prog 5 = false := by kernel_rfl
@[simp] theorem isStrT_5 : isStr Try.prog 5 = false := by kernel_rfl
@[simp] theorem zeroC_5 : zeroC Try.prog 5 = some [.sc (.int .u8 0)] := by kernel_rfl
@[simp] theorem isPtrT_5 : isPtr Try.prog 5 = false := by kernel_rfl
@[simp] theorem isBytesT_5 : isBytes Try.prog 5 = false := by kernel_rfl
@[simp] theorem intOfT_5 : Av.intOf Try.prog 5 = some .u8 := by kernel_rfl
@[simp] theorem tyAgg_6 : tyAgg Try.prog 6 = some false := by kernel_rfl
@[simp] theorem tySize_6 : tySize Try.prog 6 = some 1 := by kernel_rfl
@[simp] theorem isSomeT_6 : Av.isSome Try.prog 6 = true := by kernel_rfl
@[simp] theorem isIfaceT_6 : isIface Try.prog 6 = false := by kernel_rfl
@[simp] theorem isStrT_6 : isStr Try.prog 6 = false := by kernel_rfl
@[simp] theorem zeroC_6 : zeroC Try.prog 6 = some [.sc (.int .u8 0)] := by kernel_rfl
@[simp] theorem isPtrT_6 : isPtr Try.prog 6 = false := by kernel_rfl
@[simp] theorem isBytesT_6 : isBytes Try.prog 6 = false := by kernel_rfl
@[simp] theorem intOfT_6 : Av.intOf Try.prog 6 = some .u8 := by kernel_rfl
@[simp] theorem tyAgg_7 : tyAgg Try.prog 7 = some true := by kernel_rfl
@[simp] theorem tySize_7 : tySize Try.prog 7 = some 4 := by kernel_rfl
@[simp] theorem isSomeT_7 : Av.isSome Try.prog 7 = true := by kernel_rfl
@[simp] theorem isIfaceT_7 : isIface Try.prog 7 = false := by kernel_rfl
@[simp] theorem isStrT_7 : isStr Try.prog 7 = false := by kernel_rfl
@[simp] theorem zeroC_7 : zeroC Try.prog 7 = some [.sc (.int .i64 0), .sc (.int .i64 0), .sc (.bool false), .sc (.int .u8 0)] := by kernel_rfl
@[simp] theorem fieldsOk_7 : fieldsOk Try.prog 7 = true := by kernel_rfl
@[simp] theorem isPtrT_7 : isPtr Try.prog 7 = false := by kernel_rfl
@[simp] theorem placeP_7_0 : placeP Try.prog 7 0 = some (0, 1) := by kernel_rfl
@[simp] theorem placeP_7_1 : placeP Try.prog 7 1 = some (1, 1) := by kernel_rfl
@[simp] theorem placeP_7_2 : placeP Try.prog 7 2 = some (2, 1) := by kernel_rfl
@[simp] theorem placeP_7_3 : placeP Try.prog 7 3 = some (3, 1) := by kernel_rfl
@[simp] theorem fld_7_0 : fld Try.prog 7 0 = some (0, 1, false) := by kernel_rfl
@[simp] theorem fld_7_1 : fld Try.prog 7 1 = some (1, 1, false) := by kernel_rfl
@[simp] theorem fld_7_2 : fld Try.prog 7 2 = some (2, 1, false) := by kernel_rfl
@[simp] theorem fld_7_3 : fld Try.prog 7 3 = some (3, 1, false) := by kernel_rfl
@[simp] theorem isBytesT_7 : isBytes Try.prog 7 = false := by kernel_rfl
@[simp] theorem intOfT_7 : Av.intOf Try.prog 7 = none := by kernel_rfl
@[simp] theorem tyAgg_8 : tyAgg Try.prog 8 = some true := by kernel_rfl
@[simp] theorem tySize_8 : tySize Try.prog 8 = some 4 := by kernel_rfl
@[simp] theorem isSomeT_8 : Av.isSome Try.prog 8 = true := by kernel_rfl
@[simp] theorem isIfaceT_8 : isIface Try.prog 8 = false := by kernel_rfl
@[simp] theorem isStrT_8 : isStr Try.prog 8 = false := by kernel_rfl
@[simp] theorem zeroC_8 : zeroC Try.prog 8 = some [.sc (.int .i64 0), .sc (.int .i64 0), .sc (.bool false), .sc (.int .u8 0)] := by kernel_rfl
@[simp] theorem fieldsOk_8 : fieldsOk Try.prog 8 = true := by kernel_rfl
@[simp] theorem isPtrT_8 : isPtr Try.prog 8 = false := by kernel_rfl
@[simp] theorem placeP_8_0 : placeP Try.prog 8 0 = some (0, 1) := by kernel_rfl
@[simp] theorem placeP_8_1 : placeP Try.prog 8 1 = some (1, 1) := by kernel_rfl
@[simp] theorem placeP_8_2 : placeP Try.prog 8 2 = some (2, 1) := by kernel_rfl
@[simp] theorem placeP_8_3 : placeP Try.prog 8 3 = some (3, 1) := by kernel_rfl
@[simp] theorem fld_8_0 : fld Try.prog 8 0 = some (0, 1, false) := by kernel_rfl
@[simp] theorem fld_8_1 : fld Try.prog 8 1 = some (1, 1, false) := by kernel_rfl
@[simp] theorem fld_8_2 : fld Try.prog 8 2 = some (2, 1, false) := by kernel_rfl
@[simp] theorem fld_8_3 : fld Try.prog 8 3 = some (3, 1, false) := by kernel_rfl
@[simp] theorem isBytesT_8 : isBytes Try.prog 8 = false := by kernel_rfl
@[simp] theorem intOfT_8 : Av.intOf Try.prog 8 = none := by kernel_rfl
@[simp] theorem tyAgg_9 : tyAgg Try.prog 9 = some false := by kernel_rfl
@[simp] theorem tySize_9 : tySize Try.prog 9 = some 1 := by kernel_rfl
@[simp] theorem isSomeT_9 : Av.isSome Try.prog 9 = true := by kernel_rfl
@[simp] theorem isIfaceT_9 : isIface Try.prog 9 = false := by kernel_rfl
@[simp] theorem isStrT_9 : isStr Try.prog 9 = true := by kernel_rfl
@[simp] theorem zeroC_9 : zeroC Try.prog 9 = some [.str []] := by kernel_rfl
@[simp] theorem isPtrT_9 : isPtr Try.prog 9 = false := by kernel_rfl
@[simp] theorem isBytesT_9 : isBytes Try.prog 9 = false := by kernel_rfl
@[simp] theorem intOfT_9 : Av.intOf Try.prog 9 = none := by kernel_rfl
@[simp] theorem tyAgg_10 : tyAgg Try.prog 10 = some false := by kernel_rfl
@[simp] theorem tySize_10 : tySize Try.prog 10 = some 1 := by kernel_rfl
@[simp] theorem isSomeT_10 : Av.isSome Try.prog 10 = true := by kernel_rfl
@[simp] theorem isIfaceT_10 : isIface Try.prog 10 = false := by kernel_rfl
@[simp] theorem isStrT_10 : isStr Try.prog 10 = true := by kernel_rfl
@[simp] theorem zeroC_10 : zeroC Try.prog 10 = some [.str []] := by kernel_rfl
@[simp] theorem isPtrT_10 : isPtr Try.prog 10 = false := by kernel_rfl
@[simp] theorem isBytesT_10 : isBytes Try.prog 10 = false := by kernel_rfl
@[simp] theorem intOfT_10 : Av.intOf Try.prog 10 = none := by kernel_rfl
@[simp] theorem tyAgg_11 : tyAgg Try.prog 11 = some false := by kernel_rfl
@[simp] theorem tySize_11 : tySize Try.prog 11 = some 1 := by kernel_rfl
@[simp] theorem isSomeT_11 : Av.isSome Try.prog 11 = true := by kernel_rfl
@[simp] theorem isIfaceT_11 : isIface Try.prog 11 = false := by kernel_rfl
@[simp] theorem isStrT_11 : isStr Try.prog 11 = true := by kernel_rfl
@[simp] theorem zeroC_11 : zeroC Try.prog 11 = some [.str []] := by kernel_rfl
@[simp] theorem isPtrT_11 : isPtr Try.prog 11 = false := by kernel_rfl
@[simp] theorem isBytesT_11 : isBytes Try.prog 11 = false := by kernel_rfl
@[simp] theorem intOfT_11 : Av.intOf Try.prog 11 = none := by kernel_rfl
@[simp] theorem tyAgg_12 : tyAgg Try.prog 12 = some false := by kernel_rfl
@[simp] theorem tySize_12 : tySize Try.prog 12 = some 1 := by kernel_rfl
@[simp] theorem isSomeT_12 : Av.isSome Try.prog 12 = true := by kernel_rfl
@[simp] theorem isIfaceT_12 : isIface Try.prog 12 = false := by kernel_rfl
@[simp] theorem isStrT_12 : isStr Try.prog 12 = false := by kernel_rfl
@[simp] theorem zeroC_12 : zeroC Try.prog 12 = some [.sc (.int .u64 0)] := by kernel_rfl
@[simp] theorem isPtrT_12 : isPtr Try.prog 12 = false := by kernel_rfl
@[simp] theorem isBytesT_12 : isBytes Try.prog 12 = false := by kernel_rfl
@[simp] theorem intOfT_12 : Av.intOf Try.prog 12 = some .u64 := by kernel_rfl
@[simp] theorem tyAgg_13 : tyAgg Try.prog 13 = some true := by kernel_rfl
@[simp] theorem tySize_13 : tySize Try.prog 13 = some 2 := by kernel_rfl
@[simp] theorem isSomeT_13 : Av.isSome Try.prog 13 = true := by kernel_rfl
@[simp] theorem isIfaceT_13 : isIface Try.prog 13 = false := by kernel_rfl
@[simp] theorem isStrT_13 : isStr Try.prog 13 = false := by kernel_rfl
@[simp] theorem zeroC_13 : zeroC Try.prog 13 = some [.str [], .sc (.int .u64 0)] := by kernel_rfl
@[simp] theorem fieldsOk_13 : fieldsOk Try.prog 13 = true := by kernel_rfl
@[simp] theorem isPtrT_13 : isPtr Try.prog 13 = false := by kernel_rfl
@[simp] theorem placeP_13_0 : placeP Try.prog 13 0 = some (0, 1) := by kernel_rfl
@[simp] theorem placeP_13_1 : placeP Try.prog 13 1 = some (1, 1) := by kernel_rfl
@[simp] theorem fld_13_0 : fld Try.prog 13 0 = some (0, 1, false) := by kernel_rfl
@[simp] theorem fld_13_1 : fld Try.prog 13 1 = some (1, 1, false) := by kernel_rfl
@[simp] theorem isBytesT_13 : isBytes Try.prog 13 = false := by kernel_rfl
@[simp] theorem intOfT_13 : Av.intOf Try.prog 13 = none := by kernel_rfl
@[simp] theorem tyAgg_14 : tyAgg Try.prog 14 = some true := by kernel_rfl
@[simp] theorem tySize_14 : tySize Try.prog 14 = some 2 := by kernel_rfl
@[simp] theorem isSomeT_14 : Av.isSome Try.prog 14 = true := by kernel_rfl
@[simp] theorem isIfaceT_14 : isIface Try.prog 14 = false := by kernel_rfl
@[simp] theorem isStrT_14 : isStr Try.prog 14 = false := by kernel_rfl
@[simp] theorem zeroC_14 : zeroC Try.prog 14 = some [.str [], .sc (.int .u64 0)] := by kernel_rfl
@[simp] theorem fieldsOk_14 : fieldsOk Try.prog 14 = true := by kernel_rfl
@[simp] theorem isPtrT_14 : isPtr Try.prog 14 = false := by kernel_rfl
@[simp] theorem placeP_14_0 : placeP Try.prog 14 0 = some (0, 1) := by kernel_rfl
@[simp] theorem placeP_14_1 : placeP Try.prog 14 1 = some (1, 1) := by kernel_rfl
@[simp] theorem fld_14_0 : fld Try.prog 14 0 = some (0, 1, false) := by kernel_rfl
@[simp] theorem fld_14_1 : fld Try.prog 14 1 = some (1, 1, false) := by kernel_rfl
@[simp] theorem isBytesT_14 : isBytes Try.prog 14 = false := by kernel_rfl
@[simp] theorem intOfT_14 : Av.intOf Try.prog 14 = none := by kernel_rfl
@[simp] theorem tyAgg_15 : tyAgg Try.prog 15 = some false := by kernel_rfl
@[simp] theorem tySize_15 : tySize Try.prog 15 = some 1 := by kernel_rfl
@[simp] theorem isSomeT_15 : Av.isSome Try.prog 15 = true := by kernel_rfl
@[simp] theorem isIfaceT_15 : isIface Try.prog 15 = false := by kernel_rfl
@[simp] theorem isStrT_15 : isStr Try.prog 15 = false := by kernel_rfl
@[simp] theorem zeroC_15 : zeroC Try.prog 15 = some [.sc (.pointer none)] := by kernel_rfl
@[simp] theorem isPtrT_15 : isPtr Try.prog 15 = true := by kernel_rfl
@[simp] theorem isBytesT_15 : isBytes Try.prog 15 = false := by kernel_rfl
@[simp] theorem intOfT_15 : Av.intOf Try.prog 15 = none := by kernel_rfl
@[simp] theorem tyAgg_16 : tyAgg Try.prog 16 = some false := by kernel_rfl
@[simp] theorem tySize_16 : tySize Try.prog 16 = some 1 := by kernel_rfl
@[simp] theorem isSomeT_16 : Av.isSome Try.prog 16 = true := by kernel_rfl
@[simp] theorem isIfaceT_16 : isIface Try.prog 16 = false := by kernel_rfl
@[simp] theorem isStrT_16 : isStr Try.prog 16 = false := by kernel_rfl
@[simp] theorem zeroC_16 : zeroC Try.prog 16 = some [.sc (.pointer none)] := by kernel_rfl
@[simp] theorem isPtrT_16 : isPtr Try.prog 16 = true := by kernel_rfl
@[simp] theorem isBytesT_16 : isBytes Try.prog 16 = false := by kernel_rfl
@[simp] theorem intOfT_16 : Av.intOf Try.prog 16 = none := by kernel_rfl
@[simp] theorem tyAgg_17 : tyAgg Try.prog 17 = some false := by kernel_rfl
@[simp] theorem tySize_17 : tySize Try.prog 17 = some 1 := by kernel_rfl
@[simp] theorem isSomeT_17 : Av.isSome Try.prog 17 = true := by kernel_rfl
@[simp] theorem isIfaceT_17 : isIface Try.prog 17 = false := by kernel_rfl
@[simp] theorem isStrT_17 : isStr Try.prog 17 = false := by kernel_rfl
@[simp] theorem zeroC_17 : zeroC Try.prog 17 = some [.sc (.pointer none)] := by kernel_rfl
@[simp] theorem isPtrT_17 : isPtr Try.prog 17 = true := by kernel_rfl
@[simp] theorem isBytesT_17 : isBytes Try.prog 17 = false := by kernel_rfl
@[simp] theorem intOfT_17 : Av.intOf Try.prog 17 = none := by kernel_rfl
@[simp] theorem tyAgg_18 : tyAgg Try.prog 18 = some true := by kernel_rfl
@[simp] theorem tySize_18 : tySize Try.prog 18 = some 1 := by kernel_rfl
@[simp] theorem isSomeT_18 : Av.isSome Try.prog 18 = true := by kernel_rfl
@[simp] theorem isIfaceT_18 : isIface Try.prog 18 = false := by kernel_rfl
@[simp] theorem isStrT_18 : isStr Try.prog 18 = false := by kernel_rfl
@[simp] theorem zeroC_18 : zeroC Try.prog 18 = some [.sc (.pointer none)] := by kernel_rfl
@[simp] theorem fieldsOk_18 : fieldsOk Try.prog 18 = true := by kernel_rfl
@[simp] theorem isPtrT_18 : isPtr Try.prog 18 = false := by kernel_rfl
@[simp] theorem placeP_18_0 : placeP Try.prog 18 0 = some (0, 1) := by kernel_rfl
@[simp] theorem fld_18_0 : fld Try.prog 18 0 = some (0, 1, false) := by kernel_rfl
@[simp] theorem isBytesT_18 : isBytes Try.prog 18 = false := by kernel_rfl
@[simp] theorem intOfT_18 : Av.intOf Try.prog 18 = none := by kernel_rfl
@[simp] theorem tyAgg_19 : tyAgg Try.prog 19 = some true := by kernel_rfl
@[simp] theorem tySize_19 : tySize Try.prog 19 = some 1 := by kernel_rfl
@[simp] theorem isSomeT_19 : Av.isSome Try.prog 19 = true := by kernel_rfl
@[simp] theorem isIfaceT_19 : isIface Try.prog 19 = false := by kernel_rfl
@[simp] theorem isStrT_19 : isStr Try.prog 19 = false := by kernel_rfl
@[simp] theorem zeroC_19 : zeroC Try.prog 19 = some [.sc (.pointer none)] := by kernel_rfl
@[simp] theorem fieldsOk_19 : fieldsOk Try.prog 19 = true := by kernel_rfl
@[simp] theorem isPtrT_19 : isPtr Try.prog 19 = false := by kernel_rfl
@[simp] theorem placeP_19_0 : placeP Try.prog 19 0 = some (0, 1) := by kernel_rfl
@[simp] theorem fld_19_0 : fld Try.prog 19 0 = some (0, 1, false) := by kernel_rfl
@[simp] theorem isBytesT_19 : isBytes Try.prog 19 = false := by kernel_rfl
@[simp] theorem intOfT_19 : Av.intOf Try.prog 19 = none := by kernel_rfl
@[simp] theorem tyAgg_20 : tyAgg Try.prog 20 = some false := by kernel_rfl
@[simp] theorem tySize_20 : tySize Try.prog 20 = some 1 := by kernel_rfl
@[simp] theorem isSomeT_20 : Av.isSome Try.prog 20 = true := by kernel_rfl
@[simp] theorem isIfaceT_20 : isIface Try.prog 20 = true := by kernel_rfl
@[simp] theorem isStrT_20 : isStr Try.prog 20 = false := by kernel_rfl
@[simp] theorem zeroC_20 : zeroC Try.prog 20 = some [.sc .nilIface] := by kernel_rfl
@[simp] theorem isPtrT_20 : isPtr Try.prog 20 = false := by kernel_rfl
@[simp] theorem isBytesT_20 : isBytes Try.prog 20 = false := by kernel_rfl
@[simp] theorem intOfT_20 : Av.intOf Try.prog 20 = none := by kernel_rfl
@[simp] theorem tyAgg_21 : tyAgg Try.prog 21 = some false := by kernel_rfl
@[simp] theorem tySize_21 : tySize Try.prog 21 = some 1 := by kernel_rfl
@[simp] theorem isSomeT_21 : Av.isSome Try.prog 21 = true := by kernel_rfl
@[simp] theorem isIfaceT_21 : isIface Try.prog 21 = false := by kernel_rfl
@[simp] theorem isStrT_21 : isStr Try.prog 21 = false := by kernel_rfl
@[simp] theorem zeroC_21 : zeroC Try.prog 21 = some [.sc (.int .i32 0)] := by kernel_rfl
@[simp] theorem isPtrT_21 : isPtr Try.prog 21 = false := by kernel_rfl
@[simp] theorem isBytesT_21 : isBytes Try.prog 21 = false := by kernel_rfl
@[simp] theorem intOfT_21 : Av.intOf Try.prog 21 = some .i32 := by kernel_rfl
@[simp] theorem tyAgg_22 : tyAgg Try.prog 22 = some false := by kernel_rfl
@[simp] theorem tySize_22 : tySize Try.prog 22 = some 1 := by kernel_rfl
@[simp] theorem isSomeT_22 : Av.isSome Try.prog 22 = true := by kernel_rfl
@[simp] theorem isIfaceT_22 : isIface Try.prog 22 = false := by kernel_rfl
@[simp] theorem isStrT_22 : isStr Try.prog 22 = false := by kernel_rfl
@[simp] theorem zeroC_22 : zeroC Try.prog 22 = some [.nil] := by kernel_rfl
@[simp] theorem isPtrT_22 : isPtr Try.prog 22 = false := by kernel_rfl
@[simp] theorem elSize_22 : elSize Try.prog 22 = some 3 := by kernel_rfl
@[simp] theorem elTy_22 : elTy Try.prog 22 = some (36, 3, 32) := by kernel_rfl
@[simp] theorem isBytesT_22 : isBytes Try.prog 22 = false := by kernel_rfl
@[simp] theorem intOfT_22 : Av.intOf Try.prog 22 = none := by kernel_rfl
@[simp] theorem tyAgg_23 : tyAgg Try.prog 23 = some false := by kernel_rfl
@[simp] theorem tySize_23 : tySize Try.prog 23 = some 1 := by kernel_rfl
@[simp] theorem isSomeT_23 : Av.isSome Try.prog 23 = true := by kernel_rfl
@[simp] theorem isIfaceT_23 : isIface Try.prog 23 = false := by kernel_rfl
@[simp] theorem isStrT_23 : isStr Try.prog 23 = false := by kernel_rfl
@[simp] theorem zeroC_23 : zeroC Try.prog 23 = some [.sc .nilFunc] := by kernel_rfl
@[simp] theorem isPtrT_23 : isPtr Try.prog 23 = false := by kernel_rfl
@[simp] theorem isBytesT_23 : isBytes Try.prog 23 = false := by kernel_rfl
@[simp] theorem intOfT_23 : Av.intOf Try.prog 23 = none := by kernel_rfl
@[simp] theorem tyAgg_24 : tyAgg Try.prog 24 = some false := by kernel_rfl
@[simp] theorem tySize_24 : tySize Try.prog 24 = some 1 := by kernel_rfl
@[simp] theorem isSomeT_24 : Av.isSome Try.prog 24 = true := by kernel_rfl
@[simp] theorem isIfaceT_24 : isIface Try.prog 24 = false := by kernel_rfl
@[simp] theorem isStrT_24 : isStr Try.prog 24 = false := by kernel_rfl
@[simp] theorem zeroC_24 : zeroC Try.prog 24 = some [.sc (.pointer none)] := by kernel_rfl
@[simp] theorem isPtrT_24 : isPtr Try.prog 24 = true := by kernel_rfl
@[simp] theorem isBytesT_24 : isBytes Try.prog 24 = false := by kernel_rfl
@[simp] theorem intOfT_24 : Av.intOf Try.prog 24 = none := by kernel_rfl
@[simp] theorem tyAgg_25 : tyAgg Try.prog 25 = some false := by kernel_rfl
@[simp] theorem tySize_25 : tySize Try.prog 25 = some 1 := by kernel_rfl
@[simp] theorem isSomeT_25 : Av.isSome Try.prog 25 = true := by kernel_rfl
@[simp] theorem isIfaceT_25 : isIface Try.prog 25 = false := by kernel_rfl
@[simp] theorem isStrT_25 : isStr Try.prog 25 = false := by kernel_rfl
@[simp] theorem zeroC_25 : zeroC Try.prog 25 = some [.nil] := by kernel_rfl
@[simp] theorem isPtrT_25 : isPtr Try.prog 25 = false := by kernel_rfl
@[simp] theorem elSize_25 : elSize Try.prog 25 = some 3 := by kernel_rfl
@[simp] theorem elTy_25 : elTy Try.prog 25 = some (56, 3, 56) := by kernel_rfl
@[simp] theorem isBytesT_25 : isBytes Try.prog 25 = false := by kernel_rfl
@[simp] theorem intOfT_25 : Av.intOf Try.prog 25 = none := by kernel_rfl
@[simp] theorem tyAgg_26 : tyAgg Try.prog 26 = some false := by kernel_rfl
@[simp] theorem tySize_26 : tySize Try.prog 26 = some 1 := by kernel_rfl
@[simp] theorem isSomeT_26 : Av.isSome Try.prog 26 = true := by kernel_rfl
@[simp] theorem isIfaceT_26 : isIface Try.prog 26 = false := by kernel_rfl
@[simp] theorem isStrT_26 : isStr Try.prog 26 = false := by kernel_rfl
@[simp] theorem zeroC_26 : zeroC Try.prog 26 = some [.nil] := by kernel_rfl
@[simp] theorem isPtrT_26 : isPtr Try.prog 26 = false := by kernel_rfl
@[simp] theorem elSize_26 : elSize Try.prog 26 = some 1 := by kernel_rfl
@[simp] theorem elTy_26 : elTy Try.prog 26 = some (4, 1, 1) := by kernel_rfl
@[simp] theorem isBytesT_26 : isBytes Try.prog 26 = false := by kernel_rfl
@[simp] theorem intOfT_26 : Av.intOf Try.prog 26 = none := by kernel_rfl
@[simp] theorem tyAgg_27 : tyAgg Try.prog 27 = some true := by kernel_rfl
@[simp] theorem tySize_27 : tySize Try.prog 27 = some 2 := by kernel_rfl
@[simp] theorem isSomeT_27 : Av.isSome Try.prog 27 = true := by kernel_rfl
@[simp] theorem isIfaceT_27 : isIface Try.prog 27 = false := by kernel_rfl
@[simp] theorem isStrT_27 : isStr Try.prog 27 = false := by kernel_rfl
@[simp] theorem zeroC_27 : zeroC Try.prog 27 = some [.nil, .nil] := by kernel_rfl
@[simp] theorem fieldsOk_27 : fieldsOk Try.prog 27 = true := by kernel_rfl
@[simp] theorem isPtrT_27 : isPtr Try.prog 27 = false := by kernel_rfl
@[simp] theorem placeP_27_0 : placeP Try.prog 27 0 = some (0, 1) := by kernel_rfl
@[simp] theorem placeP_27_1 : placeP Try.prog 27 1 = some (1, 1) := by kernel_rfl
@[simp] theorem fld_27_0 : fld Try.prog 27 0 = some (0, 1, false) := by kernel_rfl
@[simp] theorem fld_27_1 : fld Try.prog 27 1 = some (1, 1, false) := by kernel_rfl
@[simp] theorem isBytesT_27 : isBytes Try.prog 27 = false := by kernel_rfl
@[simp] theorem intOfT_27 : Av.intOf Try.prog 27 = none := by kernel_rfl
@[simp] theorem tyAgg_28 : tyAgg Try.prog 28 = some true := by kernel_rfl
@[simp] theorem tySize_28 : tySize Try.prog 28 = some 2 := by kernel_rfl
@[simp] theorem isSomeT_28 : Av.isSome Try.prog 28 = true := by kernel_rfl
@[simp] theorem isIfaceT_28 : isIface Try.prog 28 = false := by kernel_rfl
@[simp] theorem isStrT_28 : isStr Try.prog 28 = false := by kernel_rfl
@[simp] theorem zeroC_28 : zeroC Try.prog 28 = some [.nil, .nil] := by kernel_rfl
@[simp] theorem fieldsOk_28 : fieldsOk Try.prog 28 = true := by kernel_rfl
@[simp] theorem isPtrT_28 : isPtr Try.prog 28 = false := by kernel_rfl
@[simp] theorem placeP_28_0 : placeP Try.prog 28 0 = some (0, 1) := by kernel_rfl
@[simp] theorem placeP_28_1 : placeP Try.prog 28 1 = some (1, 1) := by kernel_rfl
@[simp] theorem fld_28_0 : fld Try.prog 28 0 = some (0, 1, false) := by kernel_rfl
@[simp] theorem fld_28_1 : fld Try.prog 28 1 = some (1, 1, false) := by kernel_rfl
@[simp] theorem isBytesT_28 : isBytes Try.prog 28 = false := by kernel_rfl
@[simp] theorem intOfT_28 : Av.intOf Try.prog 28 = none := by kernel_rfl
@[simp] theorem tyAgg_29 : tyAgg Try.prog 29 = some true := by kernel_rfl
@[simp] theorem tySize_29 : tySize Try.prog 29 = some 4 := by kernel_rfl
@[simp] theorem isSomeT_29 : Av.isSome Try.prog 29 = true := by kernel_rfl
@[simp] theorem isIfaceT_29 : isIface Try.prog 29 = false := by kernel_rfl
@[simp] theorem isStrT_29 : isStr Try.prog 29 = false := by kernel_rfl
@[simp] theorem zeroC_29 : zeroC Try.prog 29 = some [.nil, .nil, .sc (.int .i64 0), .sc (.int .i64 0)] := by kernel_rfl
@[simp] theorem fieldsOk_29 : fieldsOk Try.prog 29 = true := by kernel_rfl
@[simp] theorem isPtrT_29 : isPtr Try.prog 29 = false := by kernel_rfl
@[simp] theorem placeP_29_0 : placeP Try.prog 29 0 = some (0, 2) := by kernel_rfl
@[simp] theorem placeP_29_1 : placeP Try.prog 29 1 = some (2, 1) := by kernel_rfl
@[simp] theorem placeP_29_2 : placeP Try.prog 29 2 = some (3, 1) := by kernel_rfl
@[simp] theorem fld_29_0 : fld Try.prog 29 0 = some (0, 2, true) := by kernel_rfl
@[simp] theorem fld_29_1 : fld Try.prog 29 1 = some (2, 1, false) := by kernel_rfl
@[simp] theorem fld_29_2 : fld Try.prog 29 2 = some (3, 1, false) := by kernel_rfl
@[simp] theorem isBytesT_29 : isBytes Try.prog 29 = false := by kernel_rfl
@[simp] theorem intOfT_29 : Av.intOf Try.prog 29 = none := by kernel_rfl
@[simp] theorem tyAgg_30 : tyAgg Try.prog 30 = some true := by kernel_rfl
@[simp] theorem tySize_30 : tySize Try.prog 30 = some 4 := by kernel_rfl
@[simp] theorem isSomeT_30 : Av.isSome Try.prog 30 = true := by kernel_rfl
@[simp] theorem isIfaceT_30 : isIface Try.prog 30 = false := by kernel_rfl
@[simp] theorem isStrT_30 : isStr Try.prog 30 = false := by kernel_rfl
@[simp] theorem zeroC_30 : zeroC Try.prog 30 = some [.nil, .nil, .sc (.int .i64 0), .sc (.int .i64 0)] := by kernel_rfl
@[simp] theorem fieldsOk_30 : fieldsOk Try.prog 30 = true := by kernel_rfl
@[simp] theorem isPtrT_30 : isPtr Try.prog 30 = false := by kernel_rfl
@[simp] theorem placeP_30_0 : placeP Try.prog 30 0 = some (0, 2) := by kernel_rfl
@[simp] theorem placeP_30_1 : placeP Try.prog 30 1 = some (2, 1) := by kernel_rfl
@[simp] theorem placeP_30_2 : placeP Try.prog 30 2 = some (3, 1) := by kernel_rfl
@[simp] theorem fld_30_0 : fld Try.prog 30 0 = some (0, 2, true) := by kernel_rfl
@[simp] theorem fld_30_1 : fld Try.prog 30 1 = some (2, 1, false) := by kernel_rfl
@[simp] theorem fld_30_2 : fld Try.prog 30 2 = some (3, 1, false) := by kernel_rfl
@[simp] theorem isBytesT_30 : isBytes Try.prog 30 = false := by kernel_rfl
@[simp] theorem intOfT_30 : Av.intOf Try.prog 30 = none := by kernel_rfl
@[simp] theorem tyAgg_31 : tyAgg Try.prog 31 = some false := by kernel_rfl
@[simp] theorem tySize_31 : tySize Try.prog 31 = some 1 := by kernel_rfl
@[simp] theorem isSomeT_31 : Av.isSome Try.prog 31 = true := by kernel_rfl
@[simp] theorem isIfaceT_31 : isIface Try.prog 31 = false := by kernel_rfl
@[simp] theorem isStrT_31 : isStr Try.prog 31 = false := by kernel_rfl
@[simp] theorem zeroC_31 : zeroC Try.prog 31 = some [.sc (.pointer none)] := by kernel_rfl
@[simp] theorem isPtrT_31 : isPtr Try.prog 31 = true := by kernel_rfl
@[simp] theorem isBytesT_31 : isBytes Try.prog 31 = false := by kernel_rfl
@[simp] theorem intOfT_31 : Av.intOf Try.prog 31 = none := by kernel_rfl
@[simp] theorem tyAgg_32 : tyAgg Try.prog 32 = some false := by kernel_rfl
@[simp] theorem tySize_32 : tySize Try.prog 32 = some 1 := by kernel_rfl
@[simp] theorem isSomeT_32 : Av.isSome Try.prog 32 = true := by kernel_rfl
@[simp] theorem isIfaceT_32 : isIface Try.prog 32 = false := by kernel_rfl
@[simp] theorem isStrT_32 : isStr Try.prog 32 = false := by kernel_rfl
@[simp] theorem zeroC_32 : zeroC Try.prog 32 = some [.sc .nilFunc] := by kernel_rfl
@[simp] theorem isPtrT_32 : isPtr Try.prog 32 = false := by kernel_rfl
@[simp] theorem isBytesT_32 : isBytes Try.prog 32 = false := by kernel_rfl
@[simp] theorem intOfT_32 : Av.intOf Try.prog 32 = none := by kernel_rfl
@[simp] theorem tyAgg_33 : tyAgg Try.prog 33 = some false := by kernel_rfl
@[simp] theorem tySize_33 : tySize Try.prog 33 = some 1 := by kernel_rfl
@[simp] theorem isSomeT_33 : Av.isSome Try.prog 33 = true := by kernel_rfl
@[simp] theorem isIfaceT_33 : isIface Try.prog 33 = false := by kernel_rfl
@[simp] theorem isStrT_33 : isStr Try.prog 33 = false := by kernel_rfl
@[simp] theorem zeroC_33 : zeroC Try.prog 33 = some [.nil] := by kernel_rfl
@[simp] theorem isPtrT_33 : isPtr Try.prog 33 = false := by kernel_rfl
@[simp] theorem elSize_33 : elSize Try.prog 33 = some 2 := by kernel_rfl
@[simp] theorem elTy_33 : elTy Try.prog 33 = some (69, 2, 24) := by kernel_rfl
@[simp] theorem isBytesT_33 : isBytes Try.prog 33 = false := by kernel_rfl
@[simp] theorem intOfT_33 : Av.intOf Try.prog 33 = none := by kernel_rfl
@[simp] theorem tyAgg_34 : tyAgg Try.prog 34 = some false := by kernel_rfl
@[simp] theorem tySize_34 : tySize Try.prog 34 = some 1 := by kernel_rfl
@[simp] theorem isSomeT_34 : Av.isSome Try.prog 34 = true := by kernel_rfl
@[simp] theorem isIfaceT_34 : isIface Try.prog 34 = false := by kernel_rfl
@[simp] theorem isStrT_34 : isStr Try.prog 34 = false := by kernel_rfl
@[simp] theorem zeroC_34 : zeroC Try.prog 34 = some [.sc .nilFunc] := by kernel_rfl
@[simp] theorem isPtrT_34 : isPtr Try.prog 34 = false := by kernel_rfl
@[simp] theorem isBytesT_34 : isBytes Try.prog 34 = false := by kernel_rfl
@[simp] theorem intOfT_34 : Av.intOf Try.prog 34 = none := by kernel_rfl
@[simp] theorem tyAgg_35 : tyAgg Try.prog 35 = some true := by kernel_rfl
@[simp] theorem tySize_35 : tySize Try.prog 35 = some 3 := by kernel_rfl
@[simp] theorem isSomeT_35 : Av.isSome Try.prog 35 = true := by kernel_rfl
@[simp] theorem isIfaceT_35 : isIface Try.prog 35 = false := by kernel_rfl
@[simp] theorem isStrT_35 : isStr Try.prog 35 = false := by kernel_rfl
@[simp] theorem zeroC_35 : zeroC Try.prog 35 = some [.sc (.int .i64 0), .sc (.int .i64 0), .str []] := by kernel_rfl
@[simp] theorem fieldsOk_35 : fieldsOk Try.prog 35 = true := by kernel_rfl
@[simp] theorem isPtrT_35 : isPtr Try.prog 35 = false := by kernel_rfl
@[simp] theorem fldL_35 : fldL Try.prog 35 = some [(0, 3), (1, 3), (2, 9)] := by kernel_rfl
@[simp] theorem eqOkT_35 : eqOkT Try.prog 35 = true := by kernel_rfl
@[simp] theorem placeP_35_0 : placeP Try.prog 35 0 = some (0, 1) := by kernel_rfl
@[simp] theorem placeP_35_1 : placeP Try.prog 35 1 = some (1, 1) := by kernel_rfl
@[simp] theorem placeP_35_2 : placeP Try.prog 35 2 = some (2, 1) := by kernel_rfl
@[simp] theorem fld_35_0 : fld Try.prog 35 0 = some (0, 1, false) := by kernel_rfl
@[simp] theorem fld_35_1 : fld Try.prog 35 1 = some (1, 1, false) := by kernel_rfl
@[simp] theorem fld_35_2 : fld Try.prog 35 2 = some (2, 1, false) := by kernel_rfl
@[simp] theorem isBytesT_35 : isBytes Try.prog 35 = false := by kernel_rfl
@[simp] theorem intOfT_35 : Av.intOf Try.prog 35 = none := by kernel_rfl
@[simp] theorem tyAgg_36 : tyAgg Try.prog 36 = some true := by kernel_rfl
@[simp] theorem tySize_36 : tySize Try.prog 36 = some 3 := by kernel_rfl
@[simp] theorem isSomeT_36 : Av.isSome Try.prog 36 = true := by kernel_rfl
@[simp] theorem isIfaceT_36 : isIface Try.prog 36 = false := by kernel_rfl
@[simp] theorem isStrT_36 : isStr Try.prog 36 = false := by kernel_rfl
@[simp] theorem zeroC_36 : zeroC Try.prog 36 = some [.sc (.int .i64 0), .sc (.int .i64 0), .str []] := by kernel_rfl
@[simp] theorem fieldsOk_36 : fieldsOk Try.prog 36 = true := by kernel_rfl
@[simp] theorem isPtrT_36 : isPtr Try.prog 36 = false := by kernel_rfl
@[simp] theorem fldL_36 : fldL Try.prog 36 = some [(0, 3), (1, 3), (2, 9)] := by kernel_rfl
@[simp] theorem eqOkT_36 : eqOkT Try.prog 36 = true := by kernel_rfl
@[simp] theorem placeP_36_0 : placeP Try.prog 36 0 = some (0, 1) := by kernel_rfl
@[simp] theorem placeP_36_1 : placeP Try.prog 36 1 = some (1, 1) := by kernel_rfl
@[simp] theorem placeP_36_2 : placeP Try.prog 36 2 = some (2, 1) := by kernel_rfl
@[simp] theorem fld_36_0 : fld Try.prog 36 0 = some (0, 1, false) := by kernel_rfl
@[simp] theorem fld_36_1 : fld Try.prog 36 1 = some (1, 1, false) := by kernel_rfl
@[simp] theorem fld_36_2 : fld Try.prog 36 2 = some (2, 1, false) := by kernel_rfl
@[simp] theorem isBytesT_36 : isBytes Try.prog 36 = false := by kernel_rfl
@[simp] theorem intOfT_36 : Av.intOf Try.prog 36 = none := by kernel_rfl
@[simp] theorem tyAgg_37 : tyAgg Try.prog 37 = some false := by kernel_rfl
@[simp] theorem tySize_37 : tySize Try.prog 37 = some 1 := by kernel_rfl
@[simp] theorem isSomeT_37 : Av.isSome Try.prog 37 = true := by kernel_rfl
@[simp] theorem isIfaceT_37 : isIface Try.prog 37 = false := by kernel_rfl
@[simp] theorem isStrT_37 : isStr Try.prog 37 = false := by kernel_rfl
@[simp] theorem zeroC_37 : zeroC Try.prog 37 = some [.sc (.int .i64 0)] := by kernel_rfl
@[simp] theorem isPtrT_37 : isPtr Try.prog 37 = false := by kernel_rfl
@[simp] theorem isBytesT_37 : isBytes Try.prog 37 = false := by kernel_rfl
@[simp] theorem intOfT_37 : Av.intOf Try.prog 37 = some .i64 := by kernel_rfl
@[simp] theorem tyAgg_39 : tyAgg Try.prog 39 = some false := by kernel_rfl
@[simp] theorem tySize_39 : tySize Try.prog 39 = some 1 := by kernel_rfl
@[simp] theorem isSomeT_39 : Av.isSome Try.prog 39 = true := by kernel_rfl
@[simp] theorem isIfaceT_39 : isIface Try.prog 39 = false := by kernel_rfl
@[simp] theorem isStrT_39 : isStr Try.prog 39 = false := by kernel_rfl
@[simp] theorem zeroC_39 : zeroC Try.prog 39 = some [.sc .nilFunc] := by kernel_rfl
@[simp] theorem isPtrT_39 : isPtr Try.prog 39 = false := by kernel_rfl
@[simp] theorem isBytesT_39 : isBytes Try.prog 39 = false := by kernel_rfl
@[simp] theorem intOfT_39 : Av.intOf Try.prog 39 = none := by kernel_rfl
@[simp] theorem tyAgg_41 : tyAgg Try.prog 41 = some false := by kernel_rfl
@[simp] theorem tySize_41 : tySize Try.prog 41 = some 1 := by kernel_rfl
@[simp] theorem isSomeT_41 : Av.isSome Try.prog 41 = true := by kernel_rfl
@[simp] theorem isIfaceT_41 : isIface Try.prog 41 = false := by kernel_rfl
@[simp] theorem isStrT_41 : isStr Try.prog 41 = false := by kernel_rfl
@[simp] theorem zeroC_41 : zeroC Try.prog 41 = some [.sc .nilFunc] := by kernel_rfl
@[simp] theorem isPtrT_41 : isPtr Try.prog 41 = false := by kernel_rfl
@[simp] theorem isBytesT_41 : isBytes Try.prog 41 = false := by kernel_rfl
@[simp] theorem intOfT_41 : Av.intOf Try.prog 41 = none := by kernel_rfl
@[simp] theorem tyAgg_42 : tyAgg Try.prog 42 = some false := by kernel_rfl
@[simp] theorem tySize_42 : tySize Try.prog 42 = some 1 := by kernel_rfl
@[simp] theorem isSomeT_42 : Av.isSome Try.prog 42 = true := by kernel_rfl
@[simp] theorem isIfaceT_42 : isIface Try.prog 42 = false := by kernel_rfl
@[simp] theorem isStrT_42 : isStr Try.prog 42 = false := by kernel_rfl
@[simp] theorem zeroC_42 : zeroC Try.prog 42 = some [.sc .nilFunc] := by kernel_rfl
@[simp] theorem isPtrT_42 : isPtr Try.prog 42 = false := by kernel_rfl
@[simp] theorem isBytesT_42 : isBytes Try.prog 42 = false := by kernel_rfl
@[simp] theorem intOfT_42 : Av.intOf Try.prog 42 = none := by kernel_rfl
@[simp] theorem tyAgg_43 : tyAgg Try.prog 43 = some false := by kernel_rfl
@[simp] theorem tySize_43 : tySize Try.prog 43 = some 1 := by kernel_rfl
@[simp] theorem isSomeT_43 : Av.isSome Try.prog 43 = true := by kernel_rfl
@[simp] theorem isIfaceT_43 : isIface Try.prog 43 = false := by kernel_rfl
@[simp] theorem isStrT_43 : isStr Try.prog 43 = false := by kernel_rfl
@[simp] theorem zeroC_43 : zeroC Try.prog 43 = some [.sc .nilFunc] := by kernel_rfl
@[simp] theorem isPtrT_43 : isPtr Try.prog 43 = false := by kernel_rfl
@[simp] theorem isBytesT_43 : isBytes Try.prog 43 = false := by kernel_rfl
@[simp] theorem intOfT_43 : Av.intOf Try.prog 43 = none := by kernel_rfl
@[simp] theorem tyAgg_45 : tyAgg Try.prog 45 = some false := by kernel_rfl
@[simp] theorem tySize_45 : tySize Try.prog 45 = some 1 := by kernel_rfl
@[simp] theorem isSomeT_45 : Av.isSome Try.prog 45 = true := by kernel_rfl
@[simp] theorem isIfaceT_45 : isIface Try.prog 45 = false := by kernel_rfl
@[simp] theorem isStrT_45 : isStr Try.prog 45 = false := by kernel_rfl
@[simp] theorem zeroC_45 : zeroC Try.prog 45 = some [.sc .nilFunc] := by kernel_rfl
@[simp] theorem isPtrT_45 : isPtr Try.prog 45 = false := by kernel_rfl
@[simp] theorem isBytesT_45 : isBytes Try.prog 45 = false := by kernel_rfl
@[simp] theorem intOfT_45 : Av.intOf Try.prog 45 = none := by kernel_rfl
@[simp] theorem tyAgg_46 : tyAgg Try.prog 46 = some false := by kernel_rfl
@[simp] theorem tySize_46 : tySize Try.prog 46 = some 1 := by kernel_rfl
@[simp] theorem isSomeT_46 : Av.isSome Try.prog 46 = true := by kernel_rfl
@[simp] theorem isIfaceT_46 : isIface Try.prog 46 = false := by kernel_rfl
@[simp] theorem isStrT_46 : isStr Try.prog 46 = false := by kernel_rfl
@[simp] theorem zeroC_46 : zeroC Try.prog 46 = some [.sc .nilFunc] := by kernel_rfl
@[simp] theorem isPtrT_46 : isPtr Try.prog 46 = false := by kernel_rfl
@[simp] theorem isBytesT_46 : isBytes Try.prog 46 = false := by kernel_rfl
@[simp] theorem intOfT_46 : Av.intOf Try.prog 46 = none := by kernel_rfl
@[simp] theorem tyAgg_47 : tyAgg Try.prog 47 = some false := by kernel_rfl
@[simp] theorem tySize_47 : tySize Try.prog 47 = some 1 := by kernel_rfl
@[simp] theorem isSomeT_47 : Av.isSome Try.prog 47 = true := by kernel_rfl
@[simp] theorem isIfaceT_47 : isIface Try.prog 47 = false := by kernel_rfl
@[simp] theorem isStrT_47 : isStr Try.prog 47 = false := by kernel_rfl
@[simp] theorem zeroC_47 : zeroC Try.prog 47 = some [.sc .nilFunc] := by kernel_rfl
@[simp] theorem isPtrT_47 : isPtr Try.prog 47 = false := by kernel_rfl
@[simp] theorem isBytesT_47 : isBytes Try.prog 47 = false := by kernel_rfl
@[simp] theorem intOfT_47 : Av.intOf Try.prog 47 = none := by kernel_rfl
@[simp] theorem tyAgg_48 : tyAgg Try.prog 48 = some false := by kernel_rfl
@[simp] theorem tySize_48 : tySize Try.prog 48 = some 1 := by kernel_rfl
@[simp] theorem isSomeT_48 : Av.isSome Try.prog 48 = true := by kernel_rfl
@[simp] theorem isIfaceT_48 : isIface Try.prog 48 = false := by kernel_rfl
@[simp] theorem isStrT_48 : isStr Try.prog 48 = false := by kernel_rfl
@[simp] theorem zeroC_48 : zeroC Try.prog 48 = some [.nil] := by kernel_rfl
@[simp] theorem isPtrT_48 : isPtr Try.prog 48 = false := by kernel_rfl
@[simp] theorem elSize_48 : elSize Try.prog 48 = some 1 := by kernel_rfl
@[simp] theorem elTy_48 : elTy Try.prog 48 = some (9, 1, 16) := by kernel_rfl
@[simp] theorem isBytesT_48 : isBytes Try.prog 48 = false := by kernel_rfl
@[simp] theorem intOfT_48 : Av.intOf Try.prog 48 = none := by kernel_rfl
@[simp] theorem tyAgg_49 : tyAgg Try.prog 49 = some false := by kernel_rfl
@[simp] theorem tySize_49 : tySize Try.prog 49 = some 1 := by kernel_rfl
@[simp] theorem isSomeT_49 : Av.isSome Try.prog 49 = true := by kernel_rfl
@[simp] theorem isIfaceT_49 : isIface Try.prog 49 = false := by kernel_rfl
@[simp] theorem isStrT_49 : isStr Try.prog 49 = false := by kernel_rfl
@[simp] theorem zeroC_49 : zeroC Try.prog 49 = some [.nil] := by kernel_rfl
@[simp] theorem isPtrT_49 : isPtr Try.prog 49 = false := by kernel_rfl
@[simp] theorem elSize_49 : elSize Try.prog 49 = some 1 := by kernel_rfl
@[simp] theorem elTy_49 : elTy Try.prog 49 = some (3, 1, 8) := by kernel_rfl
@[simp] theorem isBytesT_49 : isBytes Try.prog 49 = false := by kernel_rfl
@[simp] theorem intOfT_49 : Av.intOf Try.prog 49 = none := by kernel_rfl
@[simp] theorem tyAgg_51 : tyAgg Try.prog 51 = some false := by kernel_rfl
@[simp] theorem tySize_51 : tySize Try.prog 51 = some 1 := by kernel_rfl
@[simp] theorem isSomeT_51 : Av.isSome Try.prog 51 = true := by kernel_rfl
@[simp] theorem isIfaceT_51 : isIface Try.prog 51 = false := by kernel_rfl
@[simp] theorem isStrT_51 : isStr Try.prog 51 = false := by kernel_rfl
@[simp] theorem zeroC_51 : zeroC Try.prog 51 = some [.sc .nilFunc] := by kernel_rfl
@[simp] theorem isPtrT_51 : isPtr Try.prog 51 = false := by kernel_rfl
@[simp] theorem isBytesT_51 : isBytes Try.prog 51 = false := by kernel_rfl
@[simp] theorem intOfT_51 : Av.intOf Try.prog 51 = none := by kernel_rfl
@[simp] theorem tyAgg_52 : tyAgg Try.prog 52 = some false := by kernel_rfl
@[simp] theorem tySize_52 : tySize Try.prog 52 = some 1 := by kernel_rfl
@[simp] theorem isSomeT_52 : Av.isSome Try.prog 52 = true := by kernel_rfl
@[simp] theorem isIfaceT_52 : isIface Try.prog 52 = false := by kernel_rfl
@[simp] theorem isStrT_52 : isStr Try.prog 52 = false := by kernel_rfl
@[simp] theorem zeroC_52 : zeroC Try.prog 52 = some [.sc .nilFunc] := by kernel_rfl
@[simp] theorem isPtrT_52 : isPtr Try.prog 52 = false := by kernel_rfl
@[simp] theorem isBytesT_52 : isBytes Try.prog 52 = false := by kernel_rfl
@[simp] theorem intOfT_52 : Av.intOf Try.prog 52 = none := by kernel_rfl
@[simp] theorem tyAgg_53 : tyAgg Try.prog 53 = some false := by kernel_rfl
@[simp] theorem tySize_53 : tySize Try.prog 53 = some 1 := by kernel_rfl
@[simp] theorem isSomeT_53 : Av.isSome Try.prog 53 = true := by kernel_rfl
@[simp] theorem isIfaceT_53 : isIface Try.prog 53 = false := by kernel_rfl
@[simp] theorem isStrT_53 : isStr Try.prog 53 = false := by kernel_rfl
@[simp] theorem zeroC_53 : zeroC Try.prog 53 = some [.sc .nilFunc] := by kernel_rfl
@[simp] theorem isPtrT_53 : isPtr Try.prog 53 = false := by kernel_rfl
@[simp] theorem isBytesT_53 : isBytes Try.prog 53 = false := by kernel_rfl
@[simp] theorem intOfT_53 : Av.intOf Try.prog 53 = none := by kernel_rfl
@[simp] theorem tyAgg_54 : tyAgg Try.prog 54 = some false := by kernel_rfl
@[simp] theorem tySize_54 : tySize Try.prog 54 = some 1 := by kernel_rfl
@[simp] theorem isSomeT_54 : Av.isSome Try.prog 54 = true := by kernel_rfl
@[simp] theorem isIfaceT_54 : isIface Try.prog 54 = false := by kernel_rfl
@[simp] theorem isStrT_54 : isStr Try.prog 54 = false := by kernel_rfl
@[simp] theorem zeroC_54 : zeroC Try.prog 54 = some [.sc .nilFunc] := by kernel_rfl
@[simp] theorem isPtrT_54 : isPtr Try.prog 54 = false := by kernel_rfl
@[simp] theorem isBytesT_54 : isBytes Try.prog 54 = false := by kernel_rfl
@[simp] theorem intOfT_54 : Av.intOf Try.prog 54 = none := by kernel_rfl
@[simp] theorem tyAgg_55 : tyAgg Try.prog 55 = some true := by kernel_rfl
@[simp] theorem tySize_55 : tySize Try.prog 55 = some 3 := by kernel_rfl
@[simp] theorem isSomeT_55 : Av.isSome Try.prog 55 = true := by kernel_rfl
@[simp] theorem isIfaceT_55 : isIface Try.prog 55 = false := by kernel_rfl
@[simp] theorem isStrT_55 : isStr Try.prog 55 = false := by kernel_rfl
@[simp] theorem zeroC_55 : zeroC Try.prog 55 = some [.sc (.bool false), .nil, .nil] := by kernel_rfl
@[simp] theorem fieldsOk_55 : fieldsOk Try.prog 55 = true := by kernel_rfl
@[simp] theorem isPtrT_55 : isPtr Try.prog 55 = false := by kernel_rfl
@[simp] theorem placeP_55_0 : placeP Try.prog 55 0 = some (0, 1) := by kernel_rfl
@[simp] theorem placeP_55_1 : placeP Try.prog 55 1 = some (1, 1) := by kernel_rfl
@[simp] theorem placeP_55_2 : placeP Try.prog 55 2 = some (2, 1) := by kernel_rfl
@[simp] theorem fld_55_0 : fld Try.prog 55 0 = some (0, 1, false) := by kernel_rfl
@[simp] theorem fld_55_1 : fld Try.prog 55 1 = some (1, 1, false) := by kernel_rfl
@[simp] theorem fld_55_2 : fld Try.prog 55 2 = some (2, 1, false) := by kernel_rfl
@[simp] theorem isBytesT_55 : isBytes Try.prog 55 = false := by kernel_rfl
@[simp] theorem intOfT_55 : Av.intOf Try.prog 55 = none := by kernel_rfl
@[simp] theorem tyAgg_56 : tyAgg Try.prog 56 = some true := by kernel_rfl
@[simp] theorem tySize_56 : tySize Try.prog 56 = some 3 := by kernel_rfl
@[simp] theorem isSomeT_56 : Av.isSome Try.prog 56 = true := by kernel_rfl
@[simp] theorem isIfaceT_56 : isIface Try.prog 56 = false := by kernel_rfl
@[simp] theorem isStrT_56 : isStr Try.prog 56 = false := by kernel_rfl
@[simp] theorem zeroC_56 : zeroC Try.prog 56 = some [.sc (.bool false), .nil, .nil] := by kernel_rfl
@[simp] theorem fieldsOk_56 : fieldsOk Try.prog 56 = true := by kernel_rfl
@[simp] theorem isPtrT_56 : isPtr Try.prog 56 = false := by kernel_rfl
@[simp] theorem placeP_56_0 : placeP Try.prog 56 0 = some (0, 1) := by kernel_rfl
@[simp] theorem placeP_56_1 : placeP Try.prog 56 1 = some (1, 1) := by kernel_rfl
@[simp] theorem placeP_56_2 : placeP Try.prog 56 2 = some (2, 1) := by kernel_rfl
@[simp] theorem fld_56_0 : fld Try.prog 56 0 = some (0, 1, false) := by kernel_rfl
@[simp] theorem fld_56_1 : fld Try.prog 56 1 = some (1, 1, false) := by kernel_rfl
@[simp] theorem fld_56_2 : fld Try.prog 56 2 = some (2, 1, false) := by kernel_rfl
@[simp] theorem isBytesT_56 : isBytes Try.prog 56 = false := by kernel_rfl
@[simp] theorem intOfT_56 : Av.intOf Try.prog 56 = none := by kernel_rfl
@[simp] theorem tyAgg_57 : tyAgg Try.prog 57 = some false := by kernel_rfl
@[simp] theorem tySize_57 : tySize Try.prog 57 = some 1 := by kernel_rfl
@[simp] theorem isSomeT_57 : Av.isSome Try.prog 57 = true := by kernel_rfl
@[simp] theorem isIfaceT_57 : isIface Try.prog 57 = false := by kernel_rfl
@[simp] theorem isStrT_57 : isStr Try.prog 57 = false := by kernel_rfl
@[simp] theorem zeroC_57 : zeroC Try.prog 57 = some [.sc .nilFunc] := by kernel_rfl
@[simp] theorem isPtrT_57 : isPtr Try.prog 57 = false := by kernel_rfl
@[simp] theorem isBytesT_57 : isBytes Try.prog 57 = false := by kernel_rfl
@[simp] theorem intOfT_57 : Av.intOf Try.prog 57 = none := by kernel_rfl
@[simp] theorem tyAgg_58 : tyAgg Try.prog 58 = some false := by kernel_rfl
@[simp] theorem tySize_58 : tySize Try.prog 58 = some 1 := by kernel_rfl
@[simp] theorem isSomeT_58 : Av.isSome Try.prog 58 = true := by kernel_rfl
@[simp] theorem isIfaceT_58 : isIface Try.prog 58 = false := by kernel_rfl
@[simp] theorem isStrT_58 : isStr Try.prog 58 = false := by kernel_rfl
@[simp] theorem zeroC_58 : zeroC Try.prog 58 = some [.sc .nilFunc] := by kernel_rfl
@[simp] theorem isPtrT_58 : isPtr Try.prog 58 = false := by kernel_rfl
@[simp] theorem isBytesT_58 : isBytes Try.prog 58 = false := by kernel_rfl
@[simp] theorem intOfT_58 : Av.intOf Try.prog 58 = none := by kernel_rfl
@[simp] theorem tyAgg_60 : tyAgg Try.prog 60 = some false := by kernel_rfl
@[simp] theorem tySize_60 : tySize Try.prog 60 = some 1 := by kernel_rfl
@[simp] theorem isSomeT_60 : Av.isSome Try.prog 60 = true := by kernel_rfl
@[simp] theorem isIfaceT_60 : isIface Try.prog 60 = false := by kernel_rfl
@[simp] theorem isStrT_60 : isStr Try.prog 60 = false := by kernel_rfl
@[simp] theorem zeroC_60 : zeroC Try.prog 60 = some [.sc .nilFunc] := by kernel_rfl
@[simp] theorem isPtrT_60 : isPtr Try.prog 60 = false := by kernel_rfl
@[simp] theorem isBytesT_60 : isBytes Try.prog 60 = false := by kernel_rfl
@[simp] theorem intOfT_60 : Av.intOf Try.prog 60 = none := by kernel_rfl
@[simp] theorem tyAgg_61 : tyAgg Try.prog 61 = some false := by kernel_rfl
@[simp] theorem tySize_61 : tySize Try.prog 61 = some 1 := by kernel_rfl
@[simp] theorem isSomeT_61 : Av.isSome Try.prog 61 = true := by kernel_rfl
@[simp] theorem isIfaceT_61 : isIface Try.prog 61 = false := by kernel_rfl
@[simp] theorem isStrT_61 : isStr Try.prog 61 = false := by kernel_rfl
@[simp] theorem zeroC_61 : zeroC Try.prog 61 = some [.sc .nilFunc] := by kernel_rfl
@[simp] theorem isPtrT_61 : isPtr Try.prog 61 = false := by kernel_rfl
@[simp] theorem isBytesT_61 : isBytes Try.prog 61 = false := by kernel_rfl
@[simp] theorem intOfT_61 : Av.intOf Try.prog 61 = none := by kernel_rfl
@[simp] theorem tyAgg_62 : tyAgg Try.prog 62 = some false := by kernel_rfl
@[simp] theorem tySize_62 : tySize Try.prog 62 = some 1 := by kernel_rfl
@[simp] theorem isSomeT_62 : Av.isSome Try.prog 62 = true := by kernel_rfl
@[simp] theorem isIfaceT_62 : isIface Try.prog 62 = false := by kernel_rfl
@[simp] theorem isStrT_62 : isStr Try.prog 62 = false := by kernel_rfl
@[simp] theorem zeroC_62 : zeroC Try.prog 62 = some [.sc .nilFunc] := by kernel_rfl
@[simp] theorem isPtrT_62 : isPtr Try.prog 62 = false := by kernel_rfl
@[simp] theorem isBytesT_62 : isBytes Try.prog 62 = false := by kernel_rfl
@[simp] theorem intOfT_62 : Av.intOf Try.prog 62 = none := by kernel_rfl
@[simp] theorem tyAgg_63 : tyAgg Try.prog 63 = some false := by kernel_rfl
@[simp] theorem tySize_63 : tySize Try.prog 63 = some 1 := by kernel_rfl
@[simp] theorem isSomeT_63 : Av.isSome Try.prog 63 = true := by kernel_rfl
@[simp] theorem isIfaceT_63 : isIface Try.prog 63 = false := by kernel_rfl
@[simp] theorem isStrT_63 : isStr Try.prog 63 = false := by kernel_rfl
@[simp] theorem zeroC_63 : zeroC Try.prog 63 = some [.sc .nilFunc] := by kernel_rfl
@[simp] theorem isPtrT_63 : isPtr Try.prog 63 = false := by kernel_rfl
@[simp] theorem isBytesT_63 : isBytes Try.prog 63 = false := by kernel_rfl
@[simp] theorem intOfT_63 : Av.intOf Try.prog 63 = none := by kernel_rfl
@[simp] theorem tyAgg_64 : tyAgg Try.prog 64 = some false := by kernel_rfl
@[simp] theorem tySize_64 : tySize Try.prog 64 = some 1 := by kernel_rfl
@[simp] theorem isSomeT_64 : Av.isSome Try.prog 64 = true := by kernel_rfl
@[simp] theorem isIfaceT_64 : isIface Try.prog 64 = false := by kernel_rfl
@[simp] theorem isStrT_64 : isStr Try.prog 64 = false := by kernel_rfl
@[simp] theorem zeroC_64 : zeroC Try.prog 64 = some [.sc .nilFunc] := by kernel_rfl
@[simp] theorem isPtrT_64 : isPtr Try.prog 64 = false := by kernel_rfl
@[simp] theorem isBytesT_64 : isBytes Try.prog 64 = false := by kernel_rfl
@[simp] theorem intOfT_64 : Av.intOf Try.prog 64 = none := by kernel_rfl
@[simp] theorem tyAgg_65 : tyAgg Try.prog 65 = some false := by kernel_rfl
@[simp] theorem tySize_65 : tySize Try.prog 65 = some 1 := by kernel_rfl
@[simp] theorem isSomeT_65 : Av.isSome Try.prog 65 = true := by kernel_rfl
@[simp] theorem isIfaceT_65 : isIface Try.prog 65 = false := by kernel_rfl
@[simp] theorem isStrT_65 : isStr Try.prog 65 = false := by kernel_rfl
@[simp] theorem zeroC_65 : zeroC Try.prog 65 = some [.sc .nilFunc] := by kernel_rfl
@[simp] theorem isPtrT_65 : isPtr Try.prog 65 = false := by kernel_rfl
@[simp] theorem isBytesT_65 : isBytes Try.prog 65 = false := by kernel_rfl
@[simp] theorem intOfT_65 : Av.intOf Try.prog 65 = none := by kernel_rfl
@[simp] theorem tyAgg_67 : tyAgg Try.prog 67 = some false := by kernel_rfl
@[simp] theorem tySize_67 : tySize Try.prog 67 = some 1 := by kernel_rfl
@[simp] theorem isSomeT_67 : Av.isSome Try.prog 67 = true := by kernel_rfl
@[simp] theorem isIfaceT_67 : isIface Try.prog 67 = false := by kernel_rfl
@[simp] theorem isStrT_67 : isStr Try.prog 67 = false := by kernel_rfl
@[simp] theorem zeroC_67 : zeroC Try.prog 67 = some [.sc .nilFunc] := by kernel_rfl
@[simp] theorem isPtrT_67 : isPtr Try.prog 67 = false := by kernel_rfl
@[simp] theorem isBytesT_67 : isBytes Try.prog 67 = false := by kernel_rfl
@[simp] theorem intOfT_67 : Av.intOf Try.prog 67 = none := by kernel_rfl
@[simp] theorem tyAgg_68 : tyAgg Try.prog 68 = some true := by kernel_rfl
@[simp] theorem tySize_68 : tySize Try.prog 68 = some 2 := by kernel_rfl
@[simp] theorem isSomeT_68 : Av.isSome Try.prog 68 = true := by kernel_rfl
@[simp] theorem isIfaceT_68 : isIface Try.prog 68 = false := by kernel_rfl
@[simp] theorem isStrT_68 : isStr Try.prog 68 = false := by kernel_rfl
@[simp] theorem zeroC_68 : zeroC Try.prog 68 = some [.str [], .sc (.int .i64 0)] := by kernel_rfl
@[simp] theorem fieldsOk_68 : fieldsOk Try.prog 68 = true := by kernel_rfl
@[simp] theorem isPtrT_68 : isPtr Try.prog 68 = false := by kernel_rfl
@[simp] theorem fldL_68 : fldL Try.prog 68 = some [(0, 9), (1, 3)] := by kernel_rfl
@[simp] theorem eqOkT_68 : eqOkT Try.prog 68 = true := by kernel_rfl
@[simp] theorem placeP_68_0 : placeP Try.prog 68 0 = some (0, 1) := by kernel_rfl
@[simp] theorem placeP_68_1 : placeP Try.prog 68 1 = some (1, 1) := by kernel_rfl
@[simp] theorem fld_68_0 : fld Try.prog 68 0 = some (0, 1, false) := by kernel_rfl
@[simp] theorem fld_68_1 : fld Try.prog 68 1 = some (1, 1, false) := by kernel_rfl
@[simp] theorem isBytesT_68 : isBytes Try.prog 68 = false := by kernel_rfl
@[simp] theorem intOfT_68 : Av.intOf Try.prog 68 = none := by kernel_rfl
@[simp] theorem tyAgg_69 : tyAgg Try.prog 69 = some true := by kernel_rfl
@[simp] theorem tySize_69 : tySize Try.prog 69 = some 2 := by kernel_rfl
@[simp] theorem isSomeT_69 : Av.isSome Try.prog 69 = true := by kernel_rfl
@[simp] theorem isIfaceT_69 : isIface Try.prog 69 = false := by kernel_rfl
@[simp] theorem isStrT_69 : isStr Try.prog 69 = false := by kernel_rfl
@[simp] theorem zeroC_69 : zeroC Try.prog 69 = some [.str [], .sc (.int .i64 0)] := by kernel_rfl
@[simp] theorem fieldsOk_69 : fieldsOk Try.prog 69 = true := by kernel_rfl
@[simp] theorem isPtrT_69 : isPtr Try.prog 69 = false := by kernel_rfl
@[simp] theorem fldL_69 : fldL Try.prog 69 = some [(0, 9), (1, 3)] := by kernel_rfl
@[simp] theorem eqOkT_69 : eqOkT Try.prog 69 = true := by kernel_rfl
@[simp] theorem placeP_69_0 : placeP Try.prog 69 0 = some (0, 1) := by kernel_rfl
@[simp] theorem placeP_69_1 : placeP Try.prog 69 1 = some (1, 1) := by kernel_rfl
@[simp] theorem fld_69_0 : fld Try.prog 69 0 = some (0, 1, false) := by kernel_rfl
@[simp] theorem fld_69_1 : fld Try.prog 69 1 = some (1, 1, false) := by kernel_rfl
@[simp] theorem isBytesT_69 : isBytes Try.prog 69 = false := by kernel_rfl
@[simp] theorem intOfT_69 : Av.intOf Try.prog 69 = none := by kernel_rfl
@[simp] theorem tyAgg_70 : tyAgg Try.prog 70 = some false := by kernel_rfl
@[simp] theorem tySize_70 : tySize Try.prog 70 = some 1 := by kernel_rfl
@[simp] theorem isSomeT_70 : Av.isSome Try.prog 70 = true := by kernel_rfl
@[simp] theorem isIfaceT_70 : isIface Try.prog 70 = true := by kernel_rfl
@[simp] theorem isStrT_70 : isStr Try.prog 70 = false := by kernel_rfl
@[simp] theorem zeroC_70 : zeroC Try.prog 70 = some [.sc .nilIface] := by kernel_rfl
@[simp] theorem isPtrT_70 : isPtr Try.prog 70 = false := by kernel_rfl
@[simp] theorem isBytesT_70 : isBytes Try.prog 70 = false := by kernel_rfl
@[simp] theorem intOfT_70 : Av.intOf Try.prog 70 = none := by kernel_rfl
@[simp] theorem tyAgg_71 : tyAgg Try.prog 71 = some false := by kernel_rfl
@[simp] theorem tySize_71 : tySize Try.prog 71 = some 1 := by kernel_rfl
@[simp] theorem isSomeT_71 : Av.isSome Try.prog 71 = true := by kernel_rfl
@[simp] theorem isIfaceT_71 : isIface Try.prog 71 = true := by kernel_rfl
@[simp] theorem isStrT_71 : isStr Try.prog 71 = false := by kernel_rfl
@[simp] theorem zeroC_71 : zeroC Try.prog 71 = some [.sc .nilIface] := by kernel_rfl
@[simp] theorem isPtrT_71 : isPtr Try.prog 71 = false := by kernel_rfl
@[simp] theorem isBytesT_71 : isBytes Try.prog 71 = false := by kernel_rfl
@[simp] theorem intOfT_71 : Av.intOf Try.prog 71 = none := by kernel_rfl
@[simp] theorem tyAgg_72 : tyAgg Try.prog 72 = some true := by kernel_rfl
@[simp] theorem tySize_72 : tySize Try.prog 72 = some 2 := by kernel_rfl
@[simp] theorem isSomeT_72 : Av.isSome Try.prog 72 = true := by kernel_rfl
@[simp] theorem isIfaceT_72 : isIface Try.prog 72 = false := by kernel_rfl
@[simp] theorem isStrT_72 : isStr Try.prog 72 = false := by kernel_rfl
@[simp] theorem zeroC_72 : zeroC Try.prog 72 = some [.sc .nilIface, .sc (.int .i64 0)] := by kernel_rfl
@[simp] theorem fieldsOk_72 : fieldsOk Try.prog 72 = true := by kernel_rfl
@[simp] theorem isPtrT_72 : isPtr Try.prog 72 = false := by kernel_rfl
@[simp] theorem placeP_72_0 : placeP Try.prog 72 0 = some (0, 1) := by kernel_rfl
@[simp] theorem placeP_72_1 : placeP Try.prog 72 1 = some (1, 1) := by kernel_rfl
@[simp] theorem fld_72_0 : fld Try.prog 72 0 = some (0, 1, false) := by kernel_rfl
@[simp] theorem fld_72_1 : fld Try.prog 72 1 = some (1, 1, false) := by kernel_rfl
@[simp] theorem isBytesT_72 : isBytes Try.prog 72 = false := by kernel_rfl
@[simp] theorem intOfT_72 : Av.intOf Try.prog 72 = none := by kernel_rfl
@[simp] theorem tyAgg_73 : tyAgg Try.prog 73 = some true := by kernel_rfl
@[simp] theorem tySize_73 : tySize Try.prog 73 = some 2 := by kernel_rfl
@[simp] theorem isSomeT_73 : Av.isSome Try.prog 73 = true := by kernel_rfl
@[simp] theorem isIfaceT_73 : isIface Try.prog 73 = false := by kernel_rfl
@[simp] theorem isStrT_73 : isStr Try.prog 73 = false := by kernel_rfl
@[simp] theorem zeroC_73 : zeroC Try.prog 73 = some [.sc .nilIface, .sc (.int .i64 0)] := by kernel_rfl
@[simp] theorem fieldsOk_73 : fieldsOk Try.prog 73 = true := by kernel_rfl
@[simp] theorem isPtrT_73 : isPtr Try.prog 73 = false := by kernel_rfl
@[simp] theorem placeP_73_0 : placeP Try.prog 73 0 = some (0, 1) := by kernel_rfl
@[simp] theorem placeP_73_1 : placeP Try.prog 73 1 = some (1, 1) := by kernel_rfl
@[simp] theorem fld_73_0 : fld Try.prog 73 0 = some (0, 1, false) := by kernel_rfl
@[simp] theorem fld_73_1 : fld Try.prog 73 1 = some (1, 1, false) := by kernel_rfl
@[simp] theorem isBytesT_73 : isBytes Try.prog 73 = false := by kernel_rfl
@[simp] theorem intOfT_73 : Av.intOf Try.prog 73 = none := by kernel_rfl
@[simp] theorem tyAgg_74 : tyAgg Try.prog 74 = some false := by kernel_rfl
@[simp] theorem tySize_74 : tySize Try.prog 74 = some 1 := by kernel_rfl
@[simp] theorem isSomeT_74 : Av.isSome Try.prog 74 = true := by kernel_rfl
@[simp] theorem isIfaceT_74 : isIface Try.prog 74 = false := by kernel_rfl
@[simp] theorem isStrT_74 : isStr Try.prog 74 = false := by kernel_rfl
@[simp] theorem zeroC_74 : zeroC Try.prog 74 = some [.sc .nilFunc] := by kernel_rfl
@[simp] theorem isPtrT_74 : isPtr Try.prog 74 = false := by kernel_rfl
@[simp] theorem isBytesT_74 : isBytes Try.prog 74 = false := by kernel_rfl
@[simp] theorem intOfT_74 : Av.intOf Try.prog 74 = none := by kernel_rfl
@[simp] theorem tyAgg_75 : tyAgg Try.prog 75 = some false := by kernel_rfl
@[simp] theorem tySize_75 : tySize Try.prog 75 = some 1 := by kernel_rfl
@[simp] theorem isSomeT_75 : Av.isSome Try.prog 75 = true := by kernel_rfl
@[simp] theorem isIfaceT_75 : isIface Try.prog 75 = false := by kernel_rfl
@[simp] theorem isStrT_75 : isStr Try.prog 75 = false := by kernel_rfl
@[simp] theorem zeroC_75 : zeroC Try.prog 75 = some [.nil] := by kernel_rfl
@[simp] theorem isPtrT_75 : isPtr Try.prog 75 = false := by kernel_rfl
@[simp] theorem elSize_75 : elSize Try.prog 75 = some 5 := by kernel_rfl
@[simp] theorem elTy_75 : elTy Try.prog 75 = some (82, 5, 72) := by kernel_rfl
@[simp] theorem isBytesT_75 : isBytes Try.prog 75 = false := by kernel_rfl
@[simp] theorem intOfT_75 : Av.intOf Try.prog 75 = none := by kernel_rfl
@[simp] theorem tyAgg_77 : tyAgg Try.prog 77 = some false := by kernel_rfl
@[simp] theorem tySize_77 : tySize Try.prog 77 = some 1 := by kernel_rfl
@[simp] theorem isSomeT_77 : Av.isSome Try.prog 77 = true := by kernel_rfl
@[simp] theorem isIfaceT_77 : isIface Try.prog 77 = false := by kernel_rfl
@[simp] theorem isStrT_77 : isStr Try.prog 77 = false := by kernel_rfl
@[simp] theorem zeroC_77 : zeroC Try.prog 77 = some [.sc .nilFunc] := by kernel_rfl
@[simp] theorem isPtrT_77 : isPtr Try.prog 77 = false := by kernel_rfl
@[simp] theorem isBytesT_77 : isBytes Try.prog 77 = false := by kernel_rfl
@[simp] theorem intOfT_77 : Av.intOf Try.prog 77 = none := by kernel_rfl
@[simp] theorem tyAgg_78 : tyAgg Try.prog 78 = some false := by kernel_rfl
@[simp] theorem tySize_78 : tySize Try.prog 78 = some 1 := by kernel_rfl
@[simp] theorem isSomeT_78 : Av.isSome Try.prog 78 = true := by kernel_rfl
@[simp] theorem isIfaceT_78 : isIface Try.prog 78 = false := by kernel_rfl
@[simp] theorem isStrT_78 : isStr Try.prog 78 = false := by kernel_rfl
@[simp] theorem zeroC_78 : zeroC Try.prog 78 = some [.sc (.pointer none)] := by kernel_rfl
@[simp] theorem isPtrT_78 : isPtr Try.prog 78 = true := by kernel_rfl
@[simp] theorem isBytesT_78 : isBytes Try.prog 78 = false := by kernel_rfl
@[simp] theorem intOfT_78 : Av.intOf Try.prog 78 = none := by kernel_rfl
@[simp] theorem tyAgg_79 : tyAgg Try.prog 79 = some true := by kernel_rfl
@[simp] theorem tySize_79 : tySize Try.prog 79 = some 2 := by kernel_rfl
@[simp] theorem isSomeT_79 : Av.isSome Try.prog 79 = true := by kernel_rfl
@[simp] theorem isIfaceT_79 : isIface Try.prog 79 = false := by kernel_rfl
@[simp] theorem isStrT_79 : isStr Try.prog 79 = false := by kernel_rfl
@[simp] theorem zeroC_79 : zeroC Try.prog 79 = some [.sc (.pointer none), .nil] := by kernel_rfl
@[simp] theorem fieldsOk_79 : fieldsOk Try.prog 79 = true := by kernel_rfl
@[simp] theorem isPtrT_79 : isPtr Try.prog 79 = false := by kernel_rfl
@[simp] theorem placeP_79_0 : placeP Try.prog 79 0 = some (0, 1) := by kernel_rfl
@[simp] theorem placeP_79_1 : placeP Try.prog 79 1 = some (1, 1) := by kernel_rfl
@[simp] theorem fld_79_0 : fld Try.prog 79 0 = some (0, 1, false) := by kernel_rfl
@[simp] theorem fld_79_1 : fld Try.prog 79 1 = some (1, 1, false) := by kernel_rfl
@[simp] theorem isBytesT_79 : isBytes Try.prog 79 = false := by kernel_rfl
@[simp] theorem intOfT_79 : Av.intOf Try.prog 79 = none := by kernel_rfl
@[simp] theorem tyAgg_80 : tyAgg Try.prog 80 = some true := by kernel_rfl
@[simp] theorem tySize_80 : tySize Try.prog 80 = some 2 := by kernel_rfl
@[simp] theorem isSomeT_80 : Av.isSome Try.prog 80 = true := by kernel_rfl
@[simp] theorem isIfaceT_80 : isIface Try.prog 80 = false := by kernel_rfl
@[simp] theorem isStrT_80 : isStr Try.prog 80 = false := by kernel_rfl
@[simp] theorem zeroC_80 : zeroC Try.prog 80 = some [.sc (.pointer none), .nil] := by kernel_rfl
@[simp] theorem fieldsOk_80 : fieldsOk Try.prog 80 = true := by kernel_rfl
@[simp] theorem isPtrT_80 : isPtr Try.prog 80 = false := by kernel_rfl
@[simp] theorem placeP_80_0 : placeP Try.prog 80 0 = some (0, 1) := by kernel_rfl
@[simp] theorem placeP_80_1 : placeP Try.prog 80 1 = some (1, 1) := by kernel_rfl
@[simp] theorem fld_80_0 : fld Try.prog 80 0 = some (0, 1, false) := by kernel_rfl
@[simp] theorem fld_80_1 : fld Try.prog 80 1 = some (1, 1, false) := by kernel_rfl
@[simp] theorem isBytesT_80 : isBytes Try.prog 80 = false := by kernel_rfl
@[simp] theorem intOfT_80 : Av.intOf Try.prog 80 = none := by kernel_rfl
@[simp] theorem tyAgg_81 : tyAgg Try.prog 81 = some true := by kernel_rfl
@[simp] theorem tySize_81 : tySize Try.prog 81 = some 5 := by kernel_rfl
@[simp] theorem isSomeT_81 : Av.isSome Try.prog 81 = true := by kernel_rfl
@[simp] theorem isIfaceT_81 : isIface Try.prog 81 = false := by kernel_rfl
@[simp] theorem isStrT_81 : isStr Try.prog 81 = false := by kernel_rfl
@[simp] theorem zeroC_81 : zeroC Try.prog 81 = some [.sc (.bool false), .nil, .nil, .sc (.int .i64 0), .sc (.int .i64 0)] := by kernel_rfl
@[simp] theorem fieldsOk_81 : fieldsOk Try.prog 81 = true := by kernel_rfl
@[simp] theorem isPtrT_81 : isPtr Try.prog 81 = false := by kernel_rfl
@[simp] theorem placeP_81_0 : placeP Try.prog 81 0 = some (0, 3) := by kernel_rfl
@[simp] theorem placeP_81_1 : placeP Try.prog 81 1 = some (3, 1) := by kernel_rfl
@[simp] theorem placeP_81_2 : placeP Try.prog 81 2 = some (4, 1) := by kernel_rfl
@[simp] theorem fld_81_0 : fld Try.prog 81 0 = some (0, 3, true) := by kernel_rfl
@[simp] theorem fld_81_1 : fld Try.prog 81 1 = some (3, 1, false) := by kernel_rfl
@[simp] theorem fld_81_2 : fld Try.prog 81 2 = some (4, 1, false) := by kernel_rfl
@[simp] theorem isBytesT_81 : isBytes Try.prog 81 = false := by kernel_rfl
@[simp] theorem intOfT_81 : Av.intOf Try.prog 81 = none := by kernel_rfl
@[simp] theorem tyAgg_82 : tyAgg Try.prog 82 = some true := by kernel_rfl
@[simp] theorem tySize_82 : tySize Try.prog 82 = some 5 := by kernel_rfl
@[simp] theorem isSomeT_82 : Av.isSome Try.prog 82 = true := by kernel_rfl
@[simp] theorem isIfaceT_82 : isIface Try.prog 82 = false := by kernel_rfl
@[simp] theorem isStrT_82 : isStr Try.prog 82 = false := by kernel_rfl
@[simp] theorem zeroC_82 : zeroC Try.prog 82 = some [.sc (.bool false), .nil, .nil, .sc (.int .i64 0), .sc (.int .i64 0)] := by kernel_rfl
@[simp] theorem fieldsOk_82 : fieldsOk Try.prog 82 = true := by kernel_rfl
@[simp] theorem isPtrT_82 : isPtr Try.prog 82 = false := by kernel_rfl
@[simp] theorem placeP_82_0 : placeP Try.prog 82 0 = some (0, 3) := by kernel_rfl
@[simp] theorem placeP_82_1 : placeP Try.prog 82 1 = some (3, 1) := by kernel_rfl
@[simp] theorem placeP_82_2 : placeP Try.prog 82 2 = some (4, 1) := by kernel_rfl
@[simp] theorem fld_82_0 : fld Try.prog 82 0 = some (0, 3, true) := by kernel_rfl
@[simp] theorem fld_82_1 : fld Try.prog 82 1 = some (3, 1, false) := by kernel_rfl
@[simp] theorem fld_82_2 : fld Try.prog 82 2 = some (4, 1, false) := by kernel_rfl
@[simp] theorem isBytesT_82 : isBytes Try.prog 82 = false := by kernel_rfl
@[simp] theorem intOfT_82 : Av.intOf Try.prog 82 = none := by kernel_rfl
@[simp] theorem tyAgg_83 : tyAgg Try.prog 83 = some false := by kernel_rfl
@[simp] theorem tySize_83 : tySize Try.prog 83 = some 1 := by kernel_rfl
@[simp] theorem isSomeT_83 : Av.isSome Try.prog 83 = true := by kernel_rfl
@[simp] theorem isIfaceT_83 : isIface Try.prog 83 = false := by kernel_rfl
@[simp] theorem isStrT_83 : isStr Try.prog 83 = false := by kernel_rfl
@[simp] theorem zeroC_83 : zeroC Try.prog 83 = some [.sc .nilFunc] := by kernel_rfl
@[simp] theorem isPtrT_83 : isPtr Try.prog 83 = false := by kernel_rfl
@[simp] theorem isBytesT_83 : isBytes Try.prog 83 = false := by kernel_rfl
@[simp] theorem intOfT_83 : Av.intOf Try.prog 83 = none := by kernel_rfl
@[simp] theorem tyAgg_84 : tyAgg Try.prog 84 = some false := by kernel_rfl
@[simp] theorem tySize_84 : tySize Try.prog 84 = some 1 := by kernel_rfl
@[simp] theorem isSomeT_84 : Av.isSome Try.prog 84 = true := by kernel_rfl
@[simp] theorem isIfaceT_84 : isIface Try.prog 84 = false := by kernel_rfl
@[simp] theorem isStrT_84 : isStr Try.prog 84 = false := by kernel_rfl
@[simp] theorem zeroC_84 : zeroC Try.prog 84 = some [.sc .nilFunc] := by kernel_rfl
@[simp] theorem isPtrT_84 : isPtr Try.prog 84 = false := by kernel_rfl
@[simp] theorem isBytesT_84 : isBytes Try.prog 84 = false := by kernel_rfl
@[simp] theorem intOfT_84 : Av.intOf Try.prog 84 = none := by kernel_rfl
@[simp] theorem tyAgg_86 : tyAgg Try.prog 86 = some false := by kernel_rfl
@[simp] theorem tySize_86 : tySize Try.prog 86 = some 1 := by kernel_rfl
@[simp] theorem isSomeT_86 : Av.isSome Try.prog 86 = true := by kernel_rfl
@[simp] theorem isIfaceT_86 : isIface Try.prog 86 = false := by kernel_rfl
@[simp] theorem isStrT_86 : isStr Try.prog 86 = false := by kernel_rfl
@[simp] theorem zeroC_86 : zeroC Try.prog 86 = some [.sc .nilFunc] := by kernel_rfl
@[simp] theorem isPtrT_86 : isPtr Try.prog 86 = false := by kernel_rfl
@[simp] theorem isBytesT_86 : isBytes Try.prog 86 = false := by kernel_rfl
@[simp] theorem intOfT_86 : Av.intOf Try.prog 86 = none := by kernel_rfl
@[simp] theorem tyAgg_87 : tyAgg Try.prog 87 = some false := by kernel_rfl
@[simp] theorem tySize_87 : tySize Try.prog 87 = some 1 := by kernel_rfl
@[simp] theorem isSomeT_87 : Av.isSome Try.prog 87 = true := by kernel_rfl
@[simp] theorem isIfaceT_87 : isIface Try.prog 87 = false := by kernel_rfl
@[simp] theorem isStrT_87 : isStr Try.prog 87 = false := by kernel_rfl
@[simp] theorem zeroC_87 : zeroC Try.prog 87 = some [.sc .nilFunc] := by kernel_rfl
@[simp] theorem isPtrT_87 : isPtr Try.prog 87 = false := by kernel_rfl
@[simp] theorem isBytesT_87 : isBytes Try.prog 87 = false := by kernel_rfl
@[simp] theorem intOfT_87 : Av.intOf Try.prog 87 = none := by kernel_rfl
@[simp] theorem tyAgg_88 : tyAgg Try.prog 88 = some false := by kernel_rfl
@[simp] theorem tySize_88 : tySize Try.prog 88 = some 1 := by kernel_rfl
@[simp] theorem isSomeT_88 : Av.isSome Try.prog 88 = true := by kernel_rfl
@[simp] theorem isIfaceT_88 : isIface Try.prog 88 = false := by kernel_rfl
@[simp] theorem isStrT_88 : isStr Try.prog 88 = false := by kernel_rfl
@[simp] theorem zeroC_88 : zeroC Try.prog 88 = some [.sc .nilFunc] := by kernel_rfl
@[simp] theorem isPtrT_88 : isPtr Try.prog 88 = false := by kernel_rfl
@[simp] theorem isBytesT_88 : isBytes Try.prog 88 = false := by kernel_rfl
@[simp] theorem intOfT_88 : Av.intOf Try.prog 88 = none := by kernel_rfl
@[simp] theorem tyAgg_89 : tyAgg Try.prog 89 = some false := by kernel_rfl
@[simp] theorem tySize_89 : tySize Try.prog 89 = some 1 := by kernel_rfl
@[simp] theorem isSomeT_89 : Av.isSome Try.prog 89 = true := by kernel_rfl
@[simp] theorem isIfaceT_89 : isIface Try.prog 89 = false := by kernel_rfl
@[simp] theorem isStrT_89 : isStr Try.prog 89 = false := by kernel_rfl
@[simp] theorem zeroC_89 : zeroC Try.prog 89 = some [.sc .nilFunc] := by kernel_rfl
@[simp] theorem isPtrT_89 : isPtr Try.prog 89 = false := by kernel_rfl
@[simp] theorem isBytesT_89 : isBytes Try.prog 89 = false := by kernel_rfl
@[simp] theorem intOfT_89 : Av.intOf Try.prog 89 = none := by kernel_rfl
@[simp] theorem tyAgg_91 : tyAgg Try.prog 91 = some false := by kernel_rfl
@[simp] theorem tySize_91 : tySize Try.prog 91 = some 1 := by kernel_rfl
@[simp] theorem isSomeT_91 : Av.isSome Try.prog 91 = true := by kernel_rfl
@[simp] theorem isIfaceT_91 : isIface Try.prog 91 = false := by kernel_rfl
@[simp] theorem isStrT_91 : isStr Try.prog 91 = false := by kernel_rfl
@[simp] theorem zeroC_91 : zeroC Try.prog 91 = some [.sc .nilFunc] := by kernel_rfl
@[simp] theorem isPtrT_91 : isPtr Try.prog 91 = false := by kernel_rfl
@[simp] theorem isBytesT_91 : isBytes Try.prog 91 = false := by kernel_rfl
@[simp] theorem intOfT_91 : Av.intOf Try.prog 91 = none := by kernel_rfl
@[simp] theorem tyAgg_92 : tyAgg Try.prog 92 = some false := by kernel_rfl
@[simp] theorem tySize_92 : tySize Try.prog 92 = some 1 := by kernel_rfl
@[simp] theorem isSomeT_92 : Av.isSome Try.prog 92 = true := by kernel_rfl
@[simp] theorem isIfaceT_92 : isIface Try.prog 92 = false := by kernel_rfl
@[simp] theorem isStrT_92 : isStr Try.prog 92 = false := by kernel_rfl
@[simp] theorem zeroC_92 : zeroC Try.prog 92 = some [.sc .nilFunc] := by kernel_rfl
@[simp] theorem isPtrT_92 : isPtr Try.prog 92 = false := by kernel_rfl
@[simp] theorem isBytesT_92 : isBytes Try.prog 92 = false := by kernel_rfl
@[simp] theorem intOfT_92 : Av.intOf Try.prog 92 = none := by kernel_rfl
@[simp] theorem tyAgg_93 : tyAgg Try.prog 93 = some false := by kernel_rfl
@[simp] theorem tySize_93 : tySize Try.prog 93 = some 1 := by kernel_rfl
@[simp] theorem isSomeT_93 : Av.isSome Try.prog 93 = true := by kernel_rfl
@[simp] theorem isIfaceT_93 : isIface Try.prog 93 = false := by kernel_rfl
@[simp] theorem isStrT_93 : isStr Try.prog 93 = false := by kernel_rfl
@[simp] theorem zeroC_93 : zeroC Try.prog 93 = some [.sc .nilFunc] := by kernel_rfl
@[simp] theorem isPtrT_93 : isPtr Try.prog 93 = false := by kernel_rfl
@[simp] theorem isBytesT_93 : isBytes Try.prog 93 = false := by kernel_rfl
@[simp] theorem intOfT_93 : Av.intOf Try.prog 93 = none := by kernel_rfl
@[simp] theorem tyAgg_94 : tyAgg Try.prog 94 = some false := by kernel_rfl
@[simp] theorem tySize_94 : tySize Try.prog 94 = some 1 := by kernel_rfl
@[simp] theorem isSomeT_94 : Av.isSome Try.prog 94 = true := by kernel_rfl
@[simp] theorem isIfaceT_94 : isIface Try.prog 94 = false := by kernel_rfl
@[simp] theorem isStrT_94 : isStr Try.prog 94 = false := by kernel_rfl
@[simp] theorem zeroC_94 : zeroC Try.prog 94 = some [.sc (.pointer none)] := by kernel_rfl
@[simp] theorem isPtrT_94 : isPtr Try.prog 94 = true := by kernel_rfl
@[simp] theorem isBytesT_94 : isBytes Try.prog 94 = false := by kernel_rfl
@[simp] theorem intOfT_94 : Av.intOf Try.prog 94 = none := by kernel_rfl
@[simp] theorem tyAgg_96 : tyAgg Try.prog 96 = some false := by kernel_rfl
@[simp] theorem tySize_96 : tySize Try.prog 96 = some 1 := by kernel_rfl
@[simp] theorem isSomeT_96 : Av.isSome Try.prog 96 = true := by kernel_rfl
@[simp] theorem isIfaceT_96 : isIface Try.prog 96 = false := by kernel_rfl
@[simp] theorem isStrT_96 : isStr Try.prog 96 = false := by kernel_rfl
@[simp] theorem zeroC_96 : zeroC Try.prog 96 = some [.sc .nilFunc] := by kernel_rfl
@[simp] theorem isPtrT_96 : isPtr Try.prog 96 = false := by kernel_rfl
@[simp] theorem isBytesT_96 : isBytes Try.prog 96 = false := by kernel_rfl
@[simp] theorem intOfT_96 : Av.intOf Try.prog 96 = none := by kernel_rfl
@[simp] theorem tyAgg_97 : tyAgg Try.prog 97 = some false := by kernel_rfl
@[simp] theorem tySize_97 : tySize Try.prog 97 = some 1 := by kernel_rfl
@[simp] theorem isSomeT_97 : Av.isSome Try.prog 97 = true := by kernel_rfl
@[simp] theorem isIfaceT_97 : isIface Try.prog 97 = false := by kernel_rfl
@[simp] theorem isStrT_97 : isStr Try.prog 97 = false := by kernel_rfl
@[simp] theorem zeroC_97 : zeroC Try.prog 97 = some [.sc .nilFunc] := by kernel_rfl
@[simp] theorem isPtrT_97 : isPtr Try.prog 97 = false := by kernel_rfl
@[simp] theorem isBytesT_97 : isBytes Try.prog 97 = false := by kernel_rfl
@[simp] theorem intOfT_97 : Av.intOf Try.prog 97 = none := by kernel_rfl
@[simp] theorem tyAgg_98 : tyAgg Try.prog 98 = some false := by kernel_rfl
@[simp] theorem tySize_98 : tySize Try.prog 98 = some 1 := by kernel_rfl
@[simp] theorem isSomeT_98 : Av.isSome Try.prog 98 = true := by kernel_rfl
@[simp] theorem isIfaceT_98 : isIface Try.prog 98 = false := by kernel_rfl
@[simp] theorem isStrT_98 : isStr Try.prog 98 = false := by kernel_rfl
@[simp] theorem zeroC_98 : zeroC Try.prog 98 = some [.sc (.pointer none)] := by kernel_rfl
@[simp] theorem isPtrT_98 : isPtr Try.prog 98 = true := by kernel_rfl
@[simp] theorem isBytesT_98 : isBytes Try.prog 98 = false := by kernel_rfl
@[simp] theorem intOfT_98 : Av.intOf Try.prog 98 = none := by kernel_rfl
@[simp] theorem tyAgg_99 : tyAgg Try.prog 99 = some true := by kernel_rfl
@[simp] theorem tySize_99 : tySize Try.prog 99 = some 3 := by kernel_rfl
@[simp] theorem isSomeT_99 : Av.isSome Try.prog 99 = true := by kernel_rfl
@[simp] theorem isIfaceT_99 : isIface Try.prog 99 = false := by kernel_rfl
@[simp] theorem isStrT_99 : isStr Try.prog 99 = false := by kernel_rfl
@[simp] theorem zeroC_99 : zeroC Try.prog 99 = some [.sc (.pointer none), .nil, .sc (.int .i64 0)] := by kernel_rfl
@[simp] theorem fieldsOk_99 : fieldsOk Try.prog 99 = true := by kernel_rfl
@[simp] theorem isPtrT_99 : isPtr Try.prog 99 = false := by kernel_rfl
@[simp] theorem placeP_99_0 : placeP Try.prog 99 0 = some (0, 1) := by kernel_rfl
@[simp] theorem placeP_99_1 : placeP Try.prog 99 1 = some (1, 1) := by kernel_rfl
@[simp] theorem placeP_99_2 : placeP Try.prog 99 2 = some (2, 1) := by kernel_rfl
@[simp] theorem fld_99_0 : fld Try.prog 99 0 = some (0, 1, false) := by kernel_rfl
@[simp] theorem fld_99_1 : fld Try.prog 99 1 = some (1, 1, false) := by kernel_rfl
@[simp] theorem fld_99_2 : fld Try.prog 99 2 = some (2, 1, false) := by kernel_rfl
@[simp] theorem isBytesT_99 : isBytes Try.prog 99 = false := by kernel_rfl
@[simp] theorem intOfT_99 : Av.intOf Try.prog 99 = none := by kernel_rfl
@[simp] theorem tyAgg_100 : tyAgg Try.prog 100 = some true := by kernel_rfl
@[simp] theorem tySize_100 : tySize Try.prog 100 = some 3 := by kernel_rfl
@[simp] theorem isSomeT_100 : Av.isSome Try.prog 100 = true := by kernel_rfl
@[simp] theorem isIfaceT_100 : isIface Try.prog 100 = false := by kernel_rfl
@[simp] theorem isStrT_100 : isStr Try.prog 100 = false := by kernel_rfl
@[simp] theorem zeroC_100 : zeroC Try.prog 100 = some [.sc (.pointer none), .nil, .sc (.int .i64 0)] := by kernel_rfl
@[simp] theorem fieldsOk_100 : fieldsOk Try.prog 100 = true := by kernel_rfl
@[simp] theorem isPtrT_100 : isPtr Try.prog 100 = false := by kernel_rfl
@[simp] theorem placeP_100_0 : placeP Try.prog 100 0 = some (0, 1) := by kernel_rfl
@[simp] theorem placeP_100_1 : placeP Try.prog 100 1 = some (1, 1) := by kernel_rfl
@[simp] theorem placeP_100_2 : placeP Try.prog 100 2 = some (2, 1) := by kernel_rfl
@[simp] theorem fld_100_0 : fld Try.prog 100 0 = some (0, 1, false) := by kernel_rfl
@[simp] theorem fld_100_1 : fld Try.prog 100 1 = some (1, 1, false) := by kernel_rfl
@[simp] theorem fld_100_2 : fld Try.prog 100 2 = some (2, 1, false) := by kernel_rfl
@[simp] theorem isBytesT_100 : isBytes Try.prog 100 = false := by kernel_rfl
@[simp] theorem intOfT_100 : Av.intOf Try.prog 100 = none := by kernel_rfl
@[simp] theorem tyAgg_101 : tyAgg Try.prog 101 = some false := by kernel_rfl
@[simp] theorem tySize_101 : tySize Try.prog 101 = some 1 := by kernel_rfl
@[simp] theorem isSomeT_101 : Av.isSome Try.prog 101 = true := by kernel_rfl
@[simp] theorem isIfaceT_101 : isIface Try.prog 101 = false := by kernel_rfl
@[simp] theorem isStrT_101 : isStr Try.prog 101 = false := by kernel_rfl
@[simp] theorem zeroC_101 : zeroC Try.prog 101 = some [.sc .nilFunc] := by kernel_rfl
@[simp] theorem isPtrT_101 : isPtr Try.prog 101 = false := by kernel_rfl
@[simp] theorem isBytesT_101 : isBytes Try.prog 101 = false := by kernel_rfl
@[simp] theorem intOfT_101 : Av.intOf Try.prog 101 = none := by kernel_rfl
@[simp] theorem tyAgg_102 : tyAgg Try.prog 102 = some false := by kernel_rfl
@[simp] theorem tySize_102 : tySize Try.prog 102 = some 1 := by kernel_rfl
@[simp] theorem isSomeT_102 : Av.isSome Try.prog 102 = true := by kernel_rfl
@[simp] theorem isIfaceT_102 : isIface Try.prog 102 = false := by kernel_rfl
@[simp] theorem isStrT_102 : isStr Try.prog 102 = false := by kernel_rfl
@[simp] theorem zeroC_102 : zeroC Try.prog 102 = some [.sc .nilFunc] := by kernel_rfl
@[simp] theorem isPtrT_102 : isPtr Try.prog 102 = false := by kernel_rfl
@[simp] theorem isBytesT_102 : isBytes Try.prog 102 = false := by kernel_rfl
@[simp] theorem intOfT_102 : Av.intOf Try.prog 102 = none := by kernel_rfl
@[simp] theorem tyAgg_103 : tyAgg Try.prog 103 = some false := by kernel_rfl
@[simp] theorem tySize_103 : tySize Try.prog 103 = some 1 := by kernel_rfl
@[simp] theorem isSomeT_103 : Av.isSome Try.prog 103 = true := by kernel_rfl
@[simp] theorem isIfaceT_103 : isIface Try.prog 103 = false := by kernel_rfl
@[simp] theorem isStrT_103 : isStr Try.prog 103 = false := by kernel_rfl
@[simp] theorem zeroC_103 : zeroC Try.prog 103 = some [.sc .nilFunc] := by kernel_rfl
@[simp] theorem isPtrT_103 : isPtr Try.prog 103 = false := by kernel_rfl
@[simp] theorem isBytesT_103 : isBytes Try.prog 103 = false := by kernel_rfl
@[simp] theorem intOfT_103 : Av.intOf Try.prog 103 = none := by kernel_rfl
@[simp] theorem tyAgg_104 : tyAgg Try.prog 104 = some false := by kernel_rfl
@[simp] theorem tySize_104 : tySize Try.prog 104 = some 1 := by kernel_rfl
@[simp] theorem isSomeT_104 : Av.isSome Try.prog 104 = true := by kernel_rfl
@[simp] theorem isIfaceT_104 : isIface Try.prog 104 = false := by kernel_rfl
@[simp] theorem isStrT_104 : isStr Try.prog 104 = false := by kernel_rfl
@[simp] theorem zeroC_104 : zeroC Try.prog 104 = some [.sc .nilFunc] := by kernel_rfl
@[simp] theorem isPtrT_104 : isPtr Try.prog 104 = false := by kernel_rfl
@[simp] theorem isBytesT_104 : isBytes Try.prog 104 = false := by kernel_rfl
@[simp] theorem intOfT_104 : Av.intOf Try.prog 104 = none := by kernel_rfl
@[simp] theorem tyAgg_105 : tyAgg Try.prog 105 = some false := by kernel_rfl
@[simp] theorem tySize_105 : tySize Try.prog 105 = some 1 := by kernel_rfl
@[simp] theorem isSomeT_105 : Av.isSome Try.prog 105 = true := by kernel_rfl
@[simp] theorem isIfaceT_105 : isIface Try.prog 105 = false := by kernel_rfl
@[simp] theorem isStrT_105 : isStr Try.prog 105 = false := by kernel_rfl
@[simp] theorem zeroC_105 : zeroC Try.prog 105 = some [.sc .nilFunc] := by kernel_rfl
@[simp] theorem isPtrT_105 : isPtr Try.prog 105 = false := by kernel_rfl
@[simp] theorem isBytesT_105 : isBytes Try.prog 105 = false := by kernel_rfl
@[simp] theorem intOfT_105 : Av.intOf Try.prog 105 = none := by kernel_rfl
@[simp] theorem tyAgg_106 : tyAgg Try.prog 106 = some false := by kernel_rfl
@[simp] theorem tySize_106 : tySize Try.prog 106 = some 1 := by kernel_rfl
@[simp] theorem isSomeT_106 : Av.isSome Try.prog 106 = true := by kernel_rfl
@[simp] theorem isIfaceT_106 : isIface Try.prog 106 = false := by kernel_rfl
@[simp] theorem isStrT_106 : isStr Try.prog 106 = false := by kernel_rfl
@[simp] theorem zeroC_106 : zeroC Try.prog 106 = some [.sc .nilFunc] := by kernel_rfl
@[simp] theorem isPtrT_106 : isPtr Try.prog 106 = false := by kernel_rfl
@[simp] theorem isBytesT_106 : isBytes Try.prog 106 = false := by kernel_rfl
@[simp] theorem intOfT_106 : Av.intOf Try.prog 106 = none := by kernel_rfl
@[simp] theorem tyAgg_107 : tyAgg Try.prog 107 = some false := by kernel_rfl
@[simp] theorem tySize_107 : tySize Try.prog 107 = some 1 := by kernel_rfl
@[simp] theorem isSomeT_107 : Av.isSome Try.prog 107 = true := by kernel_rfl
@[simp] theorem isIfaceT_107 : isIface Try.prog 107 = false := by kernel_rfl
@[simp] theorem isStrT_107 : isStr Try.prog 107 = false := by kernel_rfl
@[simp] theorem zeroC_107 : zeroC Try.prog 107 = some [.sc .nilFunc] := by kernel_rfl
@[simp] theorem isPtrT_107 : isPtr Try.prog 107 = false := by kernel_rfl
@[simp] theorem isBytesT_107 : isBytes Try.prog 107 = false := by kernel_rfl
@[simp] theorem intOfT_107 : Av.intOf Try.prog 107 = none := by kernel_rfl
@[simp] theorem tyAgg_108 : tyAgg Try.prog 108 = some false := by kernel_rfl
@[simp] theorem tySize_108 : tySize Try.prog 108 = some 1 := by kernel_rfl
@[simp] theorem isSomeT_108 : Av.isSome Try.prog 108 = true := by kernel_rfl
@[simp] theorem isIfaceT_108 : isIface Try.prog 108 = false := by kernel_rfl
@[simp] theorem isStrT_108 : isStr Try.prog 108 = false := by kernel_rfl
@[simp] theorem zeroC_108 : zeroC Try.prog 108 = some [.sc .nilFunc] := by kernel_rfl
@[simp] theorem isPtrT_108 : isPtr Try.prog 108 = false := by kernel_rfl
@[simp] theorem isBytesT_108 : isBytes Try.prog 108 = false := by kernel_rfl
@[simp] theorem intOfT_108 : Av.intOf Try.prog 108 = none := by kernel_rfl
@[simp] theorem tyAgg_109 : tyAgg Try.prog 109 = some false := by kernel_rfl
@[simp] theorem tySize_109 : tySize Try.prog 109 = some 1 := by kernel_rfl
@[simp] theorem isSomeT_109 : Av.isSome Try.prog 109 = true := by kernel_rfl
@[simp] theorem isIfaceT_109 : isIface Try.prog 109 = false := by kernel_rfl
@[simp] theorem isStrT_109 : isStr Try.prog 109 = false := by kernel_rfl
@[simp] theorem zeroC_109 : zeroC Try.prog 109 = some [.sc .nilFunc] := by kernel_rfl
@[simp] theorem isPtrT_109 : isPtr Try.prog 109 = false := by kernel_rfl
@[simp] theorem isBytesT_109 : isBytes Try.prog 109 = false := by kernel_rfl
@[simp] theorem intOfT_109 : Av.intOf Try.prog 109 = none := by kernel_rfl
@[simp] theorem tyAgg_111 : tyAgg Try.prog 111 = some false := by kernel_rfl
@[simp] theorem tySize_111 : tySize Try.prog 111 = some 1 := by kernel_rfl
@[simp] theorem isSomeT_111 : Av.isSome Try.prog 111 = true := by kernel_rfl
@[simp] theorem isIfaceT_111 : isIface Try.prog 111 = false := by kernel_rfl
@[simp] theorem isStrT_111 : isStr Try.prog 111 = false := by kernel_rfl
@[simp] theorem zeroC_111 : zeroC Try.prog 111 = some [.sc .nilFunc] := by kernel_rfl
@[simp] theorem isPtrT_111 : isPtr Try.prog 111 = false := by kernel_rfl
@[simp] theorem isBytesT_111 : isBytes Try.prog 111 = false := by kernel_rfl
@[simp] theorem intOfT_111 : Av.intOf Try.prog 111 = none := by kernel_rfl
@[simp] theorem tyAgg_113 : tyAgg Try.prog 113 = some false := by kernel_rfl
@[simp] theorem tySize_113 : tySize Try.prog 113 = some 1 := by kernel_rfl
@[simp] theorem isSomeT_113 : Av.isSome Try.prog 113 = true := by kernel_rfl
@[simp] theorem isIfaceT_113 : isIface Try.prog 113 = false := by kernel_rfl
@[simp] theorem isStrT_113 : isStr Try.prog 113 = false := by kernel_rfl
@[simp] theorem zeroC_113 : zeroC Try.prog 113 = some [.sc .nilFunc] := by kernel_rfl
@[simp] theorem isPtrT_113 : isPtr Try.prog 113 = false := by kernel_rfl
@[simp] theorem isBytesT_113 : isBytes Try.prog 113 = false := by kernel_rfl
@[simp] theorem intOfT_113 : Av.intOf Try.prog 113 = none := by kernel_rfl
@[simp] theorem tyAgg_114 : tyAgg Try.prog 114 = some false := by kernel_rfl
@[simp] theorem tySize_114 : tySize Try.prog 114 = some 1 := by kernel_rfl
@[simp] theorem isSomeT_114 : Av.isSome Try.prog 114 = true := by kernel_rfl
@[simp] theorem isIfaceT_114 : isIface Try.prog 114 = false := by kernel_rfl
@[simp] theorem isStrT_114 : isStr Try.prog 114 = false := by kernel_rfl
@[simp] theorem zeroC_114 : zeroC Try.prog 114 = some [.sc .nilFunc] := by kernel_rfl
@[simp] theorem isPtrT_114 : isPtr Try.prog 114 = false := by kernel_rfl
@[simp] theorem isBytesT_114 : isBytes Try.prog 114 = false := by kernel_rfl
@[simp] theorem intOfT_114 : Av.intOf Try.prog 114 = none := by kernel_rfl
@[simp] theorem tyAgg_115 : tyAgg Try.prog 115 = some false := by kernel_rfl
@[simp] theorem tySize_115 : tySize Try.prog 115 = some 1 := by kernel_rfl
@[simp] theorem isSomeT_115 : Av.isSome Try.prog 115 = true := by kernel_rfl
@[simp] theorem isIfaceT_115 : isIface Try.prog 115 = false := by kernel_rfl
@[simp] theorem isStrT_115 : isStr Try.prog 115 = false := by kernel_rfl
@[simp] theorem zeroC_115 : zeroC Try.prog 115 = some [.sc .nilFunc] := by kernel_rfl
@[simp] theorem isPtrT_115 : isPtr Try.prog 115 = false := by kernel_rfl
@[simp] theorem isBytesT_115 : isBytes Try.prog 115 = false := by kernel_rfl
@[simp] theorem intOfT_115 : Av.intOf Try.prog 115 = none := by kernel_rfl
@[simp] theorem tyAgg_116 : tyAgg Try.prog 116 = some false := by kernel_rfl
@[simp] theorem tySize_116 : tySize Try.prog 116 = some 1 := by kernel_rfl
@[simp] theorem isSomeT_116 : Av.isSome Try.prog 116 = true := by kernel_rfl
@[simp] theorem isIfaceT_116 : isIface Try.prog 116 = false := by kernel_rfl
@[simp] theorem isStrT_116 : isStr Try.prog 116 = false := by kernel_rfl
@[simp] theorem zeroC_116 : zeroC Try.prog 116 = some [.sc .nilFunc] := by kernel_rfl
@[simp] theorem isPtrT_116 : isPtr Try.prog 116 = false := by kernel_rfl
@[simp] theorem isBytesT_116 : isBytes Try.prog 116 = false := by kernel_rfl
@[simp] theorem intOfT_116 : Av.intOf Try.prog 116 = none := by kernel_rfl
@[simp] theorem tyAgg_117 : tyAgg Try.prog 117 = some false := by kernel_rfl
@[simp] theorem tySize_117 : tySize Try.prog 117 = some 1 := by kernel_rfl
@[simp] theorem isSomeT_117 : Av.isSome Try.prog 117 = true := by kernel_rfl
@[simp] theorem isIfaceT_117 : isIface Try.prog 117 = false := by kernel_rfl
@[simp] theorem isStrT_117 : isStr Try.prog 117 = false := by kernel_rfl
@[simp] theorem zeroC_117 : zeroC Try.prog 117 = some [.sc .nilFunc] := by kernel_rfl
@[simp] theorem isPtrT_117 : isPtr Try.prog 117 = false := by kernel_rfl
@[simp] theorem isBytesT_117 : isBytes Try.prog 117 = false := by kernel_rfl
@[simp] theorem intOfT_117 : Av.intOf Try.prog 117 = none := by kernel_rfl
@[simp] theorem tyAgg_118 : tyAgg Try.prog 118 = some false := by kernel_rfl
@[simp] theorem tySize_118 : tySize Try.prog 118 = some 1 := by kernel_rfl
@[simp] theorem isSomeT_118 : Av.isSome Try.prog 118 = true := by kernel_rfl
@[simp] theorem isIfaceT_118 : isIface Try.prog 118 = false := by kernel_rfl
@[simp] theorem isStrT_118 : isStr Try.prog 118 = false := by kernel_rfl
@[simp] theorem zeroC_118 : zeroC Try.prog 118 = some [.sc .nilFunc] := by kernel_rfl
@[simp] theorem isPtrT_118 : isPtr Try.prog 118 = false := by kernel_rfl
@[simp] theorem isBytesT_118 : isBytes Try.prog 118 = false := by kernel_rfl
@[simp] theorem intOfT_118 : Av.intOf Try.prog 118 = none := by kernel_rfl
@[simp] theorem tyAgg_119 : tyAgg Try.prog 119 = some true := by kernel_rfl
@[simp] theorem tySize_119 : tySize Try.prog 119 = some 7 := by kernel_rfl
@[simp] theorem isSomeT_119 : Av.isSome Try.prog 119 = true := by kernel_rfl
@[simp] theorem isIfaceT_119 : isIface Try.prog 119 = false := by kernel_rfl
@[simp] theorem isStrT_119 : isStr Try.prog 119 = false := by kernel_rfl
@[simp] theorem zeroC_119 : zeroC Try.prog 119 = some [.sc (.int .i64 0), .sc (.bool false), .nil, .nil, .sc (.bool false), .nil, .nil] := by kernel_rfl
@[simp] theorem fieldsOk_119 : fieldsOk Try.prog 119 = true := by kernel_rfl
@[simp] theorem isPtrT_119 : isPtr Try.prog 119 = false := by kernel_rfl
@[simp] theorem placeP_119_0 : placeP Try.prog 119 0 = some (0, 1) := by kernel_rfl
@[simp] theorem placeP_119_1 : placeP Try.prog 119 1 = some (1, 3) := by kernel_rfl
@[simp] theorem placeP_119_2 : placeP Try.prog 119 2 = some (4, 3) := by kernel_rfl
@[simp] theorem fld_119_0 : fld Try.prog 119 0 = some (0, 1, false) := by kernel_rfl
@[simp] theorem fld_119_1 : fld Try.prog 119 1 = some (1, 3, true) := by kernel_rfl
@[simp] theorem fld_119_2 : fld Try.prog 119 2 = some (4, 3, true) := by kernel_rfl
@[simp] theorem isBytesT_119 : isBytes Try.prog 119 = false := by kernel_rfl
@[simp] theorem intOfT_119 : Av.intOf Try.prog 119 = none := by kernel_rfl
@[simp] theorem tyAgg_120 : tyAgg Try.prog 120 = some true := by kernel_rfl
@[simp] theorem tySize_120 : tySize Try.prog 120 = some 7 := by kernel_rfl
@[simp] theorem isSomeT_120 : Av.isSome Try.prog 120 = true := by kernel_rfl
@[simp] theorem isIfaceT_120 : isIface Try.prog 120 = false := by kernel_rfl
@[simp] theorem isStrT_120 : isStr Try.prog 120 = false := by kernel_rfl
@[simp] theorem zeroC_120 : zeroC Try.prog 120 = some [.sc (.int .i64 0), .sc (.bool false), .nil, .nil, .sc (.bool false), .nil, .nil] := by kernel_rfl
@[simp] theorem fieldsOk_120 : fieldsOk Try.prog 120 = true := by kernel_rfl
@[simp] theorem isPtrT_120 : isPtr Try.prog 120 = false := by kernel_rfl
@[simp] theorem placeP_120_0 : placeP Try.prog 120 0 = some (0, 1) := by kernel_rfl
@[simp] theorem placeP_120_1 : placeP Try.prog 120 1 = some (1, 3) := by kernel_rfl
@[simp] theorem placeP_120_2 : placeP Try.prog 120 2 = some (4, 3) := by kernel_rfl
@[simp] theorem fld_120_0 : fld Try.prog 120 0 = some (0, 1, false) := by kernel_rfl
@[simp] theorem fld_120_1 : fld Try.prog 120 1 = some (1, 3, true) := by kernel_rfl
@[simp] theorem fld_120_2 : fld Try.prog 120 2 = some (4, 3, true) := by kernel_rfl
@[simp] theorem isBytesT_120 : isBytes Try.prog 120 = false := by kernel_rfl
@[simp] theorem intOfT_120 : Av.intOf Try.prog 120 = none := by kernel_rfl
@[simp] theorem tyAgg_122 : tyAgg Try.prog 122 = some false := by kernel_rfl
@[simp] theorem tySize_122 : tySize Try.prog 122 = some 1 := by kernel_rfl
@[simp] theorem isSomeT_122 : Av.isSome Try.prog 122 = true := by kernel_rfl
@[simp] theorem isIfaceT_122 : isIface Try.prog 122 = false := by kernel_rfl
@[simp] theorem isStrT_122 : isStr Try.prog 122 = false := by kernel_rfl
@[simp] theorem zeroC_122 : zeroC Try.prog 122 = some [.sc .nilFunc] := by kernel_rfl
@[simp] theorem isPtrT_122 : isPtr Try.prog 122 = false := by kernel_rfl
@[simp] theorem isBytesT_122 : isBytes Try.prog 122 = false := by kernel_rfl
@[simp] theorem intOfT_122 : Av.intOf Try.prog 122 = none := by kernel_rfl
@[simp] theorem tyAgg_123 : tyAgg Try.prog 123 = some false := by kernel_rfl
@[simp] theorem tySize_123 : tySize Try.prog 123 = some 1 := by kernel_rfl
@[simp] theorem isSomeT_123 : Av.isSome Try.prog 123 = true := by kernel_rfl
@[simp] theorem isIfaceT_123 : isIface Try.prog 123 = false := by kernel_rfl
@[simp] theorem isStrT_123 : isStr Try.prog 123 = false := by kernel_rfl
@[simp] theorem zeroC_123 : zeroC Try.prog 123 = some [.sc .nilFunc] := by kernel_rfl
@[simp] theorem isPtrT_123 : isPtr Try.prog 123 = false := by kernel_rfl
@[simp] theorem isBytesT_123 : isBytes Try.prog 123 = false := by kernel_rfl
@[simp] theorem intOfT_123 : Av.intOf Try.prog 123 = none := by kernel_rfl
@[simp] theorem tyAgg_124 : tyAgg Try.prog 124 = some false := by kernel_rfl
@[simp] theorem tySize_124 : tySize Try.prog 124 = some 1 := by kernel_rfl
@[simp] theorem isSomeT_124 : Av.isSome Try.prog 124 = true := by kernel_rfl
@[simp] theorem isIfaceT_124 : isIface Try.prog 124 = false := by kernel_rfl
@[simp] theorem isStrT_124 : isStr Try.prog 124 = false := by kernel_rfl
@[simp] theorem zeroC_124 : zeroC Try.prog 124 = some [.sc .nilFunc] := by kernel_rfl
@[simp] theorem isPtrT_124 : isPtr Try.prog 124 = false := by kernel_rfl
@[simp] theorem isBytesT_124 : isBytes Try.prog 124 = false := by kernel_rfl
@[simp] theorem intOfT_124 : Av.intOf Try.prog 124 = none := by kernel_rfl
@[simp] theorem tyAgg_125 : tyAgg Try.prog 125 = some false := by kernel_rfl
@[simp] theorem tySize_125 : tySize Try.prog 125 = some 1 := by kernel_rfl
@[simp] theorem isSomeT_125 : Av.isSome Try.prog 125 = true := by kernel_rfl
@[simp] theorem isIfaceT_125 : isIface Try.prog 125 = false := by kernel_rfl
@[simp] theorem isStrT_125 : isStr Try.prog 125 = false := by kernel_rfl
@[simp] theorem zeroC_125 : zeroC Try.prog 125 = some [.sc .nilFunc] := by kernel_rfl
@[simp] theorem isPtrT_125 : isPtr Try.prog 125 = false := by kernel_rfl
@[simp] theorem isBytesT_125 : isBytes Try.prog 125 = false := by kernel_rfl
@[simp] theorem intOfT_125 : Av.intOf Try.prog 125 = none := by kernel_rfl
@[simp] theorem tyAgg_126 : tyAgg Try.prog 126 = some false := by kernel_rfl
@[simp] theorem tySize_126 : tySize Try.prog 126 = some 1 := by kernel_rfl
@[simp] theorem isSomeT_126 : Av.isSome Try.prog 126 = true := by kernel_rfl
@[simp] theorem isIfaceT_126 : isIface Try.prog 126 = false := by kernel_rfl
@[simp] theorem isStrT_126 : isStr Try.prog 126 = false := by kernel_rfl
@[simp] theorem zeroC_126 : zeroC Try.prog 126 = some [.sc .nilFunc] := by kernel_rfl
@[simp] theorem isPtrT_126 : isPtr Try.prog 126 = false := by kernel_rfl
@[simp] theorem isBytesT_126 : isBytes Try.prog 126 = false := by kernel_rfl
@[simp] theorem intOfT_126 : Av.intOf Try.prog 126 = none := by kernel_rfl
@[simp] theorem tyAgg_127 : tyAgg Try.prog 127 = some false := by kernel_rfl
@[simp] theorem tySize_127 : tySize Try.prog 127 = some 1 := by kernel_rfl
@[simp] theorem isSomeT_127 : Av.isSome Try.prog 127 = true := by kernel_rfl
@[simp] theorem isIfaceT_127 : isIface Try.prog 127 = false := by kernel_rfl
@[simp] theorem isStrT_127 : isStr Try.prog 127 = false := by kernel_rfl
@[simp] theorem zeroC_127 : zeroC Try.prog 127 = some [.sc .nilFunc] := by kernel_rfl
@[simp] theorem isPtrT_127 : isPtr Try.prog 127 = false := by kernel_rfl
@[simp] theorem isBytesT_127 : isBytes Try.prog 127 = false := by kernel_rfl
@[simp] theorem intOfT_127 : Av.intOf Try.prog 127 = none := by kernel_rfl
@[simp] theorem tyAgg_128 : tyAgg Try.prog 128 = some false := by kernel_rfl
@[simp] theorem tySize_128 : tySize Try.prog 128 = some 1 := by kernel_rfl
@[simp] theorem isSomeT_128 : Av.isSome Try.prog 128 = true := by kernel_rfl
@[simp] theorem isIfaceT_128 : isIface Try.prog 128 = false := by kernel_rfl
@[simp] theorem isStrT_128 : isStr Try.prog 128 = false := by kernel_rfl
@[simp] theorem zeroC_128 : zeroC Try.prog 128 = some [.sc .nilFunc] := by kernel_rfl
@[simp] theorem isPtrT_128 : isPtr Try.prog 128 = false := by kernel_rfl
@[simp] theorem isBytesT_128 : isBytes Try.prog 128 = false := by kernel_rfl
@[simp] theorem intOfT_128 : Av.intOf Try.prog 128 = none := by kernel_rfl
@[simp] theorem tyAgg_129 : tyAgg Try.prog 129 = some false := by kernel_rfl
@[simp] theorem tySize_129 : tySize Try.prog 129 = some 1 := by kernel_rfl
@[simp] theorem isSomeT_129 : Av.isSome Try.prog 129 = true := by kernel_rfl
@[simp] theorem isIfaceT_129 : isIface Try.prog 129 = false := by kernel_rfl
@[simp] theorem isStrT_129 : isStr Try.prog 129 = false := by kernel_rfl
@[simp] theorem zeroC_129 : zeroC Try.prog 129 = some [.sc .nilFunc] := by kernel_rfl
@[simp] theorem isPtrT_129 : isPtr Try.prog 129 = false := by kernel_rfl
@[simp] theorem isBytesT_129 : isBytes Try.prog 129 = false := by kernel_rfl
@[simp] theorem intOfT_129 : Av.intOf Try.prog 129 = none := by kernel_rfl
@[simp] theorem tyAgg_130 : tyAgg Try.prog 130 = some false := by kernel_rfl
@[simp] theorem tySize_130 : tySize Try.prog 130 = some 1 := by kernel_rfl
@[simp] theorem isSomeT_130 : Av.isSome Try.prog 130 = true := by kernel_rfl
@[simp] theorem isIfaceT_130 : isIface Try.prog 130 = false := by kernel_rfl
@[simp] theorem isStrT_130 : isStr Try.prog 130 = false := by kernel_rfl
@[simp] theorem zeroC_130 : zeroC Try.prog 130 = some [.sc .nilFunc] := by kernel_rfl
@[simp] theorem isPtrT_130 : isPtr Try.prog 130 = false := by kernel_rfl
@[simp] theorem isBytesT_130 : isBytes Try.prog 130 = false := by kernel_rfl
@[simp] theorem intOfT_130 : Av.intOf Try.prog 130 = none := by kernel_rfl
@[simp] theorem tyAgg_131 : tyAgg Try.prog 131 = some false := by kernel_rfl
@[simp] theorem tySize_131 : tySize Try.prog 131 = some 1 := by kernel_rfl
@[simp] theorem isSomeT_131 : Av.isSome Try.prog 131 = true := by kernel_rfl
@[simp] theorem isIfaceT_131 : isIface Try.prog 131 = false := by kernel_rfl
@[simp] theorem isStrT_131 : isStr Try.prog 131 = false := by kernel_rfl
@[simp] theorem zeroC_131 : zeroC Try.prog 131 = some [.sc .nilFunc] := by kernel_rfl
@[simp] theorem isPtrT_131 : isPtr Try.prog 131 = false := by kernel_rfl
@[simp] theorem isBytesT_131 : isBytes Try.prog 131 = false := by kernel_rfl
@[simp] theorem intOfT_131 : Av.intOf Try.prog 131 = none := by kernel_rfl
@[simp] theorem tyAgg_132 : tyAgg Try.prog 132 = some false := by kernel_rfl
@[simp] theorem tySize_132 : tySize Try.prog 132 = some 1 := by kernel_rfl
@[simp] theorem isSomeT_132 : Av.isSome Try.prog 132 = true := by kernel_rfl
@[simp] theorem isIfaceT_132 : isIface Try.prog 132 = false := by kernel_rfl
@[simp] theorem isStrT_132 : isStr Try.prog 132 = false := by kernel_rfl
@[simp] theorem zeroC_132 : zeroC Try.prog 132 = some [.sc .nilFunc] := by kernel_rfl
@[simp] theorem isPtrT_132 : isPtr Try.prog 132 = false := by kernel_rfl
@[simp] theorem isBytesT_132 : isBytes Try.prog 132 = false := by kernel_rfl
@[simp] theorem intOfT_132 : Av.intOf Try.prog 132 = none := by kernel_rfl
@[simp] theorem tyAgg_133 : tyAgg Try.prog 133 = some false := by kernel_rfl
@[simp] theorem tySize_133 : tySize Try.prog 133 = some 1 := by kernel_rfl
@[simp] theorem isSomeT_133 : Av.isSome Try.prog 133 = true := by kernel_rfl
@[simp] theorem isIfaceT_133 : isIface Try.prog 133 = false := by kernel_rfl
@[simp] theorem isStrT_133 : isStr Try.prog 133 = false := by kernel_rfl
@[simp] theorem zeroC_133 : zeroC Try.prog 133 = some [.sc .nilFunc] := by kernel_rfl
@[simp] theorem isPtrT_133 : isPtr Try.prog 133 = false := by kernel_rfl
@[simp] theorem isBytesT_133 : isBytes Try.prog 133 = false := by kernel_rfl
@[simp] theorem intOfT_133 : Av.intOf Try.prog 133 = none := by kernel_rfl
@[simp] theorem tyAgg_134 : tyAgg Try.prog 134 = some false := by kernel_rfl
@[simp] theorem tySize_134 : tySize Try.prog 134 = some 1 := by kernel_rfl
@[simp] theorem isSomeT_134 : Av.isSome Try.prog 134 = true := by kernel_rfl
@[simp] theorem isIfaceT_134 : isIface Try.prog 134 = false := by kernel_rfl
@[simp] theorem isStrT_134 : isStr Try.prog 134 = false := by kernel_rfl
@[simp] theorem zeroC_134 : zeroC Try.prog 134 = some [.sc .nilFunc] := by kernel_rfl
@[simp] theorem isPtrT_134 : isPtr Try.prog 134 = false := by kernel_rfl
@[simp] theorem isBytesT_134 : isBytes Try.prog 134 = false := by kernel_rfl
@[simp] theorem intOfT_134 : Av.intOf Try.prog 134 = none := by kernel_rfl
@[simp] theorem tyAgg_135 : tyAgg Try.prog 135 = some false := by kernel_rfl
@[simp] theorem tySize_135 : tySize Try.prog 135 = some 1 := by kernel_rfl
@[simp] theorem isSomeT_135 : Av.isSome Try.prog 135 = true := by kernel_rfl
@[simp] theorem isIfaceT_135 : isIface Try.prog 135 = false := by kernel_rfl
@[simp] theorem isStrT_135 : isStr Try.prog 135 = false := by kernel_rfl
@[simp] theorem zeroC_135 : zeroC Try.prog 135 = some [.sc .nilFunc] := by kernel_rfl
@[simp] theorem isPtrT_135 : isPtr Try.prog 135 = false := by kernel_rfl
@[simp] theorem isBytesT_135 : isBytes Try.prog 135 = false := by kernel_rfl
@[simp] theorem intOfT_135 : Av.intOf Try.prog 135 = none := by kernel_rfl
@[simp] theorem tyAgg_136 : tyAgg Try.prog 136 = some false := by kernel_rfl
@[simp] theorem tySize_136 : tySize Try.prog 136 = some 1 := by kernel_rfl
@[simp] theorem isSomeT_136 : Av.isSome Try.prog 136 = true := by kernel_rfl
@[simp] theorem isIfaceT_136 : isIface Try.prog 136 = false := by kernel_rfl
@[simp] theorem isStrT_136 : isStr Try.prog 136 = false := by kernel_rfl
@[simp] theorem zeroC_136 : zeroC Try.prog 136 = some [.sc .nilFunc] := by kernel_rfl
@[simp] theorem isPtrT_136 : isPtr Try.prog 136 = false := by kernel_rfl
@[simp] theorem isBytesT_136 : isBytes Try.prog 136 = false := by kernel_rfl
@[simp] theorem intOfT_136 : Av.intOf Try.prog 136 = none := by kernel_rfl
@[simp] theorem tyAgg_137 : tyAgg Try.prog 137 = some false := by kernel_rfl
@[simp] theorem tySize_137 : tySize Try.prog 137 = some 1 := by kernel_rfl
@[simp] theorem isSomeT_137 : Av.isSome Try.prog 137 = true := by kernel_rfl
@[simp] theorem isIfaceT_137 : isIface Try.prog 137 = false := by kernel_rfl
@[simp] theorem isStrT_137 : isStr Try.prog 137 = false := by kernel_rfl
@[simp] theorem zeroC_137 : zeroC Try.prog 137 = some [.sc .nilFunc] := by kernel_rfl
@[simp] theorem isPtrT_137 : isPtr Try.prog 137 = false := by kernel_rfl
@[simp] theorem isBytesT_137 : isBytes Try.prog 137 = false := by kernel_rfl
@[simp] theorem intOfT_137 : Av.intOf Try.prog 137 = none := by kernel_rfl
@[simp] theorem tyAgg_138 : tyAgg Try.prog 138 = some false := by kernel_rfl
@[simp] theorem tySize_138 : tySize Try.prog 138 = some 1 := by kernel_rfl
@[simp] theorem isSomeT_138 : Av.isSome Try.prog 138 = true := by kernel_rfl
@[simp] theorem isIfaceT_138 : isIface Try.prog 138 = false := by kernel_rfl
@[simp] theorem isStrT_138 : isStr Try.prog 138 = false := by kernel_rfl
@[simp] theorem zeroC_138 : zeroC Try.prog 138 = some [.sc .nilFunc] := by kernel_rfl
@[simp] theorem isPtrT_138 : isPtr Try.prog 138 = false := by kernel_rfl
@[simp] theorem isBytesT_138 : isBytes Try.prog 138 = false := by kernel_rfl
@[simp] theorem intOfT_138 : Av.intOf Try.prog 138 = none := by kernel_rfl
@[simp] theorem tyAgg_139 : tyAgg Try.prog 139 = some false := by kernel_rfl
@[simp] theorem tySize_139 : tySize Try.prog 139 = some 1 := by kernel_rfl
@[simp] theorem isSomeT_139 : Av.isSome Try.prog 139 = true := by kernel_rfl
@[simp] theorem isIfaceT_139 : isIface Try.prog 139 = false := by kernel_rfl
@[simp] theorem isStrT_139 : isStr Try.prog 139 = false := by kernel_rfl
@[simp] theorem zeroC_139 : zeroC Try.prog 139 = some [.sc .nilFunc] := by kernel_rfl
@[simp] theorem isPtrT_139 : isPtr Try.prog 139 = false := by kernel_rfl
@[simp] theorem isBytesT_139 : isBytes Try.prog 139 = false := by kernel_rfl
@[simp] theorem intOfT_139 : Av.intOf Try.prog 139 = none := by kernel_rfl
@[simp] theorem tyAgg_140 : tyAgg Try.prog 140 = some false := by kernel_rfl
@[simp] theorem tySize_140 : tySize Try.prog 140 = some 1 := by kernel_rfl
@[simp] theorem isSomeT_140 : Av.isSome Try.prog 140 = true := by kernel_rfl
@[simp] theorem isIfaceT_140 : isIface Try.prog 140 = false := by kernel_rfl
@[simp] theorem isStrT_140 : isStr Try.prog 140 = false := by kernel_rfl
@[simp] theorem zeroC_140 : zeroC Try.prog 140 = some [.sc (.pointer none)] := by kernel_rfl
@[simp] theorem isPtrT_140 : isPtr Try.prog 140 = true := by kernel_rfl
@[simp] theorem isBytesT_140 : isBytes Try.prog 140 = false := by kernel_rfl
@[simp] theorem intOfT_140 : Av.intOf Try.prog 140 = none := by kernel_rfl
@[simp] theorem tyAgg_141 : tyAgg Try.prog 141 = some false := by kernel_rfl
@[simp] theorem tySize_141 : tySize Try.prog 141 = some 1 := by kernel_rfl
@[simp] theorem isSomeT_141 : Av.isSome Try.prog 141 = true := by kernel_rfl
@[simp] theorem isIfaceT_141 : isIface Try.prog 141 = false := by kernel_rfl
@[simp] theorem isStrT_141 : isStr Try.prog 141 = false := by kernel_rfl
@[simp] theorem zeroC_141 : zeroC Try.prog 141 = some [.nil] := by kernel_rfl
@[simp] theorem isPtrT_141 : isPtr Try.prog 141 = false := by kernel_rfl
@[simp] theorem elSize_141 : elSize Try.prog 141 = some 1 := by kernel_rfl
@[simp] theorem elTy_141 : elTy Try.prog 141 = some (48, 1, 24) := by kernel_rfl
@[simp] theorem isBytesT_141 : isBytes Try.prog 141 = false := by kernel_rfl
@[simp] theorem intOfT_141 : Av.intOf Try.prog 141 = none := by kernel_rfl
@[simp] theorem tyAgg_142 : tyAgg Try.prog 142 = some false := by kernel_rfl
@[simp] theorem tySize_142 : tySize Try.prog 142 = some 1 := by kernel_rfl
@[simp] theorem isSomeT_142 : Av.isSome Try.prog 142 = true := by kernel_rfl
@[simp] theorem isIfaceT_142 : isIface Try.prog 142 = false := by kernel_rfl
@[simp] theorem isStrT_142 : isStr Try.prog 142 = false := by kernel_rfl
@[simp] theorem zeroC_142 : zeroC Try.prog 142 = some [.sc .nilFunc] := by kernel_rfl
@[simp] theorem isPtrT_142 : isPtr Try.prog 142 = false := by kernel_rfl
@[simp] theorem isBytesT_142 : isBytes Try.prog 142 = false := by kernel_rfl
@[simp] theorem intOfT_142 : Av.intOf Try.prog 142 = none := by kernel_rfl
@[simp] theorem tyAgg_143 : tyAgg Try.prog 143 = some false := by kernel_rfl
@[simp] theorem tySize_143 : tySize Try.prog 143 = some 1 := by kernel_rfl
@[simp] theorem isSomeT_143 : Av.isSome Try.prog 143 = true := by kernel_rfl
@[simp] theorem isIfaceT_143 : isIface Try.prog 143 = false := by kernel_rfl
@[simp] theorem isStrT_143 : isStr Try.prog 143 = false := by kernel_rfl
@[simp] theorem zeroC_143 : zeroC Try.prog 143 = some [.nil] := by kernel_rfl
@[simp] theorem isPtrT_143 : isPtr Try.prog 143 = false := by kernel_rfl
@[simp] theorem elSize_143 : elSize Try.prog 143 = some 1 := by kernel_rfl
@[simp] theorem elTy_143 : elTy Try.prog 143 = some (49, 1, 24) := by kernel_rfl
@[simp] theorem isBytesT_143 : isBytes Try.prog 143 = false := by kernel_rfl
@[simp] theorem intOfT_143 : Av.intOf Try.prog 143 = none := by kernel_rfl
@[simp] theorem tyAgg_144 : tyAgg Try.prog 144 = some false := by kernel_rfl
@[simp] theorem tySize_144 : tySize Try.prog 144 = some 1 := by kernel_rfl
@[simp] theorem isSomeT_144 : Av.isSome Try.prog 144 = true := by kernel_rfl
@[simp] theorem isIfaceT_144 : isIface Try.prog 144 = false := by kernel_rfl
@[simp] theorem isStrT_144 : isStr Try.prog 144 = false := by kernel_rfl
@[simp] theorem zeroC_144 : zeroC Try.prog 144 = some [.sc .nilFunc] := by kernel_rfl
@[simp] theorem isPtrT_144 : isPtr Try.prog 144 = false := by kernel_rfl
@[simp] theorem isBytesT_144 : isBytes Try.prog 144 = false := by kernel_rfl
@[simp] theorem intOfT_144 : Av.intOf Try.prog 144 = none := by kernel_rfl
@[simp] theorem tyAgg_145 : tyAgg Try.prog 145 = some false := by kernel_rfl
@[simp] theorem tySize_145 : tySize Try.prog 145 = some 1 := by kernel_rfl
@[simp] theorem isSomeT_145 : Av.isSome Try.prog 145 = true := by kernel_rfl
@[simp] theorem isIfaceT_145 : isIface Try.prog 145 = false := by kernel_rfl
@[simp] theorem isStrT_145 : isStr Try.prog 145 = false := by kernel_rfl
@[simp] theorem zeroC_145 : zeroC Try.prog 145 = some [.sc .nilFunc] := by kernel_rfl
@[simp] theorem isPtrT_145 : isPtr Try.prog 145 = false := by kernel_rfl
@[simp] theorem isBytesT_145 : isBytes Try.prog 145 = false := by kernel_rfl
@[simp] theorem intOfT_145 : Av.intOf Try.prog 145 = none := by kernel_rfl
@[simp] theorem tyAgg_146 : tyAgg Try.prog 146 = some false := by kernel_rfl
@[simp] theorem tySize_146 : tySize Try.prog 146 = some 1 := by kernel_rfl
@[simp] theorem isSomeT_146 : Av.isSome Try.prog 146 = true := by kernel_rfl
@[simp] theorem isIfaceT_146 : isIface Try.prog 146 = false := by kernel_rfl
@[simp] theorem isStrT_146 : isStr Try.prog 146 = false := by kernel_rfl
@[simp] theorem zeroC_146 : zeroC Try.prog 146 = some [.sc .nilFunc] := by kernel_rfl
@[simp] theorem isPtrT_146 : isPtr Try.prog 146 = false := by kernel_rfl
@[simp] theorem isBytesT_146 : isBytes Try.prog 146 = false := by kernel_rfl
@[simp] theorem intOfT_146 : Av.intOf Try.prog 146 = none := by kernel_rfl
@[simp] theorem tyAgg_147 : tyAgg Try.prog 147 = some false := by kernel_rfl
@[simp] theorem tySize_147 : tySize Try.prog 147 = some 1 := by kernel_rfl
@[simp] theorem isSomeT_147 : Av.isSome Try.prog 147 = true := by kernel_rfl
@[simp] theorem isIfaceT_147 : isIface Try.prog 147 = false := by kernel_rfl
@[simp] theorem isStrT_147 : isStr Try.prog 147 = false := by kernel_rfl
@[simp] theorem zeroC_147 : zeroC Try.prog 147 = some [.sc .nilFunc] := by kernel_rfl
@[simp] theorem isPtrT_147 : isPtr Try.prog 147 = false := by kernel_rfl
@[simp] theorem isBytesT_147 : isBytes Try.prog 147 = false := by kernel_rfl
@[simp] theorem intOfT_147 : Av.intOf Try.prog 147 = none := by kernel_rfl
@[simp] theorem tyAgg_148 : tyAgg Try.prog 148 = some false := by kernel_rfl
@[simp] theorem tySize_148 : tySize Try.prog 148 = some 1 := by kernel_rfl
@[simp] theorem isSomeT_148 : Av.isSome Try.prog 148 = true := by kernel_rfl
@[simp] theorem isIfaceT_148 : isIface Try.prog 148 = false := by kernel_rfl
@[simp] theorem isStrT_148 : isStr Try.prog 148 = false := by kernel_rfl
@[simp] theorem zeroC_148 : zeroC Try.prog 148 = some [.sc .nilFunc] := by kernel_rfl
@[simp] theorem isPtrT_148 : isPtr Try.prog 148 = false := by kernel_rfl
@[simp] theorem isBytesT_148 : isBytes Try.prog 148 = false := by kernel_rfl
@[simp] theorem intOfT_148 : Av.intOf Try.prog 148 = none := by kernel_rfl
@[simp] theorem tyAgg_149 : tyAgg Try.prog 149 = some true := by kernel_rfl
@[simp] theorem tySize_149 : tySize Try.prog 149 = some 4 := by kernel_rfl
@[simp] theorem isSomeT_149 : Av.isSome Try.prog 149 = true := by kernel_rfl
@[simp] theorem isIfaceT_149 : isIface Try.prog 149 = false := by kernel_rfl
@[simp] theorem isStrT_149 : isStr Try.prog 149 = false := by kernel_rfl
@[simp] theorem zeroC_149 : zeroC Try.prog 149 = some [.sc (.pointer none), .sc (.pointer none), .sc (.pointer none), .str []] := by kernel_rfl
@[simp] theorem fieldsOk_149 : fieldsOk Try.prog 149 = true := by kernel_rfl
@[simp] theorem isPtrT_149 : isPtr Try.prog 149 = false := by kernel_rfl
@[simp] theorem placeP_149_0 : placeP Try.prog 149 0 = some (0, 1) := by kernel_rfl
@[simp] theorem placeP_149_1 : placeP Try.prog 149 1 = some (1, 1) := by kernel_rfl
@[simp] theorem placeP_149_2 : placeP Try.prog 149 2 = some (2, 1) := by kernel_rfl
@[simp] theorem placeP_149_3 : placeP Try.prog 149 3 = some (3, 1) := by kernel_rfl
@[simp] theorem fld_149_0 : fld Try.prog 149 0 = some (0, 1, false) := by kernel_rfl
@[simp] theorem fld_149_1 : fld Try.prog 149 1 = some (1, 1, false) := by kernel_rfl
@[simp] theorem fld_149_2 : fld Try.prog 149 2 = some (2, 1, false) := by kernel_rfl
@[simp] theorem fld_149_3 : fld Try.prog 149 3 = some (3, 1, false) := by kernel_rfl
@[simp] theorem isBytesT_149 : isBytes Try.prog 149 = false := by kernel_rfl
@[simp] theorem intOfT_149 : Av.intOf Try.prog 149 = none := by kernel_rfl
@[simp] theorem tyAgg_150 : tyAgg Try.prog 150 = some true := by kernel_rfl
@[simp] theorem tySize_150 : tySize Try.prog 150 = some 4 := by kernel_rfl
@[simp] theorem isSomeT_150 : Av.isSome Try.prog 150 = true := by kernel_rfl
@[simp] theorem isIfaceT_150 : isIface Try.prog 150 = false := by kernel_rfl
@[simp] theorem isStrT_150 : isStr Try.prog 150 = false := by kernel_rfl
@[simp] theorem zeroC_150 : zeroC Try.prog 150 = some [.sc (.pointer none), .sc (.pointer none), .sc (.pointer none), .str []] := by kernel_rfl
@[simp] theorem fieldsOk_150 : fieldsOk Try.prog 150 = true := by kernel_rfl
@[simp] theorem isPtrT_150 : isPtr Try.prog 150 = false := by kernel_rfl
@[simp] theorem placeP_150_0 : placeP Try.prog 150 0 = some (0, 1) := by kernel_rfl
@[simp] theorem placeP_150_1 : placeP Try.prog 150 1 = some (1, 1) := by kernel_rfl
@[simp] theorem placeP_150_2 : placeP Try.prog 150 2 = some (2, 1) := by kernel_rfl
@[simp] theorem placeP_150_3 : placeP Try.prog 150 3 = some (3, 1) := by kernel_rfl
@[simp] theorem fld_150_0 : fld Try.prog 150 0 = some (0, 1, false) := by kernel_rfl
@[simp] theorem fld_150_1 : fld Try.prog 150 1 = some (1, 1, false) := by kernel_rfl
@[simp] theorem fld_150_2 : fld Try.prog 150 2 = some (2, 1, false) := by kernel_rfl
@[simp] theorem fld_150_3 : fld Try.prog 150 3 = some (3, 1, false) := by kernel_rfl
@[simp] theorem isBytesT_150 : isBytes Try.prog 150 = false := by kernel_rfl
@[simp] theorem intOfT_150 : Av.intOf Try.prog 150 = none := by kernel_rfl
@[simp] theorem tyAgg_151 : tyAgg Try.prog 151 = some true := by kernel_rfl
@[simp] theorem tySize_151 : tySize Try.prog 151 = some 0 := by kernel_rfl
@[simp] theorem isSomeT_151 : Av.isSome Try.prog 151 = true := by kernel_rfl
@[simp] theorem isIfaceT_151 : isIface Try.prog 151 = false := by kernel_rfl
@[simp] theorem isStrT_151 : isStr Try.prog 151 = false := by kernel_rfl
@[simp] theorem zeroC_151 : zeroC Try.prog 151 = some [] := by kernel_rfl
@[simp] theorem fieldsOk_151 : fieldsOk Try.prog 151 = true := by kernel_rfl
@[simp] theorem isPtrT_151 : isPtr Try.prog 151 = false := by kernel_rfl
@[simp] theorem isBytesT_151 : isBytes Try.prog 151 = false := by kernel_rfl
@[simp] theorem intOfT_151 : Av.intOf Try.prog 151 = none := by kernel_rfl
@[simp] theorem tyAgg_152 : tyAgg Try.prog 152 = some true := by kernel_rfl
@[simp] theorem tySize_152 : tySize Try.prog 152 = some 0 := by kernel_rfl
@[simp] theorem isSomeT_152 : Av.isSome Try.prog 152 = true := by kernel_rfl
@[simp] theorem isIfaceT_152 : isIface Try.prog 152 = false := by kernel_rfl
@[simp] theorem isStrT_152 : isStr Try.prog 152 = false := by kernel_rfl
@[simp] theorem zeroC_152 : zeroC Try.prog 152 = some [] := by kernel_rfl
@[simp] theorem fieldsOk_152 : fieldsOk Try.prog 152 = true := by kernel_rfl
@[simp] theorem isPtrT_152 : isPtr Try.prog 152 = false := by kernel_rfl
@[simp] theorem placeP_152_0 : placeP Try.prog 152 0 = some (0, 0) := by kernel_rfl
@[simp] theorem fld_152_0 : fld Try.prog 152 0 = some (0, 0, true) := by kernel_rfl
@[simp] theorem isBytesT_152 : isBytes Try.prog 152 = false := by kernel_rfl
@[simp] theorem intOfT_152 : Av.intOf Try.prog 152 = none := by kernel_rfl
@[simp] theorem tyAgg_153 : tyAgg Try.prog 153 = some true := by kernel_rfl
@[simp] theorem tySize_153 : tySize Try.prog 153 = some 0 := by kernel_rfl
@[simp] theorem isSomeT_153 : Av.isSome Try.prog 153 = true := by kernel_rfl
@[simp] theorem isIfaceT_153 : isIface Try.prog 153 = false := by kernel_rfl
@[simp] theorem isStrT_153 : isStr Try.prog 153 = false := by kernel_rfl
@[simp] theorem zeroC_153 : zeroC Try.prog 153 = some [] := by kernel_rfl
@[simp] theorem fieldsOk_153 : fieldsOk Try.prog 153 = true := by kernel_rfl
@[simp] theorem isPtrT_153 : isPtr Try.prog 153 = false := by kernel_rfl
@[simp] theorem placeP_153_0 : placeP Try.prog 153 0 = some (0, 0) := by kernel_rfl
@[simp] theorem fld_153_0 : fld Try.prog 153 0 = some (0, 0, true) := by kernel_rfl
@[simp] theorem isBytesT_153 : isBytes Try.prog 153 = false := by kernel_rfl
@[simp] theorem intOfT_153 : Av.intOf Try.prog 153 = none := by kernel_rfl
@[simp] theorem tyAgg_154 : tyAgg Try.prog 154 = some false := by kernel_rfl
@[simp] theorem tySize_154 : tySize Try.prog 154 = some 1 := by kernel_rfl
@[simp] theorem isSomeT_154 : Av.isSome Try.prog 154 = true := by kernel_rfl
@[simp] theorem isIfaceT_154 : isIface Try.prog 154 = false := by kernel_rfl
@[simp] theorem isStrT_154 : isStr Try.prog 154 = false := by kernel_rfl
@[simp] theorem zeroC_154 : zeroC Try.prog 154 = some [.sc (.int .u32 0)] := by kernel_rfl
@[simp] theorem isPtrT_154 : isPtr Try.prog 154 = false := by kernel_rfl
@[simp] theorem isBytesT_154 : isBytes Try.prog 154 = false := by kernel_rfl
@[simp] theorem intOfT_154 : Av.intOf Try.prog 154 = some .u32 := by kernel_rfl
@[simp] theorem tyAgg_155 : tyAgg Try.prog 155 = some false := by kernel_rfl
@[simp] theorem tySize_155 : tySize Try.prog 155 = some 1 := by kernel_rfl
@[simp] theorem isSomeT_155 : Av.isSome Try.prog 155 = true := by kernel_rfl
@[simp] theorem isIfaceT_155 : isIface Try.prog 155 = false := by kernel_rfl
@[simp] theorem isStrT_155 : isStr Try.prog 155 = false := by kernel_rfl
@[simp] theorem zeroC_155 : zeroC Try.prog 155 = some [.sc (.int .u8 0)] := by kernel_rfl
@[simp] theorem isPtrT_155 : isPtr Try.prog 155 = false := by kernel_rfl
@[simp] theorem isBytesT_155 : isBytes Try.prog 155 = false := by kernel_rfl
@[simp] theorem intOfT_155 : Av.intOf Try.prog 155 = some .u8 := by kernel_rfl
@[simp] theorem tyAgg_156 : tyAgg Try.prog 156 = some false := by kernel_rfl
@[simp] theorem tySize_156 : tySize Try.prog 156 = some 1 := by kernel_rfl
@[simp] theorem isSomeT_156 : Av.isSome Try.prog 156 = true := by kernel_rfl
@[simp] theorem isIfaceT_156 : isIface Try.prog 156 = false := by kernel_rfl
@[simp] theorem isStrT_156 : isStr Try.prog 156 = false := by kernel_rfl
@[simp] theorem zeroC_156 : zeroC Try.prog 156 = some [.sc (.int .u8 0)] := by kernel_rfl
@[simp] theorem isPtrT_156 : isPtr Try.prog 156 = false := by kernel_rfl
@[simp] theorem isBytesT_156 : isBytes Try.prog 156 = false := by kernel_rfl
@[simp] theorem intOfT_156 : Av.intOf Try.prog 156 = some .u8 := by kernel_rfl
@[simp] theorem tyAgg_157 : tyAgg Try.prog 157 = some false := by kernel_rfl
@[simp] theorem tySize_157 : tySize Try.prog 157 = some 1 := by kernel_rfl
@[simp] theorem isSomeT_157 : Av.isSome Try.prog 157 = true := by kernel_rfl
@[simp] theorem isIfaceT_157 : isIface Try.prog 157 = false := by kernel_rfl
@[simp] theorem isStrT_157 : isStr Try.prog 157 = false := by kernel_rfl
@[simp] theorem zeroC_157 : zeroC Try.prog 157 = some [.sc .nilFunc] := by kernel_rfl
@[simp] theorem isPtrT_157 : isPtr Try.prog 157 = false := by kernel_rfl
@[simp] theorem isBytesT_157 : isBytes Try.prog 157 = false := by kernel_rfl
@[simp] theorem intOfT_157 : Av.intOf Try.prog 157 = none := by kernel_rfl
@[simp] theorem tyAgg_158 : tyAgg Try.prog 158 = some false := by kernel_rfl
@[simp] theorem tySize_158 : tySize Try.prog 158 = some 1 := by kernel_rfl
@[simp] theorem isSomeT_158 : Av.isSome Try.prog 158 = true := by kernel_rfl
@[simp] theorem isIfaceT_158 : isIface Try.prog 158 = false := by kernel_rfl
@[simp] theorem isStrT_158 : isStr Try.prog 158 = false := by kernel_rfl
@[simp] theorem zeroC_158 : zeroC Try.prog 158 = some [.sc (.pointer none)] := by kernel_rfl
@[simp] theorem isPtrT_158 : isPtr Try.prog 158 = true := by kernel_rfl
@[simp] theorem isBytesT_158 : isBytes Try.prog 158 = false := by kernel_rfl
@[simp] theorem intOfT_158 : Av.intOf Try.prog 158 = none := by kernel_rfl
@[simp] theorem tyAgg_159 : tyAgg Try.prog 159 = some false := by kernel_rfl
@[simp] theorem tySize_159 : tySize Try.prog 159 = some 1 := by kernel_rfl
@[simp] theorem isSomeT_159 : Av.isSome Try.prog 159 = true := by kernel_rfl
@[simp] theorem isIfaceT_159 : isIface Try.prog 159 = false := by kernel_rfl
@[simp] theorem isStrT_159 : isStr Try.prog 159 = false := by kernel_rfl
@[simp] theorem zeroC_159 : zeroC Try.prog 159 = some [.sc (.int .i32 0)] := by kernel_rfl
@[simp] theorem isPtrT_159 : isPtr Try.prog 159 = false := by kernel_rfl
@[simp] theorem isBytesT_159 : isBytes Try.prog 159 = false := by kernel_rfl
@[simp] theorem intOfT_159 : Av.intOf Try.prog 159 = some .i32 := by kernel_rfl
@[simp] theorem tyAgg_160 : tyAgg Try.prog 160 = some false := by kernel_rfl
@[simp] theorem tySize_160 : tySize Try.prog 160 = some 1 := by kernel_rfl
@[simp] theorem isSomeT_160 : Av.isSome Try.prog 160 = true := by kernel_rfl
@[simp] theorem isIfaceT_160 : isIface Try.prog 160 = false := by kernel_rfl
@[simp] theorem isStrT_160 : isStr Try.prog 160 = false := by kernel_rfl
@[simp] theorem zeroC_160 : zeroC Try.prog 160 = some [.sc (.int .i32 0)] := by kernel_rfl
@[simp] theorem isPtrT_160 : isPtr Try.prog 160 = false := by kernel_rfl
@[simp] theorem isBytesT_160 : isBytes Try.prog 160 = false := by kernel_rfl
@[simp] theorem intOfT_160 : Av.intOf Try.prog 160 = some .i32 := by kernel_rfl
@[simp] theorem tyAgg_161 : tyAgg Try.prog 161 = some true := by kernel_rfl
@[simp] theorem tySize_161 : tySize Try.prog 161 = some 11 := by kernel_rfl
@[simp] theorem isSomeT_161 : Av.isSome Try.prog 161 = true := by kernel_rfl
@[simp] theorem isIfaceT_161 : isIface Try.prog 161 = false := by kernel_rfl
@[simp] theorem isStrT_161 : isStr Try.prog 161 = false := by kernel_rfl
@[simp] theorem zeroC_161 : zeroC Try.prog 161 = some [.sc (.int .u64 0), .sc (.int .u64 0), .sc (.int .u32 0), .sc (.int .u8 0), .sc (.int .u8 0), .sc (.int .u8 0), .sc (.int .u8 0), .sc .nilFunc, .sc (.pointer none), .sc (.int .i32 0), .sc (.int .i32 0)] := by kernel_rfl
@[simp] theorem fieldsOk_161 : fieldsOk Try.prog 161 = true := by kernel_rfl
@[simp] theorem isPtrT_161 : isPtr Try.prog 161 = false := by kernel_rfl
@[simp] theorem placeP_161_0 : placeP Try.prog 161 0 = some (0, 1) := by kernel_rfl
@[simp] theorem placeP_161_1 : placeP Try.prog 161 1 = some (1, 1) := by kernel_rfl
@[simp] theorem placeP_161_2 : placeP Try.prog 161 2 = some (2, 1) := by kernel_rfl
@[simp] theorem placeP_161_3 : placeP Try.prog 161 3 = some (3, 1) := by kernel_rfl
@[simp] theorem placeP_161_4 : placeP Try.prog 161 4 = some (4, 1) := by kernel_rfl
@[simp] theorem placeP_161_5 : placeP Try.prog 161 5 = some (5, 1) := by kernel_rfl
@[simp] theorem placeP_161_6 : placeP Try.prog 161 6 = some (6, 1) := by kernel_rfl
@[simp] theorem placeP_161_7 : placeP Try.prog 161 7 = some (7, 1) := by kernel_rfl
@[simp] theorem placeP_161_8 : placeP Try.prog 161 8 = some (8, 1) := by kernel_rfl
@[simp] theorem placeP_161_9 : placeP Try.prog 161 9 = some (9, 1) := by kernel_rfl
@[simp] theorem placeP_161_10 : placeP Try.prog 161 10 = some (10, 1) := by kernel_rfl
@[simp] theorem fld_161_0 : fld Try.prog 161 0 = some (0, 1, false) := by kernel_rfl
@[simp] theorem fld_161_1 : fld Try.prog 161 1 = some (1, 1, false) := by kernel_rfl
@[simp] theorem fld_161_2 : fld Try.prog 161 2 = some (2, 1, false) := by kernel_rfl
@[simp] theorem fld_161_3 : fld Try.prog 161 3 = some (3, 1, false) := by kernel_rfl
@[simp] theorem fld_161_4 : fld Try.prog 161 4 = some (4, 1, false) := by kernel_rfl
@[simp] theorem fld_161_5 : fld Try.prog 161 5 = some (5, 1, false) := by kernel_rfl
@[simp] theorem fld_161_6 : fld Try.prog 161 6 = some (6, 1, false) := by kernel_rfl
@[simp] theorem fld_161_7 : fld Try.prog 161 7 = some (7, 1, false) := by kernel_rfl
@[simp] theorem fld_161_8 : fld Try.prog 161 8 = some (8, 1, false) := by kernel_rfl
@[simp] theorem fld_161_9 : fld Try.prog 161 9 = some (9, 1, false) := by kernel_rfl
@[simp] theorem fld_161_10 : fld Try.prog 161 10 = some (10, 1, false) := by kernel_rfl
@[simp] theorem isBytesT_161 : isBytes Try.prog 161 = false := by kernel_rfl
@[simp] theorem intOfT_161 : Av.intOf Try.prog 161 = none := by kernel_rfl
@[simp] theorem tyAgg_162 : tyAgg Try.prog 162 = some true := by kernel_rfl
@[simp] theorem tySize_162 : tySize Try.prog 162 = some 11 := by kernel_rfl
@[simp] theorem isSomeT_162 : Av.isSome Try.prog 162 = true := by kernel_rfl
@[simp] theorem isIfaceT_162 : isIface Try.prog 162 = false := by kernel_rfl
@[simp] theorem isStrT_162 : isStr Try.prog 162 = false := by kernel_rfl
@[simp] theorem zeroC_162 : zeroC Try.prog 162 = some [.sc (.int .u64 0), .sc (.int .u64 0), .sc (.int .u32 0), .sc (.int .u8 0), .sc (.int .u8 0), .sc (.int .u8 0), .sc (.int .u8 0), .sc .nilFunc, .sc (.pointer none), .sc (.int .i32 0), .sc (.int .i32 0)] := by kernel_rfl
@[simp] theorem fieldsOk_162 : fieldsOk Try.prog 162 = true := by kernel_rfl
@[simp] theorem isPtrT_162 : isPtr Try.prog 162 = false := by kernel_rfl
@[simp] theorem placeP_162_0 : placeP Try.prog 162 0 = some (0, 1) := by kernel_rfl
@[simp] theorem placeP_162_1 : placeP Try.prog 162 1 = some (1, 1) := by kernel_rfl
@[simp] theorem placeP_162_2 : placeP Try.prog 162 2 = some (2, 1) := by kernel_rfl
@[simp] theorem placeP_162_3 : placeP Try.prog 162 3 = some (3, 1) := by kernel_rfl
@[simp] theorem placeP_162_4 : placeP Try.prog 162 4 = some (4, 1) := by kernel_rfl
@[simp] theorem placeP_162_5 : placeP Try.prog 162 5 = some (5, 1) := by kernel_rfl
@[simp] theorem placeP_162_6 : placeP Try.prog 162 6 = some (6, 1) := by kernel_rfl
@[simp] theorem placeP_162_7 : placeP Try.prog 162 7 = some (7, 1) := by kernel_rfl
@[simp] theorem placeP_162_8 : placeP Try.prog 162 8 = some (8, 1) := by kernel_rfl
@[simp] theorem placeP_162_9 : placeP Try.prog 162 9 = some (9, 1) := by kernel_rfl
@[simp] theorem placeP_162_10 : placeP Try.prog 162 10 = some (10, 1) := by kernel_rfl
@[simp] theorem fld_162_0 : fld Try.prog 162 0 = some (0, 1, false) := by kernel_rfl
@[simp] theorem fld_162_1 : fld Try.prog 162 1 = some (1, 1, false) := by kernel_rfl
@[simp] theorem fld_162_2 : fld Try.prog 162 2 = some (2, 1, false) := by kernel_rfl
@[simp] theorem fld_162_3 : fld Try.prog 162 3 = some (3, 1, false) := by kernel_rfl
@[simp] theorem fld_162_4 : fld Try.prog 162 4 = some (4, 1, false) := by kernel_rfl
@[simp] theorem fld_162_5 : fld Try.prog 162 5 = some (5, 1, false) := by kernel_rfl
@[simp] theorem fld_162_6 : fld Try.prog 162 6 = some (6, 1, false) := by kernel_rfl
@[simp] theorem fld_162_7 : fld Try.prog 162 7 = some (7, 1, false) := by kernel_rfl
@[simp] theorem fld_162_8 : fld Try.prog 162 8 = some (8, 1, false) := by kernel_rfl
@[simp] theorem fld_162_9 : fld Try.prog 162 9 = some (9, 1, false) := by kernel_rfl
@[simp] theorem fld_162_10 : fld Try.prog 162 10 = some (10, 1, false) := by kernel_rfl
@[simp] theorem isBytesT_162 : isBytes Try.prog 162 = false := by kernel_rfl
@[simp] theorem intOfT_162 : Av.intOf Try.prog 162 = none := by kernel_rfl
@[simp] theorem tyAgg_163 : tyAgg Try.prog 163 = some false := by kernel_rfl
@[simp] theorem tySize_163 : tySize Try.prog 163 = some 1 := by kernel_rfl
@[simp] theorem isSomeT_163 : Av.isSome Try.prog 163 = true := by kernel_rfl
@[simp] theorem isIfaceT_163 : isIface Try.prog 163 = false := by kernel_rfl
@[simp] theorem isStrT_163 : isStr Try.prog 163 = false := by kernel_rfl
@[simp] theorem isPtrT_163 : isPtr Try.prog 163 = false := by kernel_rfl
@[simp] theorem isBytesT_163 : isBytes Try.prog 163 = false := by kernel_rfl
@[simp] theorem intOfT_163 : Av.intOf Try.prog 163 = none := by kernel_rfl
end Go.Av
