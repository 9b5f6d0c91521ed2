/- Facts on the types of this translation, laid by a program of our own. -/
import Derived.Test.YtbffdmhplfclkaaEg
import Derived.Test.YtbffdmhplfclkaaRows
import Derived.KernelRfl
set_option linter.all false
namespace Go.Av
open Go.Proofs
@[simp] theorem tyAgg_1 : tyAgg Try.prog 1 = some false := by kernel_rfl
@[simp] theorem tySize_1 : tySize Try.prog 1 = some 1 := by kernel_rfl
@[simp] theorem isSomeT_1 : Av.isSome Try.prog 1 = true := by kernel_rfl
@[simp] theorem isIfaceT_1 : isIface Try.prog 1 = false := by kernel_rfl
@[simp] theorem isStrT_1 : isStr Try.prog 1 = false := by kernel_rfl
@[simp] theorem zeroC_1 : zeroC Try.prog 1 = some [.sc .nilFunc] := by kernel_rfl
@[simp] theorem isPtrT_1 : isPtr Try.prog 1 = false := by kernel_rfl
@[simp] theorem isBytesT_1 : isBytes Try.prog 1 = false := by kernel_rfl
@[simp] theorem intOfT_1 : Av.intOf Try.prog 1 = none := by kernel_rfl
@[simp] theorem tyAgg_2 : tyAgg Try.prog 2 = some false := by kernel_rfl
@[simp] theorem tySize_2 : tySize Try.prog 2 = some 1 := by kernel_rfl
@[simp] theorem isSomeT_2 : Av.isSome Try.prog 2 = true := by kernel_rfl
@[simp] theorem isIfaceT_2 : isIface Try.prog 2 = false := by kernel_rfl
@[simp] theorem isStrT_2 : isStr Try.prog 2 = false := by kernel_rfl
@[simp] theorem zeroC_2 : zeroC Try.prog 2 = some [.sc (.int .i64 0)] := by kernel_rfl
@[simp] theorem isPtrT_2 : isPtr Try.prog 2 = false := by kernel_rfl
@[simp] theorem isBytesT_2 : isBytes Try.prog 2 = false := by kernel_rfl
@[simp] theorem intOfT_2 : Av.intOf Try.prog 2 = some .i64 := by kernel_rfl
@[simp] theorem tyAgg_3 : tyAgg Try.prog 3 = some false := by kernel_rfl
@[simp] theorem tySize_3 : tySize Try.prog 3 = some 1 := by kernel_rfl
@[simp] theorem isSomeT_3 : Av.isSome Try.prog 3 = true := by kernel_rfl
@[simp] theorem isIfaceT_3 : isIface Try.prog 3 = false := by kernel_rfl
@[simp] theorem isStrT_3 : isStr Try.prog 3 = false := by kernel_rfl
@[simp] theorem zeroC_3 : zeroC Try.prog 3 = some [.sc (.int .i64 0)] := by kernel_rfl
@[simp] theorem isPtrT_3 : isPtr Try.prog 3 = false := by kernel_rfl
@[simp] theorem isBytesT_3 : isBytes Try.prog 3 = false := by kernel_rfl
@[simp] theorem intOfT_3 : Av.intOf Try.prog 3 = some .i64 := by kernel_rfl
@[simp] theorem tyAgg_4 : tyAgg Try.prog 4 = some false := by kernel_rfl
@[simp] theorem tySize_4 : tySize Try.prog 4 = some 1 := by kernel_rfl
@[simp] theorem isSomeT_4 : Av.isSome Try.prog 4 = true := by kernel_rfl
@[simp] theorem isIfaceT_4 : isIface Try.prog 4 = false := by kernel_rfl
@[simp] theorem isStrT_4 : isStr Try.prog 4 = false := by kernel_rfl
@[simp] theorem zeroC_4 : zeroC Try.prog 4 = some [.sc (.bool false)] := by kernel_rfl
@[simp] theorem isPtrT_4 : isPtr Try.prog 4 = false := by kernel_rfl
@[simp] theorem isBytesT_4 : isBytes Try.prog 4 = false := by kernel_rfl
@[simp] theorem isBoolT_4 : isBool Try.prog 4 = true := by kernel_rfl
@[simp] theorem intOfT_4 : Av.intOf Try.prog 4 = none := by kernel_rfl
@[simp] theorem tyAgg_5 : tyAgg Try.prog 5 = some false := by kernel_rfl
@[simp] theorem tySize_5 : tySize Try.prog 5 = some 1 := by kernel_rfl
@[simp] theorem isSomeT_5 : Av.isSome Try.prog 5 = true := by kernel_rfl
@[simp] theorem isIfaceT_5 : isIface Try.prog 5 = false := by kernel_rfl
@[simp] theorem isStrT_5 : isStr Try.prog 5 = false := by kernel_rfl
@[simp] theorem zeroC_5 : zeroC Try.prog 5 = some [.sc (.int .u8 0)] := by kernel_rfl
@[simp] theorem isPtrT_5 : isPtr Try.prog 5 = false := by kernel_rfl
@[simp] theorem isBytesT_5 : isBytes Try.prog 5 = false := by kernel_rfl
@[simp] theorem intOfT_5 : Av.intOf Try.prog 5 = some .u8 := by kernel_rfl
@[simp] theorem tyAgg_6 : tyAgg Try.prog 6 = some false := by kernel_rfl
@[simp] theorem tySize_6 : tySize Try.prog 6 = some 1 := by kernel_rfl
@[simp] theorem isSomeT_6 : Av.isSome Try.prog 6 = true := by kernel_rfl
@[simp] theorem isIfaceT_6 : isIface Try.prog 6 = false := by kernel_rfl
@[simp] theorem isStrT_6 : isStr Try.prog 6 = false := by kernel_rfl
@[simp] theorem zeroC_6 : zeroC Try.prog 6 = some [.sc (.int .u8 0)] := by kernel_rfl
@[simp] theorem isPtrT_6 : isPtr Try.prog 6 = false := by kernel_rfl
@[simp] theorem isBytesT_6 : isBytes Try.prog 6 = false := by kernel_rfl
@[simp] theorem intOfT_6 : Av.intOf Try.prog 6 = some .u8 := by kernel_rfl
@[simp] theorem tyAgg_7 : tyAgg Try.prog 7 = some true := by kernel_rfl
@[simp] theorem tySize_7 : tySize Try.prog 7 = some 4 := by kernel_rfl
@[simp] theorem isSomeT_7 : Av.isSome Try.prog 7 = true := by kernel_rfl
@[simp] theorem isIfaceT_7 : isIface Try.prog 7 = false := by kernel_rfl
@[simp] theorem isStrT_7 : isStr Try.prog 7 = false := by kernel_rfl
@[simp] theorem zeroC_7 : zeroC Try.prog 7 = some [.sc (.int .i64 0), .sc (.int .i64 0), .sc (.bool false), .sc (.int .u8 0)] := by kernel_rfl
@[simp] theorem fieldsOk_7 : fieldsOk Try.prog 7 = true := by kernel_rfl
@[simp] theorem isPtrT_7 : isPtr Try.prog 7 = false := by kernel_rfl
@[simp] theorem placeP_7_0 : placeP Try.prog 7 0 = some (0, 1) := by kernel_rfl
@[simp] theorem placeP_7_1 : placeP Try.prog 7 1 = some (1, 1) := by kernel_rfl
@[simp] theorem placeP_7_2 : placeP Try.prog 7 2 = some (2, 1) := by kernel_rfl
@[simp] theorem placeP_7_3 : placeP Try.prog 7 3 = some (3, 1) := by kernel_rfl
@[simp] theorem fld_7_0 : fld Try.prog 7 0 = some (0, 1, false) := by kernel_rfl
@[simp] theorem fld_7_1 : fld Try.prog 7 1 = some (1, 1, false) := by kernel_rfl
@[simp] theorem fld_7_2 : fld Try.prog 7 2 = some (2, 1, false) := by kernel_rfl
@[simp] theorem fld_7_3 : fld Try.prog 7 3 = some (3, 1, false) := by kernel_rfl
@[simp] theorem isBytesT_7 : isBytes Try.prog 7 = false := by kernel_rfl
@[simp] theorem intOfT_7 : Av.intOf Try.prog 7 = none := by kernel_rfl
@[simp] theorem tyAgg_8 : tyAgg Try.prog 8 = some true := by kernel_rfl
@[simp] theorem tySize_8 : tySize Try.prog 8 = some 4 := by kernel_rfl
@[simp] theorem isSomeT_8 : Av.isSome Try.prog 8 = true := by kernel_rfl
@[simp] theorem isIfaceT_8 : isIface Try.prog 8 = false := by kernel_rfl
@[simp] theorem isStrT_8 : isStr Try.prog 8 = false := by kernel_rfl
@[simp] theorem zeroC_8 : zeroC Try.prog 8 = some [.sc (.int .i64 0), .sc (.int .i64 0), .sc (.bool false), .sc (.int .u8 0)] := by kernel_rfl
@[simp] theorem fieldsOk_8 : fieldsOk Try.prog 8 = true := by kernel_rfl
@[simp] theorem isPtrT_8 : isPtr Try.prog 8 = false := by kernel_rfl
@[simp] theorem placeP_8_0 : placeP Try.prog 8 0 = some (0, 1) := by kernel_rfl
@[simp] theorem placeP_8_1 : placeP Try.prog 8 1 = some (1, 1) := by kernel_rfl
@[simp] theorem placeP_8_2 : placeP Try.prog 8 2 = some (2, 1) := by kernel_rfl
@[simp] theorem placeP_8_3 : placeP Try.prog 8 3 = some (3, 1) := by kernel_rfl
@[simp] theorem fld_8_0 : fld Try.prog 8 0 = some (0, 1, false) := by kernel_rfl
@[simp] theorem fld_8_1 : fld Try.prog 8 1 = some (1, 1, false) := by kernel_rfl
@[simp] theorem fld_8_2 : fld Try.prog 8 2 = some (2, 1, false) := by kernel_rfl
@[simp] theorem fld_8_3 : fld Try.prog 8 3 = some (3, 1, false) := by kernel_rfl
@[simp] theorem isBytesT_8 : isBytes Try.prog 8 = false := by kernel_rfl
@[simp] theorem intOfT_8 : Av.intOf Try.prog 8 = none := by kernel_rfl
@[simp] theorem tyAgg_9 : tyAgg Try.prog 9 = some false := by kernel_rfl
@[simp] theorem tySize_9 : tySize Try.prog 9 = some 1 := by kernel_rfl
@[simp] theorem isSomeT_9 : Av.isSome Try.prog 9 = true := by kernel_rfl
@[simp] theorem isIfaceT_9 : isIface Try.prog 9 = false := by kernel_rfl
@[simp] theorem isStrT_9 : isStr Try.prog 9 = true := by kernel_rfl
@[simp] theorem zeroC_9 : zeroC Try.prog 9 = some [.str []] := by kernel_rfl
@[simp] theorem isPtrT_9 : isPtr Try.prog 9 = false := by kernel_rfl
@[simp] theorem isBytesT_9 : isBytes Try.prog 9 = false := by kernel_rfl
@[simp] theorem intOfT_9 : Av.intOf Try.prog 9 = none := by kernel_rfl
@[simp] theorem tyAgg_10 : tyAgg Try.prog 10 = some false := by kernel_rfl
@[simp] theorem tySize_10 : tySize Try.prog 10 = some 1 := by kernel_rfl
@[simp] theorem isSomeT_10 : Av.isSome Try.prog 10 = true := by kernel_rfl
@[simp] theorem isIfaceT_10 : isIface Try.prog 10 = false := by kernel_rfl
@[simp] theorem isStrT_10 : isStr Try.prog 10 = true := by kernel_rfl
@[simp] theorem zeroC_10 : zeroC Try.prog 10 = some [.str []] := by kernel_rfl
@[simp] theorem isPtrT_10 : isPtr Try.prog 10 = false := by kernel_rfl
@[simp] theorem isBytesT_10 : isBytes Try.prog 10 = false := by kernel_rfl
@[simp] theorem intOfT_10 : Av.intOf Try.prog 10 = none := by kernel_rfl
@[simp] theorem tyAgg_11 : tyAgg Try.prog 11 = some false := by kernel_rfl
@[simp] theorem tySize_11 : tySize Try.prog 11 = some 1 := by kernel_rfl
@[simp] theorem isSomeT_11 : Av.isSome Try.prog 11 = true := by kernel_rfl
@[simp] theorem isIfaceT_11 : isIface Try.prog 11 = false := by kernel_rfl
@[simp] theorem isStrT_11 : isStr Try.prog 11 = true := by kernel_rfl
@[simp] theorem zeroC_11 : zeroC Try.prog 11 = some [.str []] := by kernel_rfl
@[simp] theorem isPtrT_11 : isPtr Try.prog 11 = false := by kernel_rfl
@[simp] theorem isBytesT_11 : isBytes Try.prog 11 = false := by kernel_rfl
@[simp] theorem intOfT_11 : Av.intOf Try.prog 11 = none := by kernel_rfl
@[simp] theorem tyAgg_12 : tyAgg Try.prog 12 = some false := by kernel_rfl
@[simp] theorem tySize_12 : tySize Try.prog 12 = some 1 := by kernel_rfl
@[simp] theorem isSomeT_12 : Av.isSome Try.prog 12 = true := by kernel_rfl
@[simp] theorem isIfaceT_12 : isIface Try.prog 12 = false := by kernel_rfl
@[simp] theorem isStrT_12 : isStr Try.prog 12 = false := by kernel_rfl
@[simp] theorem zeroC_12 : zeroC Try.prog 12 = some [.sc (.int .u64 0)] := by kernel_rfl
@[simp] theorem isPtrT_12 : isPtr Try.prog 12 = false := by kernel_rfl
@[simp] theorem isBytesT_12 : isBytes Try.prog 12 = false := by kernel_rfl
@[simp] theorem intOfT_12 : Av.intOf Try.prog 12 = some .u64 := by kernel_rfl
@[simp] theorem tyAgg_13 : tyAgg Try.prog 13 = some true := by kernel_rfl
@[simp] theorem tySize_13 : tySize Try.prog 13 = some 2 := by kernel_rfl
@[simp] theorem isSomeT_13 : Av.isSome Try.prog 13 = true := by kernel_rfl
@[simp] theorem isIfaceT_13 : isIface Try.prog 13 = false := by kernel_rfl
@[simp] theorem isStrT_13 : isStr Try.prog 13 = false := by kernel_rfl
@[simp] theorem zeroC_13 : zeroC Try.prog 13 = some [.str [], .sc (.int .u64 0)] := by kernel_rfl
@[simp] theorem fieldsOk_13 : fieldsOk Try.prog 13 = true := by kernel_rfl
@[simp] theorem isPtrT_13 : isPtr Try.prog 13 = false := by kernel_rfl
@[simp] theorem placeP_13_0 : placeP Try.prog 13 0 = some (0, 1) := by kernel_rfl
@[simp] theorem placeP_13_1 : placeP Try.prog 13 1 = some (1, 1) := by kernel_rfl
@[simp] theorem fld_13_0 : fld Try.prog 13 0 = some (0, 1, false) := by kernel_rfl
@[simp] theorem fld_13_1 : fld Try.prog 13 1 = some (1, 1, false) := by kernel_rfl
@[simp] theorem isBytesT_13 : isBytes Try.prog 13 = false := by kernel_rfl
@[simp] theorem intOfT_13 : Av.intOf Try.prog 13 = none := by kernel_rfl
@[simp] theorem tyAgg_14 : tyAgg Try.prog 14 = some true := by kernel_rfl
@[simp] theorem tySize_14 : tySize Try.prog 14 = some 2 := by kernel_rfl
@[simp] theorem isSomeT_14 : Av.isSome Try.prog 14 = true := by kernel_rfl
@[simp] theorem isIfaceT_14 : isIface Try.prog 14 = false := by kernel_rfl
@[simp] theorem isStrT_14 : isStr Try.prog 14 = false := by kernel_rfl
@[simp] theorem zeroC_14 : zeroC Try.prog 14 = some [.str [], .sc (.int .u64 0)] := by kernel_rfl
@[simp] theorem fieldsOk_14 : fieldsOk Try.prog 14 = true := by kernel_rfl
@[simp] theorem isPtrT_14 : isPtr Try.prog 14 = false := by kernel_rfl
@[simp] theorem placeP_14_0 : placeP Try.prog 14 0 = some (0, 1) := by kernel_rfl
@[simp] theorem placeP_14_1 : placeP Try.prog 14 1 = some (1, 1) := by kernel_rfl
@[simp] theorem fld_14_0 : fld Try.prog 14 0 = some (0, 1, false) := by kernel_rfl
@[simp] theorem fld_14_1 : fld Try.prog 14 1 = some (1, 1, false) := by kernel_rfl
@[simp] theorem isBytesT_14 : isBytes Try.prog 14 = false := by kernel_rfl
@[simp] theorem intOfT_14 : Av.intOf Try.prog 14 = none := by kernel_rfl
@[simp] theorem tyAgg_15 : tyAgg Try.prog 15 = some false := by kernel_rfl
@[simp] theorem tySize_15 : tySize Try.prog 15 = some 1 := by kernel_rfl
@[simp] theorem isSomeT_15 : Av.isSome Try.prog 15 = true := by kernel_rfl
@[simp] theorem isIfaceT_15 : isIface Try.prog 15 = false := by kernel_rfl
@[simp] theorem isStrT_15 : isStr Try.prog 15 = false := by kernel_rfl
@[simp] theorem zeroC_15 : zeroC Try.prog 15 = some [.sc (.pointer none)] := by kernel_rfl
@[simp] theorem isPtrT_15 : isPtr Try.prog 15 = true := by kernel_rfl
@[simp] theorem isBytesT_15 : isBytes Try.prog 15 = false := by kernel_rfl
@[simp] theorem intOfT_15 : Av.intOf Try.prog 15 = none := by kernel_rfl
@[simp] theorem tyAgg_16 : tyAgg Try.prog 16 = some false := by kernel_rfl
@[simp] theorem tySize_16 : tySize Try.prog 16 = some 1 := by kernel_rfl
@[simp] theorem isSomeT_16 : Av.isSome Try.prog 16 = true := by kernel_rfl
@[simp] theorem isIfaceT_16 : isIface Try.prog 16 = false := by kernel_rfl
@[simp] theorem isStrT_16 : isStr Try.prog 16 = false := by kernel_rfl
@[simp] theorem zeroC_16 : zeroC Try.prog 16 = some [.sc (.pointer none)] := by kernel_rfl
@[simp] theorem isPtrT_16 : isPtr Try.prog 16 = true := by kernel_rfl
@[simp] theorem isBytesT_16 : isBytes Try.prog 16 = false := by kernel_rfl
@[simp] theorem intOfT_16 : Av.intOf Try.prog 16 = none := by kernel_rfl
@[simp] theorem tyAgg_17 : tyAgg Try.prog 17 = some false := by kernel_rfl
@[simp] theorem tySize_17 : tySize Try.prog 17 = some 1 := by kernel_rfl
@[simp] theorem isSomeT_17 : Av.isSome Try.prog 17 = true := by kernel_rfl
@[simp] theorem isIfaceT_17 : isIface Try.prog 17 = false := by kernel_rfl
@[simp] theorem isStrT_17 : isStr Try.prog 17 = false := by kernel_rfl
@[simp] theorem zeroC_17 : zeroC Try.prog 17 = some [.sc (.pointer none)] := by kernel_rfl
@[simp] theorem isPtrT_17 : isPtr Try.prog 17 = true := by kernel_rfl
@[simp] theorem isBytesT_17 : isBytes Try.prog 17 = false := by kernel_rfl
@[simp] theorem intOfT_17 : Av.intOf Try.prog 17 = none := by kernel_rfl
@[simp] theorem tyAgg_18 : tyAgg Try.prog 18 = some true := by kernel_rfl
@[simp] theorem tySize_18 : tySize Try.prog 18 = some 1 := by kernel_rfl
@[simp] theorem isSomeT_18 : Av.isSome Try.prog 18 = true := by kernel_rfl
@[simp] theorem isIfaceT_18 : isIface Try.prog 18 = false := by kernel_rfl
@[simp] theorem isStrT_18 : isStr Try.prog 18 = false := by kernel_rfl
@[simp] theorem zeroC_18 : zeroC Try.prog 18 = some [.sc (.pointer none)] := by kernel_rfl
@[simp] theorem fieldsOk_18 : fieldsOk Try.prog 18 = true := by kernel_rfl
@[simp] theorem isPtrT_18 : isPtr Try.prog 18 = false := by kernel_rfl
@[simp] theorem placeP_18_0 : placeP Try.prog 18 0 = some (0, 1) := by kernel_rfl
@[simp] theorem fld_18_0 : fld Try.prog 18 0 = some (0, 1, false) := by kernel_rfl
@[simp] theorem isBytesT_18 : isBytes Try.prog 18 = false := by kernel_rfl
@[simp] theorem intOfT_18 : Av.intOf Try.prog 18 = none := by kernel_rfl
@[simp] theorem tyAgg_19 : tyAgg Try.prog 19 = some true := by kernel_rfl
@[simp] theorem tySize_19 : tySize Try.prog 19 = some 1 := by kernel_rfl
@[simp] theorem isSomeT_19 : Av.isSome Try.prog 19 = true := by kernel_rfl
@[simp] theorem isIfaceT_19 : isIface Try.prog 19 = false := by kernel_rfl
@[simp] theorem isStrT_19 : isStr Try.prog 19 = false := by kernel_rfl
@[simp] theorem zeroC_19 : zeroC Try.prog 19 = some [.sc (.pointer none)] := by kernel_rfl
@[simp] theorem fieldsOk_19 : fieldsOk Try.prog 19 = true := by kernel_rfl
@[simp] theorem isPtrT_19 : isPtr Try.prog 19 = false := by kernel_rfl
@[simp] theorem placeP_19_0 : placeP Try.prog 19 0 = some (0, 1) := by kernel_rfl
@[simp] theorem fld_19_0 : fld Try.prog 19 0 = some (0, 1, false) := by kernel_rfl
@[simp] theorem isBytesT_19 : isBytes Try.prog 19 = false := by kernel_rfl
@[simp] theorem intOfT_19 : Av.intOf Try.prog 19 = none := by kernel_rfl
@[simp] theorem tyAgg_20 : tyAgg Try.prog 20 = some false := by kernel_rfl
@[simp] theorem tySize_20 : tySize Try.prog 20 = some 1 := by kernel_rfl
@[simp] theorem isSomeT_20 : Av.isSome Try.prog 20 = true := by kernel_rfl
@[simp] theorem isIfaceT_20 : isIface Try.prog 20 = true := by kernel_rfl
@[simp] theorem isStrT_20 : isStr Try.prog 20 = false := by kernel_rfl
@[simp] theorem zeroC_20 : zeroC Try.prog 20 = some [.sc .nilIface] := by kernel_rfl
@[simp] theorem isPtrT_20 : isPtr Try.prog 20 = false := by kernel_rfl
@[simp] theorem isBytesT_20 : isBytes Try.prog 20 = false := by kernel_rfl
@[simp] theorem intOfT_20 : Av.intOf Try.prog 20 = none := by kernel_rfl
@[simp] theorem tyAgg_21 : tyAgg Try.prog 21 = some false := by kernel_rfl
@[simp] theorem tySize_21 : tySize Try.prog 21 = some 1 := by kernel_rfl
@[simp] theorem isSomeT_21 : Av.isSome Try.prog 21 = true := by kernel_rfl
@[simp] theorem isIfaceT_21 : isIface Try.prog 21 = false := by kernel_rfl
@[simp] theorem isStrT_21 : isStr Try.prog 21 = false := by kernel_rfl
@[simp] theorem zeroC_21 : zeroC Try.prog 21 = some [.sc (.int .i32 0)] := by kernel_rfl
@[simp] theorem isPtrT_21 : isPtr Try.prog 21 = false := by kernel_rfl
@[simp] theorem isBytesT_21 : isBytes Try.prog 21 = false := by kernel_rfl
@[simp] theorem intOfT_21 : Av.intOf Try.prog 21 = some .i32 := by kernel_rfl
@[simp] theorem tyAgg_22 : tyAgg Try.prog 22 = some false := by kernel_rfl
@[simp] theorem tySize_22 : tySize Try.prog 22 = some 1 := by kernel_rfl
@[simp] theorem isSomeT_22 : Av.isSome Try.prog 22 = true := by kernel_rfl
@[simp] theorem isIfaceT_22 : isIface Try.prog 22 = false := by kernel_rfl
@[simp] theorem isStrT_22 : isStr Try.prog 22 = false := by kernel_rfl
@[simp] theorem zeroC_22 : zeroC Try.prog 22 = some [.nil] := by kernel_rfl
@[simp] theorem isPtrT_22 : isPtr Try.prog 22 = false := by kernel_rfl
@[simp] theorem elSize_22 : elSize Try.prog 22 = some 1 := by kernel_rfl
@[simp] theorem elTy_22 : elTy Try.prog 22 = some (3, 1, 8) := by kernel_rfl
@[simp] theorem isBytesT_22 : isBytes Try.prog 22 = false := by kernel_rfl
@[simp] theorem intOfT_22 : Av.intOf Try.prog 22 = none := by kernel_rfl
@[simp] theorem tyAgg_23 : tyAgg Try.prog 23 = some false := by kernel_rfl
@[simp] theorem tySize_23 : tySize Try.prog 23 = some 1 := by kernel_rfl
@[simp] theorem isSomeT_23 : Av.isSome Try.prog 23 = true := by kernel_rfl
@[simp] theorem isIfaceT_23 : isIface Try.prog 23 = false := by kernel_rfl
@[simp] theorem isStrT_23 : isStr Try.prog 23 = false := by kernel_rfl
@[simp] theorem zeroC_23 : zeroC Try.prog 23 = some [.sc .nilFunc] := by kernel_rfl
@[simp] theorem isPtrT_23 : isPtr Try.prog 23 = false := by kernel_rfl
@[simp] theorem isBytesT_23 : isBytes Try.prog 23 = false := by kernel_rfl
@[simp] theorem intOfT_23 : Av.intOf Try.prog 23 = none := by kernel_rfl
@[simp] theorem tyAgg_24 : tyAgg Try.prog 24 = some false := by kernel_rfl
@[simp] theorem tySize_24 : tySize Try.prog 24 = some 1 := by kernel_rfl
@[simp] theorem isSomeT_24 : Av.isSome Try.prog 24 = true := by kernel_rfl
@[simp] theorem isIfaceT_24 : isIface Try.prog 24 = false := by kernel_rfl
@[simp] theorem isStrT_24 : isStr Try.prog 24 = false := by kernel_rfl
@[simp] theorem zeroC_24 : zeroC Try.prog 24 = some [.sc (.pointer none)] := by kernel_rfl
@[simp] theorem isPtrT_24 : isPtr Try.prog 24 = true := by kernel_rfl
@[simp] theorem isBytesT_24 : isBytes Try.prog 24 = false := by kernel_rfl
@[simp] theorem intOfT_24 : Av.intOf Try.prog 24 = none := by kernel_rfl
@[simp] theorem tyAgg_25 : tyAgg Try.prog 25 = some false := by kernel_rfl
@[simp] theorem tySize_25 : tySize Try.prog 25 = some 1 := by kernel_rfl
@[simp] theorem isSomeT_25 : Av.isSome Try.prog 25 = true := by kernel_rfl
@[simp] theorem isIfaceT_25 : isIface Try.prog 25 = false := by kernel_rfl
@[simp] theorem isStrT_25 : isStr Try.prog 25 = false := by kernel_rfl
@[simp] theorem zeroC_25 : zeroC Try.prog 25 = some [.sc (.int .i64 0)] := by kernel_rfl
@[simp] theorem isPtrT_25 : isPtr Try.prog 25 = false := by kernel_rfl
@[simp] theorem isBytesT_25 : isBytes Try.prog 25 = false := by kernel_rfl
@[simp] theorem intOfT_25 : Av.intOf Try.prog 25 = some .i64 := by kernel_rfl
@[simp] theorem tyAgg_27 : tyAgg Try.prog 27 = some false := by kernel_rfl
@[simp] theorem tySize_27 : tySize Try.prog 27 = some 1 := by kernel_rfl
@[simp] theorem isSomeT_27 : Av.isSome Try.prog 27 = true := by kernel_rfl
@[simp] theorem isIfaceT_27 : isIface Try.prog 27 = false := by kernel_rfl
@[simp] theorem isStrT_27 : isStr Try.prog 27 = false := by kernel_rfl
@[simp] theorem zeroC_27 : zeroC Try.prog 27 = some [.sc .nilFunc] := by kernel_rfl
@[simp] theorem isPtrT_27 : isPtr Try.prog 27 = false := by kernel_rfl
@[simp] theorem isBytesT_27 : isBytes Try.prog 27 = false := by kernel_rfl
@[simp] theorem intOfT_27 : Av.intOf Try.prog 27 = none := by kernel_rfl
@[simp] theorem tyAgg_28 : tyAgg Try.prog 28 = some true := by kernel_rfl
@[simp] theorem tySize_28 : tySize Try.prog 28 = some 2 := by kernel_rfl
@[simp] theorem isSomeT_28 : Av.isSome Try.prog 28 = true := by kernel_rfl
@[simp] theorem isIfaceT_28 : isIface Try.prog 28 = false := by kernel_rfl
@[simp] theorem isStrT_28 : isStr Try.prog 28 = false := by kernel_rfl
@[simp] theorem zeroC_28 : zeroC Try.prog 28 = some [.sc (.int .i64 0), .sc (.int .i64 0)] := by kernel_rfl
@[simp] theorem fieldsOk_28 : fieldsOk Try.prog 28 = true := by kernel_rfl
@[simp] theorem isPtrT_28 : isPtr Try.prog 28 = false := by kernel_rfl
@[simp] theorem fldL_28 : fldL Try.prog 28 = some [(0, 3), (1, 3)] := by kernel_rfl
@[simp] theorem eqOkT_28 : eqOkT Try.prog 28 = true := by kernel_rfl
@[simp] theorem placeP_28_0 : placeP Try.prog 28 0 = some (0, 1) := by kernel_rfl
@[simp] theorem placeP_28_1 : placeP Try.prog 28 1 = some (1, 1) := by kernel_rfl
@[simp] theorem fld_28_0 : fld Try.prog 28 0 = some (0, 1, false) := by kernel_rfl
@[simp] theorem fld_28_1 : fld Try.prog 28 1 = some (1, 1, false) := by kernel_rfl
@[simp] theorem isBytesT_28 : isBytes Try.prog 28 = false := by kernel_rfl
@[simp] theorem intOfT_28 : Av.intOf Try.prog 28 = none := by kernel_rfl
@[simp] theorem tyAgg_29 : tyAgg Try.prog 29 = some true := by kernel_rfl
@[simp] theorem tySize_29 : tySize Try.prog 29 = some 2 := by kernel_rfl
@[simp] theorem isSomeT_29 : Av.isSome Try.prog 29 = true := by kernel_rfl
@[simp] theorem isIfaceT_29 : isIface Try.prog 29 = false := by kernel_rfl
@[simp] theorem isStrT_29 : isStr Try.prog 29 = false := by kernel_rfl
@[simp] theorem zeroC_29 : zeroC Try.prog 29 = some [.sc (.int .i64 0), .sc (.int .i64 0)] := by kernel_rfl
@[simp] theorem fieldsOk_29 : fieldsOk Try.prog 29 = true := by kernel_rfl
@[simp] theorem isPtrT_29 : isPtr Try.prog 29 = false := by kernel_rfl
@[simp] theorem fldL_29 : fldL Try.prog 29 = some [(0, 3), (1, 3)] := by kernel_rfl
@[simp] theorem eqOkT_29 : eqOkT Try.prog 29 = true := by kernel_rfl
@[simp] theorem placeP_29_0 : placeP Try.prog 29 0 = some (0, 1) := by kernel_rfl
@[simp] theorem placeP_29_1 : placeP Try.prog 29 1 = some (1, 1) := by kernel_rfl
@[simp] theorem fld_29_0 : fld Try.prog 29 0 = some (0, 1, false) := by kernel_rfl
@[simp] theorem fld_29_1 : fld Try.prog 29 1 = some (1, 1, false) := by kernel_rfl
@[simp] theorem isBytesT_29 : isBytes Try.prog 29 = false := by kernel_rfl
@[simp] theorem intOfT_29 : Av.intOf Try.prog 29 = none := by kernel_rfl
@[simp] theorem tyAgg_31 : tyAgg Try.prog 31 = some false := by kernel_rfl
@[simp] theorem tySize_31 : tySize Try.prog 31 = some 1 := by kernel_rfl
@[simp] theorem isSomeT_31 : Av.isSome Try.prog 31 = true := by kernel_rfl
@[simp] theorem isIfaceT_31 : isIface Try.prog 31 = false := by kernel_rfl
@[simp] theorem isStrT_31 : isStr Try.prog 31 = false := by kernel_rfl
@[simp] theorem zeroC_31 : zeroC Try.prog 31 = some [.sc .nilFunc] := by kernel_rfl
@[simp] theorem isPtrT_31 : isPtr Try.prog 31 = false := by kernel_rfl
@[simp] theorem isBytesT_31 : isBytes Try.prog 31 = false := by kernel_rfl
@[simp] theorem intOfT_31 : Av.intOf Try.prog 31 = none := by kernel_rfl
@[simp] theorem tyAgg_32 : tyAgg Try.prog 32 = some false := by kernel_rfl
@[simp] theorem tySize_32 : tySize Try.prog 32 = some 1 := by kernel_rfl
@[simp] theorem isSomeT_32 : Av.isSome Try.prog 32 = true := by kernel_rfl
@[simp] theorem isIfaceT_32 : isIface Try.prog 32 = false := by kernel_rfl
@[simp] theorem isStrT_32 : isStr Try.prog 32 = false := by kernel_rfl
@[simp] theorem zeroC_32 : zeroC Try.prog 32 = some [.sc .nilFunc] := by kernel_rfl
@[simp] theorem isPtrT_32 : isPtr Try.prog 32 = false := by kernel_rfl
@[simp] theorem isBytesT_32 : isBytes Try.prog 32 = false := by kernel_rfl
@[simp] theorem intOfT_32 : Av.intOf Try.prog 32 = none := by kernel_rfl
@[simp] theorem tyAgg_33 : tyAgg Try.prog 33 = some false := by kernel_rfl
@[simp] theorem tySize_33 : tySize Try.prog 33 = some 1 := by kernel_rfl
@[simp] theorem isSomeT_33 : Av.isSome Try.prog 33 = true := by kernel_rfl
@[simp] theorem isIfaceT_33 : isIface Try.prog 33 = false := by kernel_rfl
@[simp] theorem isStrT_33 : isStr Try.prog 33 = false := by kernel_rfl
@[simp] theorem zeroC_33 : zeroC Try.prog 33 = some [.sc .nilFunc] := by kernel_rfl
@[simp] theorem isPtrT_33 : isPtr Try.prog 33 = false := by kernel_rfl
@[simp] theorem isBytesT_33 : isBytes Try.prog 33 = false := by kernel_rfl
@[simp] theorem intOfT_33 : Av.intOf Try.prog 33 = none := by kernel_rfl
@[simp] theorem tyAgg_34 : tyAgg Try.prog 34 = some false := by kernel_rfl
@[simp] theorem tySize_34 : tySize Try.prog 34 = some 1 := by kernel_rfl
@[simp] theorem isSomeT_34 : Av.isSome Try.prog 34 = true := by kernel_rfl
@[simp] theorem isIfaceT_34 : isIface Try.prog 34 = false := by kernel_rfl
@[simp] theorem isStrT_34 : isStr Try.prog 34 = false := by kernel_rfl
@[simp] theorem zeroC_34 : zeroC Try.prog 34 = some [.nil] := by kernel_rfl
@[simp] theorem isPtrT_34 : isPtr Try.prog 34 = false := by kernel_rfl
@[simp] theorem elSize_34 : elSize Try.prog 34 = some 2 := by kernel_rfl
@[simp] theorem elTy_34 : elTy Try.prog 34 = some (29, 2, 16) := by kernel_rfl
@[simp] theorem isBytesT_34 : isBytes Try.prog 34 = false := by kernel_rfl
@[simp] theorem intOfT_34 : Av.intOf Try.prog 34 = none := by kernel_rfl
@[simp] theorem tyAgg_36 : tyAgg Try.prog 36 = some false := by kernel_rfl
@[simp] theorem tySize_36 : tySize Try.prog 36 = some 1 := by kernel_rfl
@[simp] theorem isSomeT_36 : Av.isSome Try.prog 36 = true := by kernel_rfl
@[simp] theorem isIfaceT_36 : isIface Try.prog 36 = false := by kernel_rfl
@[simp] theorem isStrT_36 : isStr Try.prog 36 = false := by kernel_rfl
@[simp] theorem zeroC_36 : zeroC Try.prog 36 = some [.sc .nilFunc] := by kernel_rfl
@[simp] theorem isPtrT_36 : isPtr Try.prog 36 = false := by kernel_rfl
@[simp] theorem isBytesT_36 : isBytes Try.prog 36 = false := by kernel_rfl
@[simp] theorem intOfT_36 : Av.intOf Try.prog 36 = none := by kernel_rfl
@[simp] theorem tyAgg_37 : tyAgg Try.prog 37 = some false := by kernel_rfl
@[simp] theorem tySize_37 : tySize Try.prog 37 = some 1 := by kernel_rfl
@[simp] theorem isSomeT_37 : Av.isSome Try.prog 37 = true := by kernel_rfl
@[simp] theorem isIfaceT_37 : isIface Try.prog 37 = false := by kernel_rfl
@[simp] theorem isStrT_37 : isStr Try.prog 37 = false := by kernel_rfl
@[simp] theorem zeroC_37 : zeroC Try.prog 37 = some [.sc .nilFunc] := by kernel_rfl
@[simp] theorem isPtrT_37 : isPtr Try.prog 37 = false := by kernel_rfl
@[simp] theorem isBytesT_37 : isBytes Try.prog 37 = false := by kernel_rfl
@[simp] theorem intOfT_37 : Av.intOf Try.prog 37 = none := by kernel_rfl
@[simp] theorem tyAgg_38 : tyAgg Try.prog 38 = some false := by kernel_rfl
@[simp] theorem tySize_38 : tySize Try.prog 38 = some 1 := by kernel_rfl
@[simp] theorem isSomeT_38 : Av.isSome Try.prog 38 = true := by kernel_rfl
@[simp] theorem isIfaceT_38 : isIface Try.prog 38 = false := by kernel_rfl
@[simp] theorem isStrT_38 : isStr Try.prog 38 = false := by kernel_rfl
@[simp] theorem zeroC_38 : zeroC Try.prog 38 = some [.sc .nilFunc] := by kernel_rfl
@[simp] theorem isPtrT_38 : isPtr Try.prog 38 = false := by kernel_rfl
@[simp] theorem isBytesT_38 : isBytes Try.prog 38 = false := by kernel_rfl
@[simp] theorem intOfT_38 : Av.intOf Try.prog 38 = none := by kernel_rfl
@[simp] theorem tyAgg_39 : tyAgg Try.prog 39 = some false := by kernel_rfl
@[simp] theorem tySize_39 : tySize Try.prog 39 = some 1 := by kernel_rfl
@[simp] theorem isSomeT_39 : Av.isSome Try.prog 39 = true := by kernel_rfl
@[simp] theorem isIfaceT_39 : isIface Try.prog 39 = false := by kernel_rfl
@[simp] theorem isStrT_39 : isStr Try.prog 39 = false := by kernel_rfl
@[simp] theorem zeroC_39 : zeroC Try.prog 39 = some [.sc .nilFunc] := by kernel_rfl
@[simp] theorem isPtrT_39 : isPtr Try.prog 39 = false := by kernel_rfl
@[simp] theorem isBytesT_39 : isBytes Try.prog 39 = false := by kernel_rfl
@[simp] theorem intOfT_39 : Av.intOf Try.prog 39 = none := by kernel_rfl
@[simp] theorem tyAgg_40 : tyAgg Try.prog 40 = some false := by kernel_rfl
@[simp] theorem tySize_40 : tySize Try.prog 40 = some 1 := by kernel_rfl
@[simp] theorem isSomeT_40 : Av.isSome Try.prog 40 = true := by kernel_rfl
@[simp] theorem isIfaceT_40 : isIface Try.prog 40 = false := by kernel_rfl
@[simp] theorem isStrT_40 : isStr Try.prog 40 = false := by kernel_rfl
@[simp] theorem zeroC_40 : zeroC Try.prog 40 = some [.sc .nilFunc] := by kernel_rfl
@[simp] theorem isPtrT_40 : isPtr Try.prog 40 = false := by kernel_rfl
@[simp] theorem isBytesT_40 : isBytes Try.prog 40 = false := by kernel_rfl
@[simp] theorem intOfT_40 : Av.intOf Try.prog 40 = none := by kernel_rfl
@[simp] theorem tyAgg_41 : tyAgg Try.prog 41 = some false := by kernel_rfl
@[simp] theorem tySize_41 : tySize Try.prog 41 = some 1 := by kernel_rfl
@[simp] theorem isSomeT_41 : Av.isSome Try.prog 41 = true := by kernel_rfl
@[simp] theorem isIfaceT_41 : isIface Try.prog 41 = false := by kernel_rfl
@[simp] theorem isStrT_41 : isStr Try.prog 41 = false := by kernel_rfl
@[simp] theorem zeroC_41 : zeroC Try.prog 41 = some [.sc .nilFunc] := by kernel_rfl
@[simp] theorem isPtrT_41 : isPtr Try.prog 41 = false := by kernel_rfl
@[simp] theorem isBytesT_41 : isBytes Try.prog 41 = false := by kernel_rfl
@[simp] theorem intOfT_41 : Av.intOf Try.prog 41 = none := by kernel_rfl
@[simp] theorem tyAgg_42 : tyAgg Try.prog 42 = some false := by kernel_rfl
@[simp] theorem tySize_42 : tySize Try.prog 42 = some 1 := by kernel_rfl
@[simp] theorem isSomeT_42 : Av.isSome Try.prog 42 = true := by kernel_rfl
@[simp] theorem isIfaceT_42 : isIface Try.prog 42 = false := by kernel_rfl
@[simp] theorem isStrT_42 : isStr Try.prog 42 = false := by kernel_rfl
@[simp] theorem zeroC_42 : zeroC Try.prog 42 = some [.nil] := by kernel_rfl
@[simp] theorem isPtrT_42 : isPtr Try.prog 42 = false := by kernel_rfl
@[simp] theorem elSize_42 : elSize Try.prog 42 = some 4 := by kernel_rfl
@[simp] theorem elTy_42 : elTy Try.prog 42 = some (46, 4, 48) := by kernel_rfl
@[simp] theorem isBytesT_42 : isBytes Try.prog 42 = false := by kernel_rfl
@[simp] theorem intOfT_42 : Av.intOf Try.prog 42 = none := by kernel_rfl
@[simp] theorem tyAgg_43 : tyAgg Try.prog 43 = some false := by kernel_rfl
@[simp] theorem tySize_43 : tySize Try.prog 43 = some 1 := by kernel_rfl
@[simp] theorem isSomeT_43 : Av.isSome Try.prog 43 = true := by kernel_rfl
@[simp] theorem isIfaceT_43 : isIface Try.prog 43 = false := by kernel_rfl
@[simp] theorem isStrT_43 : isStr Try.prog 43 = false := by kernel_rfl
@[simp] theorem zeroC_43 : zeroC Try.prog 43 = some [.sc (.pointer none)] := by kernel_rfl
@[simp] theorem isPtrT_43 : isPtr Try.prog 43 = true := by kernel_rfl
@[simp] theorem isBytesT_43 : isBytes Try.prog 43 = false := by kernel_rfl
@[simp] theorem intOfT_43 : Av.intOf Try.prog 43 = none := by kernel_rfl
@[simp] theorem tyAgg_44 : tyAgg Try.prog 44 = some false := by kernel_rfl
@[simp] theorem tySize_44 : tySize Try.prog 44 = some 1 := by kernel_rfl
@[simp] theorem isSomeT_44 : Av.isSome Try.prog 44 = true := by kernel_rfl
@[simp] theorem isIfaceT_44 : isIface Try.prog 44 = false := by kernel_rfl
@[simp] theorem isStrT_44 : isStr Try.prog 44 = false := by kernel_rfl
@[simp] theorem zeroC_44 : zeroC Try.prog 44 = some [.sc .nilFunc] := by kernel_rfl
@[simp] theorem isPtrT_44 : isPtr Try.prog 44 = false := by kernel_rfl
@[simp] theorem isBytesT_44 : isBytes Try.prog 44 = false := by kernel_rfl
@[simp] theorem intOfT_44 : Av.intOf Try.prog 44 = none := by kernel_rfl
@[simp] theorem tyAgg_45 : tyAgg Try.prog 45 = some true := by kernel_rfl
@[simp] theorem tySize_45 : tySize Try.prog 45 = some 4 := by kernel_rfl
@[simp] theorem isSomeT_45 : Av.isSome Try.prog 45 = true := by kernel_rfl
@[simp] theorem isIfaceT_45 : isIface Try.prog 45 = false := by kernel_rfl
@[simp] theorem isStrT_45 : isStr Try.prog 45 = false := by kernel_rfl
@[simp] theorem zeroC_45 : zeroC Try.prog 45 = some [.sc (.int .i64 0), .sc (.int .i64 0), .sc (.int .i64 0), .nil] := by kernel_rfl
@[simp] theorem fieldsOk_45 : fieldsOk Try.prog 45 = true := by kernel_rfl
@[simp] theorem isPtrT_45 : isPtr Try.prog 45 = false := by kernel_rfl
@[simp] theorem placeP_45_0 : placeP Try.prog 45 0 = some (0, 1) := by kernel_rfl
@[simp] theorem placeP_45_1 : placeP Try.prog 45 1 = some (1, 1) := by kernel_rfl
@[simp] theorem placeP_45_2 : placeP Try.prog 45 2 = some (2, 1) := by kernel_rfl
@[simp] theorem placeP_45_3 : placeP Try.prog 45 3 = some (3, 1) := by kernel_rfl
@[simp] theorem fld_45_0 : fld Try.prog 45 0 = some (0, 1, false) := by kernel_rfl
@[simp] theorem fld_45_1 : fld Try.prog 45 1 = some (1, 1, false) := by kernel_rfl
@[simp] theorem fld_45_2 : fld Try.prog 45 2 = some (2, 1, false) := by kernel_rfl
@[simp] theorem fld_45_3 : fld Try.prog 45 3 = some (3, 1, false) := by kernel_rfl
@[simp] theorem isBytesT_45 : isBytes Try.prog 45 = false := by kernel_rfl
@[simp] theorem intOfT_45 : Av.intOf Try.prog 45 = none := by kernel_rfl
@[simp] theorem tyAgg_46 : tyAgg Try.prog 46 = some true := by kernel_rfl
@[simp] theorem tySize_46 : tySize Try.prog 46 = some 4 := by kernel_rfl
@[simp] theorem isSomeT_46 : Av.isSome Try.prog 46 = true := by kernel_rfl
@[simp] theorem isIfaceT_46 : isIface Try.prog 46 = false := by kernel_rfl
@[simp] theorem isStrT_46 : isStr Try.prog 46 = false := by kernel_rfl
@[simp] theorem zeroC_46 : zeroC Try.prog 46 = some [.sc (.int .i64 0), .sc (.int .i64 0), .sc (.int .i64 0), .nil] := by kernel_rfl
@[simp] theorem fieldsOk_46 : fieldsOk Try.prog 46 = true := by kernel_rfl
@[simp] theorem isPtrT_46 : isPtr Try.prog 46 = false := by kernel_rfl
@[simp] theorem placeP_46_0 : placeP Try.prog 46 0 = some (0, 1) := by kernel_rfl
@[simp] theorem placeP_46_1 : placeP Try.prog 46 1 = some (1, 1) := by kernel_rfl
@[simp] theorem placeP_46_2 : placeP Try.prog 46 2 = some (2, 1) := by kernel_rfl
@[simp] theorem placeP_46_3 : placeP Try.prog 46 3 = some (3, 1) := by kernel_rfl
@[simp] theorem fld_46_0 : fld Try.prog 46 0 = some (0, 1, false) := by kernel_rfl
@[simp] theorem fld_46_1 : fld Try.prog 46 1 = some (1, 1, false) := by kernel_rfl
@[simp] theorem fld_46_2 : fld Try.prog 46 2 = some (2, 1, false) := by kernel_rfl
@[simp] theorem fld_46_3 : fld Try.prog 46 3 = some (3, 1, false) := by kernel_rfl
@[simp] theorem isBytesT_46 : isBytes Try.prog 46 = false := by kernel_rfl
@[simp] theorem intOfT_46 : Av.intOf Try.prog 46 = none := by kernel_rfl
@[simp] theorem tyAgg_47 : tyAgg Try.prog 47 = some false := by kernel_rfl
@[simp] theorem tySize_47 : tySize Try.prog 47 = some 1 := by kernel_rfl
@[simp] theorem isSomeT_47 : Av.isSome Try.prog 47 = true := by kernel_rfl
@[simp] theorem isIfaceT_47 : isIface Try.prog 47 = false := by kernel_rfl
@[simp] theorem isStrT_47 : isStr Try.prog 47 = false := by kernel_rfl
@[simp] theorem zeroC_47 : zeroC Try.prog 47 = some [.sc .nilFunc] := by kernel_rfl
@[simp] theorem isPtrT_47 : isPtr Try.prog 47 = false := by kernel_rfl
@[simp] theorem isBytesT_47 : isBytes Try.prog 47 = false := by kernel_rfl
@[simp] theorem intOfT_47 : Av.intOf Try.prog 47 = none := by kernel_rfl
@[simp] theorem tyAgg_48 : tyAgg Try.prog 48 = some false := by kernel_rfl
@[simp] theorem tySize_48 : tySize Try.prog 48 = some 1 := by kernel_rfl
@[simp] theorem isSomeT_48 : Av.isSome Try.prog 48 = true := by kernel_rfl
@[simp] theorem isIfaceT_48 : isIface Try.prog 48 = false := by kernel_rfl
@[simp] theorem isStrT_48 : isStr Try.prog 48 = false := by kernel_rfl
@[simp] theorem zeroC_48 : zeroC Try.prog 48 = some [.sc .nilFunc] := by kernel_rfl
@[simp] theorem isPtrT_48 : isPtr Try.prog 48 = false := by kernel_rfl
@[simp] theorem isBytesT_48 : isBytes Try.prog 48 = false := by kernel_rfl
@[simp] theorem intOfT_48 : Av.intOf Try.prog 48 = none := by kernel_rfl
@[simp] theorem tyAgg_49 : tyAgg Try.prog 49 = some false := by kernel_rfl
@[simp] theorem tySize_49 : tySize Try.prog 49 = some 1 := by kernel_rfl
@[simp] theorem isSomeT_49 : Av.isSome Try.prog 49 = true := by kernel_rfl
@[simp] theorem isIfaceT_49 : isIface Try.prog 49 = false := by kernel_rfl
@[simp] theorem isStrT_49 : isStr Try.prog 49 = false := by kernel_rfl
@[simp] theorem zeroC_49 : zeroC Try.prog 49 = some [.nil] := by kernel_rfl
@[simp] theorem isPtrT_49 : isPtr Try.prog 49 = false := by kernel_rfl
@[simp] theorem elSize_49 : elSize Try.prog 49 = some 2 := by kernel_rfl
@[simp] theorem elTy_49 : elTy Try.prog 49 = some (29, 2, 16) := by kernel_rfl
@[simp] theorem isBytesT_49 : isBytes Try.prog 49 = false := by kernel_rfl
@[simp] theorem intOfT_49 : Av.intOf Try.prog 49 = none := by kernel_rfl
@[simp] theorem tyAgg_50 : tyAgg Try.prog 50 = some true := by kernel_rfl
@[simp] theorem tySize_50 : tySize Try.prog 50 = some 4 := by kernel_rfl
@[simp] theorem isSomeT_50 : Av.isSome Try.prog 50 = true := by kernel_rfl
@[simp] theorem isIfaceT_50 : isIface Try.prog 50 = false := by kernel_rfl
@[simp] theorem isStrT_50 : isStr Try.prog 50 = false := by kernel_rfl
@[simp] theorem zeroC_50 : zeroC Try.prog 50 = some [.sc (.int .i64 0), .nil, .nil, .nil] := by kernel_rfl
@[simp] theorem fieldsOk_50 : fieldsOk Try.prog 50 = true := by kernel_rfl
@[simp] theorem isPtrT_50 : isPtr Try.prog 50 = false := by kernel_rfl
@[simp] theorem placeP_50_0 : placeP Try.prog 50 0 = some (0, 1) := by kernel_rfl
@[simp] theorem placeP_50_1 : placeP Try.prog 50 1 = some (1, 1) := by kernel_rfl
@[simp] theorem placeP_50_2 : placeP Try.prog 50 2 = some (2, 1) := by kernel_rfl
@[simp] theorem placeP_50_3 : placeP Try.prog 50 3 = some (3, 1) := by kernel_rfl
@[simp] theorem fld_50_0 : fld Try.prog 50 0 = some (0, 1, false) := by kernel_rfl
@[simp] theorem fld_50_1 : fld Try.prog 50 1 = some (1, 1, false) := by kernel_rfl
@[simp] theorem fld_50_2 : fld Try.prog 50 2 = some (2, 1, false) := by kernel_rfl
@[simp] theorem fld_50_3 : fld Try.prog 50 3 = some (3, 1, false) := by kernel_rfl
@[simp] theorem isBytesT_50 : isBytes Try.prog 50 = false := by kernel_rfl
@[simp] theorem intOfT_50 : Av.intOf Try.prog 50 = none := by kernel_rfl
@[simp] theorem tyAgg_51 : tyAgg Try.prog 51 = some true := by kernel_rfl
@[simp] theorem tySize_51 : tySize Try.prog 51 = some 4 := by kernel_rfl
@[simp] theorem isSomeT_51 : Av.isSome Try.prog 51 = true := by kernel_rfl
@[simp] theorem isIfaceT_51 : isIface Try.prog 51 = false := by kernel_rfl
@[simp] theorem isStrT_51 : isStr Try.prog 51 = false := by kernel_rfl
@[simp] theorem zeroC_51 : zeroC Try.prog 51 = some [.sc (.int .i64 0), .nil, .nil, .nil] := by kernel_rfl
@[simp] theorem fieldsOk_51 : fieldsOk Try.prog 51 = true := by kernel_rfl
@[simp] theorem isPtrT_51 : isPtr Try.prog 51 = false := by kernel_rfl
@[simp] theorem placeP_51_0 : placeP Try.prog 51 0 = some (0, 1) := by kernel_rfl
@[simp] theorem placeP_51_1 : placeP Try.prog 51 1 = some (1, 1) := by kernel_rfl
@[simp] theorem placeP_51_2 : placeP Try.prog 51 2 = some (2, 1) := by kernel_rfl
@[simp] theorem placeP_51_3 : placeP Try.prog 51 3 = some (3, 1) := by kernel_rfl
@[simp] theorem fld_51_0 : fld Try.prog 51 0 = some (0, 1, false) := by kernel_rfl
@[simp] theorem fld_51_1 : fld Try.prog 51 1 = some (1, 1, false) := by kernel_rfl
@[simp] theorem fld_51_2 : fld Try.prog 51 2 = some (2, 1, false) := by kernel_rfl
@[simp] theorem fld_51_3 : fld Try.prog 51 3 = some (3, 1, false) := by kernel_rfl
@[simp] theorem isBytesT_51 : isBytes Try.prog 51 = false := by kernel_rfl
@[simp] theorem intOfT_51 : Av.intOf Try.prog 51 = none := by kernel_rfl
@[simp] theorem tyAgg_52 : tyAgg Try.prog 52 = some false := by kernel_rfl
@[simp] theorem tySize_52 : tySize Try.prog 52 = some 1 := by kernel_rfl
@[simp] theorem isSomeT_52 : Av.isSome Try.prog 52 = true := by kernel_rfl
@[simp] theorem isIfaceT_52 : isIface Try.prog 52 = false := by kernel_rfl
@[simp] theorem isStrT_52 : isStr Try.prog 52 = false := by kernel_rfl
@[simp] theorem zeroC_52 : zeroC Try.prog 52 = some [.sc .nilFunc] := by kernel_rfl
@[simp] theorem isPtrT_52 : isPtr Try.prog 52 = false := by kernel_rfl
@[simp] theorem isBytesT_52 : isBytes Try.prog 52 = false := by kernel_rfl
@[simp] theorem intOfT_52 : Av.intOf Try.prog 52 = none := by kernel_rfl
@[simp] theorem tyAgg_53 : tyAgg Try.prog 53 = some false := by kernel_rfl
@[simp] theorem tySize_53 : tySize Try.prog 53 = some 1 := by kernel_rfl
@[simp] theorem isSomeT_53 : Av.isSome Try.prog 53 = true := by kernel_rfl
@[simp] theorem isIfaceT_53 : isIface Try.prog 53 = false := by kernel_rfl
@[simp] theorem isStrT_53 : isStr Try.prog 53 = false := by kernel_rfl
@[simp] theorem zeroC_53 : zeroC Try.prog 53 = some [.sc .nilFunc] := by kernel_rfl
@[simp] theorem isPtrT_53 : isPtr Try.prog 53 = false := by kernel_rfl
@[simp] theorem isBytesT_53 : isBytes Try.prog 53 = false := by kernel_rfl
@[simp] theorem intOfT_53 : Av.intOf Try.prog 53 = none := by kernel_rfl
@[simp] theorem tyAgg_54 : tyAgg Try.prog 54 = some false := by kernel_rfl
@[simp] theorem tySize_54 : tySize Try.prog 54 = some 1 := by kernel_rfl
@[simp] theorem isSomeT_54 : Av.isSome Try.prog 54 = true := by kernel_rfl
@[simp] theorem isIfaceT_54 : isIface Try.prog 54 = false := by kernel_rfl
@[simp] theorem isStrT_54 : isStr Try.prog 54 = false := by kernel_rfl
@[simp] theorem zeroC_54 : zeroC Try.prog 54 = some [.sc .nilFunc] := by kernel_rfl
@[simp] theorem isPtrT_54 : isPtr Try.prog 54 = false := by kernel_rfl
@[simp] theorem isBytesT_54 : isBytes Try.prog 54 = false := by kernel_rfl
@[simp] theorem intOfT_54 : Av.intOf Try.prog 54 = none := by kernel_rfl
@[simp] theorem tyAgg_55 : tyAgg Try.prog 55 = some false := by kernel_rfl
@[simp] theorem tySize_55 : tySize Try.prog 55 = some 1 := by kernel_rfl
@[simp] theorem isSomeT_55 : Av.isSome Try.prog 55 = true := by kernel_rfl
@[simp] theorem isIfaceT_55 : isIface Try.prog 55 = false := by kernel_rfl
@[simp] theorem isStrT_55 : isStr Try.prog 55 = false := by kernel_rfl
@[simp] theorem zeroC_55 : zeroC Try.prog 55 = some [.sc .nilFunc] := by kernel_rfl
@[simp] theorem isPtrT_55 : isPtr Try.prog 55 = false := by kernel_rfl
@[simp] theorem isBytesT_55 : isBytes Try.prog 55 = false := by kernel_rfl
@[simp] theorem intOfT_55 : Av.intOf Try.prog 55 = none := by kernel_rfl
@[simp] theorem tyAgg_56 : tyAgg Try.prog 56 = some false := by kernel_rfl
@[simp] theorem tySize_56 : tySize Try.prog 56 = some 1 := by kernel_rfl
@[simp] theorem isSomeT_56 : Av.isSome Try.prog 56 = true := by kernel_rfl
@[simp] theorem isIfaceT_56 : isIface Try.prog 56 = false := by kernel_rfl
@[simp] theorem isStrT_56 : isStr Try.prog 56 = false := by kernel_rfl
@[simp] theorem zeroC_56 : zeroC Try.prog 56 = some [.sc .nilFunc] := by kernel_rfl
@[simp] theorem isPtrT_56 : isPtr Try.prog 56 = false := by kernel_rfl
@[simp] theorem isBytesT_56 : isBytes Try.prog 56 = false := by kernel_rfl
@[simp] theorem intOfT_56 : Av.intOf Try.prog 56 = none := by kernel_rfl
@[simp] theorem tyAgg_57 : tyAgg Try.prog 57 = some false := by kernel_rfl
@[simp] theorem tySize_57 : tySize Try.prog 57 = some 1 := by kernel_rfl
@[simp] theorem isSomeT_57 : Av.isSome Try.prog 57 = true := by kernel_rfl
@[simp] theorem isIfaceT_57 : isIface Try.prog 57 = false := by kernel_rfl
@[simp] theorem isStrT_57 : isStr Try.prog 57 = false := by kernel_rfl
@[simp] theorem zeroC_57 : zeroC Try.prog 57 = some [.nil] := by kernel_rfl
@[simp] theorem isPtrT_57 : isPtr Try.prog 57 = false := by kernel_rfl
@[simp] theorem elSize_57 : elSize Try.prog 57 = some 1 := by kernel_rfl
@[simp] theorem elTy_57 : elTy Try.prog 57 = some (4, 1, 1) := by kernel_rfl
@[simp] theorem isBytesT_57 : isBytes Try.prog 57 = false := by kernel_rfl
@[simp] theorem intOfT_57 : Av.intOf Try.prog 57 = none := by kernel_rfl
@[simp] theorem tyAgg_58 : tyAgg Try.prog 58 = some true := by kernel_rfl
@[simp] theorem tySize_58 : tySize Try.prog 58 = some 2 := by kernel_rfl
@[simp] theorem isSomeT_58 : Av.isSome Try.prog 58 = true := by kernel_rfl
@[simp] theorem isIfaceT_58 : isIface Try.prog 58 = false := by kernel_rfl
@[simp] theorem isStrT_58 : isStr Try.prog 58 = false := by kernel_rfl
@[simp] theorem zeroC_58 : zeroC Try.prog 58 = some [.nil, .nil] := by kernel_rfl
@[simp] theorem fieldsOk_58 : fieldsOk Try.prog 58 = true := by kernel_rfl
@[simp] theorem isPtrT_58 : isPtr Try.prog 58 = false := by kernel_rfl
@[simp] theorem placeP_58_0 : placeP Try.prog 58 0 = some (0, 1) := by kernel_rfl
@[simp] theorem placeP_58_1 : placeP Try.prog 58 1 = some (1, 1) := by kernel_rfl
@[simp] theorem fld_58_0 : fld Try.prog 58 0 = some (0, 1, false) := by kernel_rfl
@[simp] theorem fld_58_1 : fld Try.prog 58 1 = some (1, 1, false) := by kernel_rfl
@[simp] theorem isBytesT_58 : isBytes Try.prog 58 = false := by kernel_rfl
@[simp] theorem intOfT_58 : Av.intOf Try.prog 58 = none := by kernel_rfl
@[simp] theorem tyAgg_59 : tyAgg Try.prog 59 = some true := by kernel_rfl
@[simp] theorem tySize_59 : tySize Try.prog 59 = some 2 := by kernel_rfl
@[simp] theorem isSomeT_59 : Av.isSome Try.prog 59 = true := by kernel_rfl
@[simp] theorem isIfaceT_59 : isIface Try.prog 59 = false := by kernel_rfl
@[simp] theorem isStrT_59 : isStr Try.prog 59 = false := by kernel_rfl
@[simp] theorem zeroC_59 : zeroC Try.prog 59 = some [.nil, .nil] := by kernel_rfl
@[simp] theorem fieldsOk_59 : fieldsOk Try.prog 59 = true := by kernel_rfl
@[simp] theorem isPtrT_59 : isPtr Try.prog 59 = false := by kernel_rfl
@[simp] theorem placeP_59_0 : placeP Try.prog 59 0 = some (0, 1) := by kernel_rfl
@[simp] theorem placeP_59_1 : placeP Try.prog 59 1 = some (1, 1) := by kernel_rfl
@[simp] theorem fld_59_0 : fld Try.prog 59 0 = some (0, 1, false) := by kernel_rfl
@[simp] theorem fld_59_1 : fld Try.prog 59 1 = some (1, 1, false) := by kernel_rfl
@[simp] theorem isBytesT_59 : isBytes Try.prog 59 = false := by kernel_rfl
@[simp] theorem intOfT_59 : Av.intOf Try.prog 59 = none := by kernel_rfl
@[simp] theorem tyAgg_60 : tyAgg Try.prog 60 = some false := by kernel_rfl
@[simp] theorem tySize_60 : tySize Try.prog 60 = some 1 := by kernel_rfl
@[simp] theorem isSomeT_60 : Av.isSome Try.prog 60 = true := by kernel_rfl
@[simp] theorem isIfaceT_60 : isIface Try.prog 60 = false := by kernel_rfl
@[simp] theorem isStrT_60 : isStr Try.prog 60 = false := by kernel_rfl
@[simp] theorem zeroC_60 : zeroC Try.prog 60 = some [.sc .nilFunc] := by kernel_rfl
@[simp] theorem isPtrT_60 : isPtr Try.prog 60 = false := by kernel_rfl
@[simp] theorem isBytesT_60 : isBytes Try.prog 60 = false := by kernel_rfl
@[simp] theorem intOfT_60 : Av.intOf Try.prog 60 = none := by kernel_rfl
@[simp] theorem tyAgg_61 : tyAgg Try.prog 61 = some false := by kernel_rfl
@[simp] theorem tySize_61 : tySize Try.prog 61 = some 1 := by kernel_rfl
@[simp] theorem isSomeT_61 : Av.isSome Try.prog 61 = true := by kernel_rfl
@[simp] theorem isIfaceT_61 : isIface Try.prog 61 = false := by kernel_rfl
@[simp] theorem isStrT_61 : isStr Try.prog 61 = false := by kernel_rfl
@[simp] theorem zeroC_61 : zeroC Try.prog 61 = some [.sc (.pointer none)] := by kernel_rfl
@[simp] theorem isPtrT_61 : isPtr Try.prog 61 = true := by kernel_rfl
@[simp] theorem isBytesT_61 : isBytes Try.prog 61 = false := by kernel_rfl
@[simp] theorem intOfT_61 : Av.intOf Try.prog 61 = none := by kernel_rfl
@[simp] theorem tyAgg_62 : tyAgg Try.prog 62 = some false := by kernel_rfl
@[simp] theorem tySize_62 : tySize Try.prog 62 = some 1 := by kernel_rfl
@[simp] theorem isSomeT_62 : Av.isSome Try.prog 62 = true := by kernel_rfl
@[simp] theorem isIfaceT_62 : isIface Try.prog 62 = false := by kernel_rfl
@[simp] theorem isStrT_62 : isStr Try.prog 62 = false := by kernel_rfl
@[simp] theorem zeroC_62 : zeroC Try.prog 62 = some [.sc .nilFunc] := by kernel_rfl
@[simp] theorem isPtrT_62 : isPtr Try.prog 62 = false := by kernel_rfl
@[simp] theorem isBytesT_62 : isBytes Try.prog 62 = false := by kernel_rfl
@[simp] theorem intOfT_62 : Av.intOf Try.prog 62 = none := by kernel_rfl
@[simp] theorem tyAgg_63 : tyAgg Try.prog 63 = some false := by kernel_rfl
@[simp] theorem tySize_63 : tySize Try.prog 63 = some 1 := by kernel_rfl
@[simp] theorem isSomeT_63 : Av.isSome Try.prog 63 = true := by kernel_rfl
@[simp] theorem isIfaceT_63 : isIface Try.prog 63 = false := by kernel_rfl
@[simp] theorem isStrT_63 : isStr Try.prog 63 = false := by kernel_rfl
@[simp] theorem zeroC_63 : zeroC Try.prog 63 = some [.sc .nilFunc] := by kernel_rfl
@[simp] theorem isPtrT_63 : isPtr Try.prog 63 = false := by kernel_rfl
@[simp] theorem isBytesT_63 : isBytes Try.prog 63 = false := by kernel_rfl
@[simp] theorem intOfT_63 : Av.intOf Try.prog 63 = none := by kernel_rfl
@[simp] theorem tyAgg_64 : tyAgg Try.prog 64 = some false := by kernel_rfl
@[simp] theorem tySize_64 : tySize Try.prog 64 = some 1 := by kernel_rfl
@[simp] theorem isSomeT_64 : Av.isSome Try.prog 64 = true := by kernel_rfl
@[simp] theorem isIfaceT_64 : isIface Try.prog 64 = false := by kernel_rfl
@[simp] theorem isStrT_64 : isStr Try.prog 64 = false := by kernel_rfl
@[simp] theorem zeroC_64 : zeroC Try.prog 64 = some [.sc .nilFunc] := by kernel_rfl
@[simp] theorem isPtrT_64 : isPtr Try.prog 64 = false := by kernel_rfl
@[simp] theorem isBytesT_64 : isBytes Try.prog 64 = false := by kernel_rfl
@[simp] theorem intOfT_64 : Av.intOf Try.prog 64 = none := by kernel_rfl
@[simp] theorem tyAgg_65 : tyAgg Try.prog 65 = some false := by kernel_rfl
@[simp] theorem tySize_65 : tySize Try.prog 65 = some 1 := by kernel_rfl
@[simp] theorem isSomeT_65 : Av.isSome Try.prog 65 = true := by kernel_rfl
@[simp] theorem isIfaceT_65 : isIface Try.prog 65 = false := by kernel_rfl
@[simp] theorem isStrT_65 : isStr Try.prog 65 = false := by kernel_rfl
@[simp] theorem zeroC_65 : zeroC Try.prog 65 = some [.sc .nilFunc] := by kernel_rfl
@[simp] theorem isPtrT_65 : isPtr Try.prog 65 = false := by kernel_rfl
@[simp] theorem isBytesT_65 : isBytes Try.prog 65 = false := by kernel_rfl
@[simp] theorem intOfT_65 : Av.intOf Try.prog 65 = none := by kernel_rfl
@[simp] theorem tyAgg_67 : tyAgg Try.prog 67 = some false := by kernel_rfl
@[simp] theorem tySize_67 : tySize Try.prog 67 = some 1 := by kernel_rfl
@[simp] theorem isSomeT_67 : Av.isSome Try.prog 67 = true := by kernel_rfl
@[simp] theorem isIfaceT_67 : isIface Try.prog 67 = false := by kernel_rfl
@[simp] theorem isStrT_67 : isStr Try.prog 67 = false := by kernel_rfl
@[simp] theorem zeroC_67 : zeroC Try.prog 67 = some [.sc .nilFunc] := by kernel_rfl
@[simp] theorem isPtrT_67 : isPtr Try.prog 67 = false := by kernel_rfl
@[simp] theorem isBytesT_67 : isBytes Try.prog 67 = false := by kernel_rfl
@[simp] theorem intOfT_67 : Av.intOf Try.prog 67 = none := by kernel_rfl
@[simp] theorem tyAgg_68 : tyAgg Try.prog 68 = some false := by kernel_rfl
@[simp] theorem tySize_68 : tySize Try.prog 68 = some 1 := by kernel_rfl
@[simp] theorem isSomeT_68 : Av.isSome Try.prog 68 = true := by kernel_rfl
@[simp] theorem isIfaceT_68 : isIface Try.prog 68 = false := by kernel_rfl
@[simp] theorem isStrT_68 : isStr Try.prog 68 = false := by kernel_rfl
@[simp] theorem zeroC_68 : zeroC Try.prog 68 = some [.sc .nilFunc] := by kernel_rfl
@[simp] theorem isPtrT_68 : isPtr Try.prog 68 = false := by kernel_rfl
@[simp] theorem isBytesT_68 : isBytes Try.prog 68 = false := by kernel_rfl
@[simp] theorem intOfT_68 : Av.intOf Try.prog 68 = none := by kernel_rfl
@[simp] theorem tyAgg_69 : tyAgg Try.prog 69 = some false := by kernel_rfl
@[simp] theorem tySize_69 : tySize Try.prog 69 = some 1 := by kernel_rfl
@[simp] theorem isSomeT_69 : Av.isSome Try.prog 69 = true := by kernel_rfl
@[simp] theorem isIfaceT_69 : isIface Try.prog 69 = false := by kernel_rfl
@[simp] theorem isStrT_69 : isStr Try.prog 69 = false := by kernel_rfl
@[simp] theorem zeroC_69 : zeroC Try.prog 69 = some [.sc .nilFunc] := by kernel_rfl
@[simp] theorem isPtrT_69 : isPtr Try.prog 69 = false := by kernel_rfl
@[simp] theorem isBytesT_69 : isBytes Try.prog 69 = false := by kernel_rfl
@[simp] theorem intOfT_69 : Av.intOf Try.prog 69 = none := by kernel_rfl
@[simp] theorem tyAgg_70 : tyAgg Try.prog 70 = some false := by kernel_rfl
@[simp] theorem tySize_70 : tySize Try.prog 70 = some 1 := by kernel_rfl
@[simp] theorem isSomeT_70 : Av.isSome Try.prog 70 = true := by kernel_rfl
@[simp] theorem isIfaceT_70 : isIface Try.prog 70 = false := by kernel_rfl
@[simp] theorem isStrT_70 : isStr Try.prog 70 = false := by kernel_rfl
@[simp] theorem zeroC_70 : zeroC Try.prog 70 = some [.sc .nilFunc] := by kernel_rfl
@[simp] theorem isPtrT_70 : isPtr Try.prog 70 = false := by kernel_rfl
@[simp] theorem isBytesT_70 : isBytes Try.prog 70 = false := by kernel_rfl
@[simp] theorem intOfT_70 : Av.intOf Try.prog 70 = none := by kernel_rfl
@[simp] theorem tyAgg_71 : tyAgg Try.prog 71 = some false := by kernel_rfl
@[simp] theorem tySize_71 : tySize Try.prog 71 = some 1 := by kernel_rfl
@[simp] theorem isSomeT_71 : Av.isSome Try.prog 71 = true := by kernel_rfl
@[simp] theorem isIfaceT_71 : isIface Try.prog 71 = false := by kernel_rfl
@[simp] theorem isStrT_71 : isStr Try.prog 71 = false := by kernel_rfl
@[simp] theorem zeroC_71 : zeroC Try.prog 71 = some [.sc (.int .u64 0)] := by kernel_rfl
@[simp] theorem isPtrT_71 : isPtr Try.prog 71 = false := by kernel_rfl
@[simp] theorem isBytesT_71 : isBytes Try.prog 71 = false := by kernel_rfl
@[simp] theorem intOfT_71 : Av.intOf Try.prog 71 = some .u64 := by kernel_rfl
@[simp] theorem tyAgg_72 : tyAgg Try.prog 72 = some false := by kernel_rfl
@[simp] theorem tySize_72 : tySize Try.prog 72 = some 1 := by kernel_rfl
@[simp] theorem isSomeT_72 : Av.isSome Try.prog 72 = true := by kernel_rfl
@[simp] theorem isIfaceT_72 : isIface Try.prog 72 = false := by kernel_rfl
@[simp] theorem isStrT_72 : isStr Try.prog 72 = false := by kernel_rfl
@[simp] theorem zeroC_72 : zeroC Try.prog 72 = some [.sc .nilFunc] := by kernel_rfl
@[simp] theorem isPtrT_72 : isPtr Try.prog 72 = false := by kernel_rfl
@[simp] theorem isBytesT_72 : isBytes Try.prog 72 = false := by kernel_rfl
@[simp] theorem intOfT_72 : Av.intOf Try.prog 72 = none := by kernel_rfl
@[simp] theorem tyAgg_73 : tyAgg Try.prog 73 = some false := by kernel_rfl
@[simp] theorem tySize_73 : tySize Try.prog 73 = some 1 := by kernel_rfl
@[simp] theorem isSomeT_73 : Av.isSome Try.prog 73 = true := by kernel_rfl
@[simp] theorem isIfaceT_73 : isIface Try.prog 73 = false := by kernel_rfl
@[simp] theorem isStrT_73 : isStr Try.prog 73 = false := by kernel_rfl
@[simp] theorem zeroC_73 : zeroC Try.prog 73 = some [.sc .nilFunc] := by kernel_rfl
@[simp] theorem isPtrT_73 : isPtr Try.prog 73 = false := by kernel_rfl
@[simp] theorem isBytesT_73 : isBytes Try.prog 73 = false := by kernel_rfl
@[simp] theorem intOfT_73 : Av.intOf Try.prog 73 = none := by kernel_rfl
@[simp] theorem tyAgg_74 : tyAgg Try.prog 74 = some false := by kernel_rfl
@[simp] theorem tySize_74 : tySize Try.prog 74 = some 1 := by kernel_rfl
@[simp] theorem isSomeT_74 : Av.isSome Try.prog 74 = true := by kernel_rfl
@[simp] theorem isIfaceT_74 : isIface Try.prog 74 = false := by kernel_rfl
@[simp] theorem isStrT_74 : isStr Try.prog 74 = false := by kernel_rfl
@[simp] theorem zeroC_74 : zeroC Try.prog 74 = some [.sc .nilFunc] := by kernel_rfl
@[simp] theorem isPtrT_74 : isPtr Try.prog 74 = false := by kernel_rfl
@[simp] theorem isBytesT_74 : isBytes Try.prog 74 = false := by kernel_rfl
@[simp] theorem intOfT_74 : Av.intOf Try.prog 74 = none := by kernel_rfl
@[simp] theorem tyAgg_75 : tyAgg Try.prog 75 = some true := by kernel_rfl
@[simp] theorem tySize_75 : tySize Try.prog 75 = some 4 := by kernel_rfl
@[simp] theorem isSomeT_75 : Av.isSome Try.prog 75 = true := by kernel_rfl
@[simp] theorem isIfaceT_75 : isIface Try.prog 75 = false := by kernel_rfl
@[simp] theorem isStrT_75 : isStr Try.prog 75 = false := by kernel_rfl
@[simp] theorem zeroC_75 : zeroC Try.prog 75 = some [.sc (.pointer none), .sc (.pointer none), .sc (.pointer none), .str []] := by kernel_rfl
@[simp] theorem fieldsOk_75 : fieldsOk Try.prog 75 = true := by kernel_rfl
@[simp] theorem isPtrT_75 : isPtr Try.prog 75 = false := by kernel_rfl
@[simp] theorem placeP_75_0 : placeP Try.prog 75 0 = some (0, 1) := by kernel_rfl
@[simp] theorem placeP_75_1 : placeP Try.prog 75 1 = some (1, 1) := by kernel_rfl
@[simp] theorem placeP_75_2 : placeP Try.prog 75 2 = some (2, 1) := by kernel_rfl
@[simp] theorem placeP_75_3 : placeP Try.prog 75 3 = some (3, 1) := by kernel_rfl
@[simp] theorem fld_75_0 : fld Try.prog 75 0 = some (0, 1, false) := by kernel_rfl
@[simp] theorem fld_75_1 : fld Try.prog 75 1 = some (1, 1, false) := by kernel_rfl
@[simp] theorem fld_75_2 : fld Try.prog 75 2 = some (2, 1, false) := by kernel_rfl
@[simp] theorem fld_75_3 : fld Try.prog 75 3 = some (3, 1, false) := by kernel_rfl
@[simp] theorem isBytesT_75 : isBytes Try.prog 75 = false := by kernel_rfl
@[simp] theorem intOfT_75 : Av.intOf Try.prog 75 = none := by kernel_rfl
@[simp] theorem tyAgg_76 : tyAgg Try.prog 76 = some true := by kernel_rfl
@[simp] theorem tySize_76 : tySize Try.prog 76 = some 4 := by kernel_rfl
@[simp] theorem isSomeT_76 : Av.isSome Try.prog 76 = true := by kernel_rfl
@[simp] theorem isIfaceT_76 : isIface Try.prog 76 = false := by kernel_rfl
@[simp] theorem isStrT_76 : isStr Try.prog 76 = false := by kernel_rfl
@[simp] theorem zeroC_76 : zeroC Try.prog 76 = some [.sc (.pointer none), .sc (.pointer none), .sc (.pointer none), .str []] := by kernel_rfl
@[simp] theorem fieldsOk_76 : fieldsOk Try.prog 76 = true := by kernel_rfl
@[simp] theorem isPtrT_76 : isPtr Try.prog 76 = false := by kernel_rfl
@[simp] theorem placeP_76_0 : placeP Try.prog 76 0 = some (0, 1) := by kernel_rfl
@[simp] theorem placeP_76_1 : placeP Try.prog 76 1 = some (1, 1) := by kernel_rfl
@[simp] theorem placeP_76_2 : placeP Try.prog 76 2 = some (2, 1) := by kernel_rfl
@[simp] theorem placeP_76_3 : placeP Try.prog 76 3 = some (3, 1) := by kernel_rfl
@[simp] theorem fld_76_0 : fld Try.prog 76 0 = some (0, 1, false) := by kernel_rfl
@[simp] theorem fld_76_1 : fld Try.prog 76 1 = some (1, 1, false) := by kernel_rfl
@[simp] theorem fld_76_2 : fld Try.prog 76 2 = some (2, 1, false) := by kernel_rfl
@[simp] theorem fld_76_3 : fld Try.prog 76 3 = some (3, 1, false) := by kernel_rfl
@[simp] theorem isBytesT_76 : isBytes Try.prog 76 = false := by kernel_rfl
@[simp] theorem intOfT_76 : Av.intOf Try.prog 76 = none := by kernel_rfl
@[simp] theorem tyAgg_77 : tyAgg Try.prog 77 = some true := by kernel_rfl
@[simp] theorem tySize_77 : tySize Try.prog 77 = some 0 := by kernel_rfl
@[simp] theorem isSomeT_77 : Av.isSome Try.prog 77 = true := by kernel_rfl
@[simp] theorem isIfaceT_77 : isIface Try.prog 77 = false := by kernel_rfl
@[simp] theorem isStrT_77 : isStr Try.prog 77 = false := by kernel_rfl
@[simp] theorem zeroC_77 : zeroC Try.prog 77 = some [] := by kernel_rfl
@[simp] theorem fieldsOk_77 : fieldsOk Try.prog 77 = true := by kernel_rfl
@[simp] theorem isPtrT_77 : isPtr Try.prog 77 = false := by kernel_rfl
@[simp] theorem isBytesT_77 : isBytes Try.prog 77 = false := by kernel_rfl
@[simp] theorem intOfT_77 : Av.intOf Try.prog 77 = none := by kernel_rfl
@[simp] theorem tyAgg_78 : tyAgg Try.prog 78 = some true := by kernel_rfl
@[simp] theorem tySize_78 : tySize Try.prog 78 = some 0 := by kernel_rfl
@[simp] theorem isSomeT_78 : Av.isSome Try.prog 78 = true := by kernel_rfl
@[simp] theorem isIfaceT_78 : isIface Try.prog 78 = false := by kernel_rfl
@[simp] theorem isStrT_78 : isStr Try.prog 78 = false := by kernel_rfl
@[simp] theorem zeroC_78 : zeroC Try.prog 78 = some [] := by kernel_rfl
@[simp] theorem fieldsOk_78 : fieldsOk Try.prog 78 = true := by kernel_rfl
@[simp] theorem isPtrT_78 : isPtr Try.prog 78 = false := by kernel_rfl
@[simp] theorem placeP_78_0 : placeP Try.prog 78 0 = some (0, 0) := by kernel_rfl
@[simp] theorem fld_78_0 : fld Try.prog 78 0 = some (0, 0, true) := by kernel_rfl
@[simp] theorem isBytesT_78 : isBytes Try.prog 78 = false := by kernel_rfl
@[simp] theorem intOfT_78 : Av.intOf Try.prog 78 = none := by kernel_rfl
@[simp] theorem tyAgg_79 : tyAgg Try.prog 79 = some true := by kernel_rfl
@[simp] theorem tySize_79 : tySize Try.prog 79 = some 0 := by kernel_rfl
@[simp] theorem isSomeT_79 : Av.isSome Try.prog 79 = true := by kernel_rfl
@[simp] theorem isIfaceT_79 : isIface Try.prog 79 = false := by kernel_rfl
@[simp] theorem isStrT_79 : isStr Try.prog 79 = false := by kernel_rfl
@[simp] theorem zeroC_79 : zeroC Try.prog 79 = some [] := by kernel_rfl
@[simp] theorem fieldsOk_79 : fieldsOk Try.prog 79 = true := by kernel_rfl
@[simp] theorem isPtrT_79 : isPtr Try.prog 79 = false := by kernel_rfl
@[simp] theorem placeP_79_0 : placeP Try.prog 79 0 = some (0, 0) := by kernel_rfl
@[simp] theorem fld_79_0 : fld Try.prog 79 0 = some (0, 0, true) := by kernel_rfl
@[simp] theorem isBytesT_79 : isBytes Try.prog 79 = false := by kernel_rfl
@[simp] theorem intOfT_79 : Av.intOf Try.prog 79 = none := by kernel_rfl
@[simp] theorem tyAgg_80 : tyAgg Try.prog 80 = some false := by kernel_rfl
@[simp] theorem tySize_80 : tySize Try.prog 80 = some 1 := by kernel_rfl
@[simp] theorem isSomeT_80 : Av.isSome Try.prog 80 = true := by kernel_rfl
@[simp] theorem isIfaceT_80 : isIface Try.prog 80 = false := by kernel_rfl
@[simp] theorem isStrT_80 : isStr Try.prog 80 = false := by kernel_rfl
@[simp] theorem zeroC_80 : zeroC Try.prog 80 = some [.sc (.int .u32 0)] := by kernel_rfl
@[simp] theorem isPtrT_80 : isPtr Try.prog 80 = false := by kernel_rfl
@[simp] theorem isBytesT_80 : isBytes Try.prog 80 = false := by kernel_rfl
@[simp] theorem intOfT_80 : Av.intOf Try.prog 80 = some .u32 := by kernel_rfl
@[simp] theorem tyAgg_81 : tyAgg Try.prog 81 = some false := by kernel_rfl
@[simp] theorem tySize_81 : tySize Try.prog 81 = some 1 := by kernel_rfl
@[simp] theorem isSomeT_81 : Av.isSome Try.prog 81 = true := by kernel_rfl
@[simp] theorem isIfaceT_81 : isIface Try.prog 81 = false := by kernel_rfl
@[simp] theorem isStrT_81 : isStr Try.prog 81 = false := by kernel_rfl
@[simp] theorem zeroC_81 : zeroC Try.prog 81 = some [.sc (.int .u8 0)] := by kernel_rfl
@[simp] theorem isPtrT_81 : isPtr Try.prog 81 = false := by kernel_rfl
@[simp] theorem isBytesT_81 : isBytes Try.prog 81 = false := by kernel_rfl
@[simp] theorem intOfT_81 : Av.intOf Try.prog 81 = some .u8 := by kernel_rfl
@[simp] theorem tyAgg_82 : tyAgg Try.prog 82 = some false := by kernel_rfl
@[simp] theorem tySize_82 : tySize Try.prog 82 = some 1 := by kernel_rfl
@[simp] theorem isSomeT_82 : Av.isSome Try.prog 82 = true := by kernel_rfl
@[simp] theorem isIfaceT_82 : isIface Try.prog 82 = false := by kernel_rfl
@[simp] theorem isStrT_82 : isStr Try.prog 82 = false := by kernel_rfl
@[simp] theorem zeroC_82 : zeroC Try.prog 82 = some [.sc (.int .u8 0)] := by kernel_rfl
@[simp] theorem isPtrT_82 : isPtr Try.prog 82 = false := by kernel_rfl
@[simp] theorem isBytesT_82 : isBytes Try.prog 82 = false := by kernel_rfl
@[simp] theorem intOfT_82 : Av.intOf Try.prog 82 = some .u8 := by kernel_rfl
@[simp] theorem tyAgg_83 : tyAgg Try.prog 83 = some false := by kernel_rfl
@[simp] theorem tySize_83 : tySize Try.prog 83 = some 1 := by kernel_rfl
@[simp] theorem isSomeT_83 : Av.isSome Try.prog 83 = true := by kernel_rfl
@[simp] theorem isIfaceT_83 : isIface Try.prog 83 = false := by kernel_rfl
@[simp] theorem isStrT_83 : isStr Try.prog 83 = false := by kernel_rfl
@[simp] theorem zeroC_83 : zeroC Try.prog 83 = some [.sc .nilFunc] := by kernel_rfl
@[simp] theorem isPtrT_83 : isPtr Try.prog 83 = false := by kernel_rfl
@[simp] theorem isBytesT_83 : isBytes Try.prog 83 = false := by kernel_rfl
@[simp] theorem intOfT_83 : Av.intOf Try.prog 83 = none := by kernel_rfl
@[simp] theorem tyAgg_84 : tyAgg Try.prog 84 = some false := by kernel_rfl
@[simp] theorem tySize_84 : tySize Try.prog 84 = some 1 := by kernel_rfl
@[simp] theorem isSomeT_84 : Av.isSome Try.prog 84 = true := by kernel_rfl
@[simp] theorem isIfaceT_84 : isIface Try.prog 84 = false := by kernel_rfl
@[simp] theorem isStrT_84 : isStr Try.prog 84 = false := by kernel_rfl
@[simp] theorem zeroC_84 : zeroC Try.prog 84 = some [.sc (.pointer none)] := by kernel_rfl
@[simp] theorem isPtrT_84 : isPtr Try.prog 84 = true := by kernel_rfl
@[simp] theorem isBytesT_84 : isBytes Try.prog 84 = false := by kernel_rfl
@[simp] theorem intOfT_84 : Av.intOf Try.prog 84 = none := by kernel_rfl
@[simp] theorem tyAgg_85 : tyAgg Try.prog 85 = some false := by kernel_rfl
@[simp] theorem tySize_85 : tySize Try.prog 85 = some 1 := by kernel_rfl
@[simp] theorem isSomeT_85 : Av.isSome Try.prog 85 = true := by kernel_rfl
@[simp] theorem isIfaceT_85 : isIface Try.prog 85 = false := by kernel_rfl
@[simp] theorem isStrT_85 : isStr Try.prog 85 = false := by kernel_rfl
@[simp] theorem zeroC_85 : zeroC Try.prog 85 = some [.sc (.int .i32 0)] := by kernel_rfl
@[simp] theorem isPtrT_85 : isPtr Try.prog 85 = false := by kernel_rfl
@[simp] theorem isBytesT_85 : isBytes Try.prog 85 = false := by kernel_rfl
@[simp] theorem intOfT_85 : Av.intOf Try.prog 85 = some .i32 := by kernel_rfl
@[simp] theorem tyAgg_86 : tyAgg Try.prog 86 = some false := by kernel_rfl
@[simp] theorem tySize_86 : tySize Try.prog 86 = some 1 := by kernel_rfl
@[simp] theorem isSomeT_86 : Av.isSome Try.prog 86 = true := by kernel_rfl
@[simp] theorem isIfaceT_86 : isIface Try.prog 86 = false := by kernel_rfl
@[simp] theorem isStrT_86 : isStr Try.prog 86 = false := by kernel_rfl
@[simp] theorem zeroC_86 : zeroC Try.prog 86 = some [.sc (.int .i32 0)] := by kernel_rfl
@[simp] theorem isPtrT_86 : isPtr Try.prog 86 = false := by kernel_rfl
@[simp] theorem isBytesT_86 : isBytes Try.prog 86 = false := by kernel_rfl
@[simp] theorem intOfT_86 : Av.intOf Try.prog 86 = some .i32 := by kernel_rfl
@[simp] theorem tyAgg_87 : tyAgg Try.prog 87 = some true := by kernel_rfl
@[simp] theorem tySize_87 : tySize Try.prog 87 = some 11 := by kernel_rfl
@[simp] theorem isSomeT_87 : Av.isSome Try.prog 87 = true := by kernel_rfl
@[simp] theorem isIfaceT_87 : isIface Try.prog 87 = false := by kernel_rfl
@[simp] theorem isStrT_87 : isStr Try.prog 87 = false := by kernel_rfl
@[simp] theorem zeroC_87 : zeroC Try.prog 87 = some [.sc (.int .u64 0), .sc (.int .u64 0), .sc (.int .u32 0), .sc (.int .u8 0), .sc (.int .u8 0), .sc (.int .u8 0), .sc (.int .u8 0), .sc .nilFunc, .sc (.pointer none), .sc (.int .i32 0), .sc (.int .i32 0)] := by kernel_rfl
@[simp] theorem fieldsOk_87 : fieldsOk Try.prog 87 = true := by kernel_rfl
@[simp] theorem isPtrT_87 : isPtr Try.prog 87 = false := by kernel_rfl
@[simp] theorem placeP_87_0 : placeP Try.prog 87 0 = some (0, 1) := by kernel_rfl
@[simp] theorem placeP_87_1 : placeP Try.prog 87 1 = some (1, 1) := by kernel_rfl
@[simp] theorem placeP_87_2 : placeP Try.prog 87 2 = some (2, 1) := by kernel_rfl
@[simp] theorem placeP_87_3 : placeP Try.prog 87 3 = some (3, 1) := by kernel_rfl
@[simp] theorem placeP_87_4 : placeP Try.prog 87 4 = some (4, 1) := by kernel_rfl
@[simp] theorem placeP_87_5 : placeP Try.prog 87 5 = some (5, 1) := by kernel_rfl
@[simp] theorem placeP_87_6 : placeP Try.prog 87 6 = some (6, 1) := by kernel_rfl
@[simp] theorem placeP_87_7 : placeP Try.prog 87 7 = some (7, 1) := by kernel_rfl
@[simp] theorem placeP_87_8 : placeP Try.prog 87 8 = some (8, 1) := by kernel_rfl
@[simp] theorem placeP_87_9 : placeP Try.prog 87 9 = some (9, 1) := by kernel_rfl
@[simp] theorem placeP_87_10 : placeP Try.prog 87 10 = some (10, 1) := by kernel_rfl
@[simp] theorem fld_87_0 : fld Try.prog 87 0 = some (0, 1, false) := by kernel_rfl
@[simp] theorem fld_87_1 : fld Try.prog 87 1 = some (1, 1, false) := by kernel_rfl
@[simp] theorem fld_87_2 : fld Try.prog 87 2 = some (2, 1, false) := by kernel_rfl
@[simp] theorem fld_87_3 : fld Try.prog 87 3 = some (3, 1, false) := by kernel_rfl
@[simp] theorem fld_87_4 : fld Try.prog 87 4 = some (4, 1, false) := by kernel_rfl
@[simp] theorem fld_87_5 : fld Try.prog 87 5 = some (5, 1, false) := by kernel_rfl
@[simp] theorem fld_87_6 : fld Try.prog 87 6 = some (6, 1, false) := by kernel_rfl
@[simp] theorem fld_87_7 : fld Try.prog 87 7 = some (7, 1, false) := by kernel_rfl
@[simp] theorem fld_87_8 : fld Try.prog 87 8 = some (8, 1, false) := by kernel_rfl
@[simp] theorem fld_87_9 : fld Try.prog 87 9 = some (9, 1, false) := by kernel_rfl
@[simp] theorem fld_87_10 : fld Try.prog 87 10 = some (10, 1, false) := by kernel_rfl
@[simp] theorem isBytesT_87 : isBytes Try.prog 87 = false := by kernel_rfl
@[simp] theorem intOfT_87 : Av.intOf Try.prog 87 = none := by kernel_rfl
@[simp] theorem tyAgg_88 : tyAgg Try.prog 88 = some true := by kernel_rfl
@[simp] theorem tySize_88 : tySize Try.prog 88 = some 11 := by kernel_rfl
@[simp] theorem isSomeT_88 : Av.isSome Try.prog 88 = true := by kernel_rfl
@[simp] theorem isIfaceT_88 : isIface Try.prog 88 = false := by kernel_rfl
@[simp] theorem isStrT_88 : isStr Try.prog 88 = false := by kernel_rfl
@[simp] theorem zeroC_88 : zeroC Try.prog 88 = some [.sc (.int .u64 0), .sc (.int .u64 0), .sc (.int .u32 0), .sc (.int .u8 0), .sc (.int .u8 0), .sc (.int .u8 0), .sc (.int .u8 0), .sc .nilFunc, .sc (.pointer none), .sc (.int .i32 0), .sc (.int .i32 0)] := by kernel_rfl
@[simp] theorem fieldsOk_88 : fieldsOk Try.prog 88 = true := by kernel_rfl
@[simp] theorem isPtrT_88 : isPtr Try.prog 88 = false := by kernel_rfl
@[simp] theorem placeP_88_0 : placeP Try.prog 88 0 = some (0, 1) := by kernel_rfl
@[simp] theorem placeP_88_1 : placeP Try.prog 88 1 = some (1, 1) := by kernel_rfl
@[simp] theorem placeP_88_2 : placeP Try.prog 88 2 = some (2, 1) := by kernel_rfl
@[simp] theorem placeP_88_3 : placeP Try.prog 88 3 = some (3, 1) := by kernel_rfl
@[simp] theorem placeP_88_4 : placeP Try.prog 88 4 = some (4, 1) := by kernel_rfl
@[simp] theorem placeP_88_5 : placeP Try.prog 88 5 = some (5, 1) := by kernel_rfl
@[simp] theorem placeP_88_6 : placeP Try.prog 88 6 = some (6, 1) := by kernel_rfl
@[simp] theorem placeP_88_7 : placeP Try.prog 88 7 = some (7, 1) := by kernel_rfl
@[simp] theorem placeP_88_8 : placeP Try.prog 88 8 = some (8, 1) := by kernel_rfl
@[simp] theorem placeP_88_9 : placeP Try.prog 88 9 = some (9, 1) := by kernel_rfl
@[simp] theorem placeP_88_10 : placeP Try.prog 88 10 = some (10, 1) := by kernel_rfl
@[simp] theorem fld_88_0 : fld Try.prog 88 0 = some (0, 1, false) := by kernel_rfl
@[simp] theorem fld_88_1 : fld Try.prog 88 1 = some (1, 1, false) := by kernel_rfl
@[simp] theorem fld_88_2 : fld Try.prog 88 2 = some (2, 1, false) := by kernel_rfl
@[simp] theorem fld_88_3 : fld Try.prog 88 3 = some (3, 1, false) := by kernel_rfl
@[simp] theorem fld_88_4 : fld Try.prog 88 4 = some (4, 1, false) := by kernel_rfl
@[simp] theorem fld_88_5 : fld Try.prog 88 5 = some (5, 1, false) := by kernel_rfl
@[simp] theorem fld_88_6 : fld Try.prog 88 6 = some (6, 1, false) := by kernel_rfl
@[simp] theorem fld_88_7 : fld Try.prog 88 7 = some (7, 1, false) := by kernel_rfl
@[simp] theorem fld_88_8 : fld Try.prog 88 8 = some (8, 1, false) := by kernel_rfl
@[simp] theorem fld_88_9 : fld Try.prog 88 9 = some (9, 1, false) := by kernel_rfl
@[simp] theorem fld_88_10 : fld Try.prog 88 10 = some (10, 1, false) := by kernel_rfl
@[simp] theorem isBytesT_88 : isBytes Try.prog 88 = false := by kernel_rfl
@[simp] theorem intOfT_88 : Av.intOf Try.prog 88 = none := by kernel_rfl
@[simp] theorem tyAgg_89 : tyAgg Try.prog 89 = some false := by kernel_rfl
@[simp] theorem tySize_89 : tySize Try.prog 89 = some 1 := by kernel_rfl
@[simp] theorem isSomeT_89 : Av.isSome Try.prog 89 = true := by kernel_rfl
@[simp] theorem isIfaceT_89 : isIface Try.prog 89 = false := by kernel_rfl
@[simp] theorem isStrT_89 : isStr Try.prog 89 = false := by kernel_rfl
@[simp] theorem isPtrT_89 : isPtr Try.prog 89 = false := by kernel_rfl
@[simp] theorem isBytesT_89 : isBytes Try.prog 89 = false := by kernel_rfl
@[simp] theorem intOfT_89 : Av.intOf Try.prog 89 = none := by kernel_rfl
end Go.Av
