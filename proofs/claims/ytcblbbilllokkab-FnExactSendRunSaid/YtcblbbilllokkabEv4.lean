/- Lemmas of an evaluator of the given code and of what the functions answer; no condition of its own. -/
import Derived.Test.YtcblbbilllokkabEv3
import Derived.Test.YtcblbbilllokkabProg
import Derived.KernelRfl
/- Facts of the translation, for the evaluator: written by a program of this session (facts.py). -/
namespace Go.Ev
open Go Go.Proofs
set_option linter.unusedVariables false
@[simp] theorem tyS1 : sizeT Try.prog 1 = some 1 := by kernel_rfl
@[simp] theorem tyB1 : bytesT Try.prog 1 = some 8 := by kernel_rfl
@[simp] theorem tyA1 : aggT Try.prog 1 = some false := by kernel_rfl
@[simp] theorem tyZ1 : zeroT Try.prog 1 = some [.nilFunc] := by kernel_rfl
@[simp] theorem tyV1 : zeroV Try.prog 1 = some (.nilFunc) := by kernel_rfl
@[simp] theorem tyP1 : placesT Try.prog 1 = none := by kernel_rfl
@[simp] theorem tyU2 : Try.prog.underlying 2 = some (.int .i64) := by kernel_rfl
@[simp] theorem tyS2 : sizeT Try.prog 2 = some 1 := by kernel_rfl
@[simp] theorem tyB2 : bytesT Try.prog 2 = some 8 := by kernel_rfl
@[simp] theorem tyA2 : aggT Try.prog 2 = some false := by kernel_rfl
@[simp] theorem tyZ2 : zeroT Try.prog 2 = some [.int .i64 0] := by kernel_rfl
@[simp] theorem tyV2 : zeroV Try.prog 2 = some (.int .i64 0) := by kernel_rfl
@[simp] theorem tyP2 : placesT Try.prog 2 = none := by kernel_rfl
@[simp] theorem tyU3 : Try.prog.underlying 3 = some (.int .i64) := by kernel_rfl
@[simp] theorem tyS3 : sizeT Try.prog 3 = some 1 := by kernel_rfl
@[simp] theorem tyB3 : bytesT Try.prog 3 = some 8 := by kernel_rfl
@[simp] theorem tyA3 : aggT Try.prog 3 = some false := by kernel_rfl
@[simp] theorem tyZ3 : zeroT Try.prog 3 = some [.int .i64 0] := by kernel_rfl
@[simp] theorem tyV3 : zeroV Try.prog 3 = some (.int .i64 0) := by kernel_rfl
@[simp] theorem tyP3 : placesT Try.prog 3 = none := by kernel_rfl
@[simp] theorem tyU4 : Try.prog.underlying 4 = some (.bool) := by kernel_rfl
@[simp] theorem tyS4 : sizeT Try.prog 4 = some 1 := by kernel_rfl
@[simp] theorem tyB4 : bytesT Try.prog 4 = some 1 := by kernel_rfl
@[simp] theorem tyA4 : aggT Try.prog 4 = some false := by kernel_rfl
@[simp] theorem tyZ4 : zeroT Try.prog 4 = some [.bool false] := by kernel_rfl
@[simp] theorem tyV4 : zeroV Try.prog 4 = some (.bool false) := by kernel_rfl
@[simp] theorem tyP4 : placesT Try.prog 4 = none := by kernel_rfl
@[simp] theorem tyU5 : Try.prog.underlying 5 = some (.int .u8) := by kernel_rfl
@[simp] theorem tyS5 : sizeT Try.prog 5 = some 1 := by kernel_rfl
@[simp] theorem tyB5 : bytesT Try.prog 5 = some 1 := by kernel_rfl
@[simp] theorem tyA5 : aggT Try.prog 5 = some false := by kernel_rfl
@[simp] theorem tyZ5 : zeroT Try.prog 5 = some [.int .u8 0] := by kernel_rfl
@[simp] theorem tyV5 : zeroV Try.prog 5 = some (.int .u8 0) := by kernel_rfl
@[simp] theorem tyP5 : placesT Try.prog 5 = none := by kernel_rfl
@[simp] theorem tyU6 : Try.prog.underlying 6 = some (.int .u8) := by kernel_rfl
@[simp] theorem tyS6 : sizeT Try.prog 6 = some 1 := by kernel_rfl
@[simp] theorem tyB6 : bytesT Try.prog 6 = some 1 := by kernel_rfl
@[simp] theorem tyA6 : aggT Try.prog 6 = some false := by kernel_rfl
@[simp] theorem tyZ6 : zeroT Try.prog 6 = some [.int .u8 0] := by kernel_rfl
@[simp] theorem tyV6 : zeroV Try.prog 6 = some (.int .u8 0) := by kernel_rfl
@[simp] theorem tyP6 : placesT Try.prog 6 = none := by kernel_rfl
@[simp] theorem tyS7 : sizeT Try.prog 7 = some 4 := by kernel_rfl
@[simp] theorem tyB7 : bytesT Try.prog 7 = some 24 := by kernel_rfl
@[simp] theorem tyA7 : aggT Try.prog 7 = some true := by kernel_rfl
@[simp] theorem tyZ7 : zeroT Try.prog 7 = some [.int .i64 0, .int .i64 0, .bool false, .int .u8 0] := by kernel_rfl
@[simp] theorem tyV7 : zeroV Try.prog 7 = some (.agg [.int .i64 0, .int .i64 0, .bool false, .int .u8 0]) := by kernel_rfl
@[simp] theorem tyP7 : placesT Try.prog 7 = some [(0, 1), (1, 1), (2, 1), (3, 1)] := by kernel_rfl
@[simp] theorem tyF7_0 : fieldT Try.prog 7 0 = some (0, 2) := by kernel_rfl
@[simp] theorem tyF7_1 : fieldT Try.prog 7 1 = some (1, 3) := by kernel_rfl
@[simp] theorem tyF7_2 : fieldT Try.prog 7 2 = some (2, 4) := by kernel_rfl
@[simp] theorem tyF7_3 : fieldT Try.prog 7 3 = some (3, 6) := by kernel_rfl
@[simp] theorem tyS8 : sizeT Try.prog 8 = some 4 := by kernel_rfl
@[simp] theorem tyB8 : bytesT Try.prog 8 = some 24 := by kernel_rfl
@[simp] theorem tyA8 : aggT Try.prog 8 = some true := by kernel_rfl
@[simp] theorem tyZ8 : zeroT Try.prog 8 = some [.int .i64 0, .int .i64 0, .bool false, .int .u8 0] := by kernel_rfl
@[simp] theorem tyV8 : zeroV Try.prog 8 = some (.agg [.int .i64 0, .int .i64 0, .bool false, .int .u8 0]) := by kernel_rfl
@[simp] theorem tyP8 : placesT Try.prog 8 = some [(0, 1), (1, 1), (2, 1), (3, 1)] := by kernel_rfl
@[simp] theorem tyF8_0 : fieldT Try.prog 8 0 = some (0, 2) := by kernel_rfl
@[simp] theorem tyF8_1 : fieldT Try.prog 8 1 = some (1, 3) := by kernel_rfl
@[simp] theorem tyF8_2 : fieldT Try.prog 8 2 = some (2, 4) := by kernel_rfl
@[simp] theorem tyF8_3 : fieldT Try.prog 8 3 = some (3, 6) := by kernel_rfl
@[simp] theorem tyU9 : Try.prog.underlying 9 = some (.string) := by kernel_rfl
@[simp] theorem tyS9 : sizeT Try.prog 9 = some 1 := by kernel_rfl
@[simp] theorem tyB9 : bytesT Try.prog 9 = some 16 := by kernel_rfl
@[simp] theorem tyA9 : aggT Try.prog 9 = some false := by kernel_rfl
@[simp] theorem tyZ9 : zeroT Try.prog 9 = some [.str ByteArray.empty] := by kernel_rfl
@[simp] theorem tyV9 : zeroV Try.prog 9 = some (.str ByteArray.empty) := by kernel_rfl
@[simp] theorem tyP9 : placesT Try.prog 9 = none := by kernel_rfl
@[simp] theorem tyU10 : Try.prog.underlying 10 = some (.string) := by kernel_rfl
@[simp] theorem tyS10 : sizeT Try.prog 10 = some 1 := by kernel_rfl
@[simp] theorem tyB10 : bytesT Try.prog 10 = some 16 := by kernel_rfl
@[simp] theorem tyA10 : aggT Try.prog 10 = some false := by kernel_rfl
@[simp] theorem tyZ10 : zeroT Try.prog 10 = some [.str ByteArray.empty] := by kernel_rfl
@[simp] theorem tyV10 : zeroV Try.prog 10 = some (.str ByteArray.empty) := by kernel_rfl
@[simp] theorem tyP10 : placesT Try.prog 10 = none := by kernel_rfl
@[simp] theorem tyU11 : Try.prog.underlying 11 = some (.string) := by kernel_rfl
@[simp] theorem tyS11 : sizeT Try.prog 11 = some 1 := by kernel_rfl
@[simp] theorem tyB11 : bytesT Try.prog 11 = some 16 := by kernel_rfl
@[simp] theorem tyA11 : aggT Try.prog 11 = some false := by kernel_rfl
@[simp] theorem tyZ11 : zeroT Try.prog 11 = some [.str ByteArray.empty] := by kernel_rfl
@[simp] theorem tyV11 : zeroV Try.prog 11 = some (.str ByteArray.empty) := by kernel_rfl
@[simp] theorem tyP11 : placesT Try.prog 11 = none := by kernel_rfl
@[simp] theorem tyU12 : Try.prog.underlying 12 = some (.int .u64) := by kernel_rfl
@[simp] theorem tyS12 : sizeT Try.prog 12 = some 1 := by kernel_rfl
@[simp] theorem tyB12 : bytesT Try.prog 12 = some 8 := by kernel_rfl
@[simp] theorem tyA12 : aggT Try.prog 12 = some false := by kernel_rfl
@[simp] theorem tyZ12 : zeroT Try.prog 12 = some [.int .u64 0] := by kernel_rfl
@[simp] theorem tyV12 : zeroV Try.prog 12 = some (.int .u64 0) := by kernel_rfl
@[simp] theorem tyP12 : placesT Try.prog 12 = none := by kernel_rfl
@[simp] theorem tyS13 : sizeT Try.prog 13 = some 2 := by kernel_rfl
@[simp] theorem tyB13 : bytesT Try.prog 13 = some 24 := by kernel_rfl
@[simp] theorem tyA13 : aggT Try.prog 13 = some true := by kernel_rfl
@[simp] theorem tyZ13 : zeroT Try.prog 13 = some [.str ByteArray.empty, .int .u64 0] := by kernel_rfl
@[simp] theorem tyV13 : zeroV Try.prog 13 = some (.agg [.str ByteArray.empty, .int .u64 0]) := by kernel_rfl
@[simp] theorem tyP13 : placesT Try.prog 13 = some [(0, 1), (1, 1)] := by kernel_rfl
@[simp] theorem tyF13_0 : fieldT Try.prog 13 0 = some (0, 9) := by kernel_rfl
@[simp] theorem tyF13_1 : fieldT Try.prog 13 1 = some (1, 12) := by kernel_rfl
@[simp] theorem tyS14 : sizeT Try.prog 14 = some 2 := by kernel_rfl
@[simp] theorem tyB14 : bytesT Try.prog 14 = some 24 := by kernel_rfl
@[simp] theorem tyA14 : aggT Try.prog 14 = some true := by kernel_rfl
@[simp] theorem tyZ14 : zeroT Try.prog 14 = some [.str ByteArray.empty, .int .u64 0] := by kernel_rfl
@[simp] theorem tyV14 : zeroV Try.prog 14 = some (.agg [.str ByteArray.empty, .int .u64 0]) := by kernel_rfl
@[simp] theorem tyP14 : placesT Try.prog 14 = some [(0, 1), (1, 1)] := by kernel_rfl
@[simp] theorem tyF14_0 : fieldT Try.prog 14 0 = some (0, 9) := by kernel_rfl
@[simp] theorem tyF14_1 : fieldT Try.prog 14 1 = some (1, 12) := by kernel_rfl
@[simp] theorem tyU15 : Try.prog.underlying 15 = some (.pointer 156) := by kernel_rfl
@[simp] theorem tyS15 : sizeT Try.prog 15 = some 1 := by kernel_rfl
@[simp] theorem tyB15 : bytesT Try.prog 15 = some 8 := by kernel_rfl
@[simp] theorem tyA15 : aggT Try.prog 15 = some false := by kernel_rfl
@[simp] theorem tyZ15 : zeroT Try.prog 15 = some [.nilPtr] := by kernel_rfl
@[simp] theorem tyV15 : zeroV Try.prog 15 = some (.nilPtr) := by kernel_rfl
@[simp] theorem tyP15 : placesT Try.prog 15 = none := by kernel_rfl
@[simp] theorem tyU17 : Try.prog.underlying 17 = some (.pointer 167) := by kernel_rfl
@[simp] theorem tyS17 : sizeT Try.prog 17 = some 1 := by kernel_rfl
@[simp] theorem tyB17 : bytesT Try.prog 17 = some 8 := by kernel_rfl
@[simp] theorem tyA17 : aggT Try.prog 17 = some false := by kernel_rfl
@[simp] theorem tyZ17 : zeroT Try.prog 17 = some [.nilPtr] := by kernel_rfl
@[simp] theorem tyV17 : zeroV Try.prog 17 = some (.nilPtr) := by kernel_rfl
@[simp] theorem tyP17 : placesT Try.prog 17 = none := by kernel_rfl
@[simp] theorem tyU21 : Try.prog.underlying 21 = some (.int .i32) := by kernel_rfl
@[simp] theorem tyS21 : sizeT Try.prog 21 = some 1 := by kernel_rfl
@[simp] theorem tyB21 : bytesT Try.prog 21 = some 4 := by kernel_rfl
@[simp] theorem tyA21 : aggT Try.prog 21 = some false := by kernel_rfl
@[simp] theorem tyZ21 : zeroT Try.prog 21 = some [.int .i32 0] := by kernel_rfl
@[simp] theorem tyV21 : zeroV Try.prog 21 = some (.int .i32 0) := by kernel_rfl
@[simp] theorem tyP21 : placesT Try.prog 21 = none := by kernel_rfl
@[simp] theorem tyU22 : Try.prog.underlying 22 = some (.slice 70) := by kernel_rfl
@[simp] theorem tyS22 : sizeT Try.prog 22 = some 1 := by kernel_rfl
@[simp] theorem tyB22 : bytesT Try.prog 22 = some 24 := by kernel_rfl
@[simp] theorem tyA22 : aggT Try.prog 22 = some false := by kernel_rfl
@[simp] theorem tyZ22 : zeroT Try.prog 22 = some [.nilSlice] := by kernel_rfl
@[simp] theorem tyV22 : zeroV Try.prog 22 = some (.nilSlice) := by kernel_rfl
@[simp] theorem tyE22 : sliceT Try.prog 22 = some 70 := by kernel_rfl
@[simp] theorem tyP22 : placesT Try.prog 22 = none := by kernel_rfl
@[simp] theorem tyU24 : Try.prog.underlying 24 = some (.slice 75) := by kernel_rfl
@[simp] theorem tyS24 : sizeT Try.prog 24 = some 1 := by kernel_rfl
@[simp] theorem tyB24 : bytesT Try.prog 24 = some 24 := by kernel_rfl
@[simp] theorem tyA24 : aggT Try.prog 24 = some false := by kernel_rfl
@[simp] theorem tyZ24 : zeroT Try.prog 24 = some [.nilSlice] := by kernel_rfl
@[simp] theorem tyV24 : zeroV Try.prog 24 = some (.nilSlice) := by kernel_rfl
@[simp] theorem tyE24 : sliceT Try.prog 24 = some 75 := by kernel_rfl
@[simp] theorem tyP24 : placesT Try.prog 24 = none := by kernel_rfl
@[simp] theorem tyU27 : Try.prog.underlying 27 = some (.slice 77) := by kernel_rfl
@[simp] theorem tyS27 : sizeT Try.prog 27 = some 1 := by kernel_rfl
@[simp] theorem tyB27 : bytesT Try.prog 27 = some 24 := by kernel_rfl
@[simp] theorem tyA27 : aggT Try.prog 27 = some false := by kernel_rfl
@[simp] theorem tyZ27 : zeroT Try.prog 27 = some [.nilSlice] := by kernel_rfl
@[simp] theorem tyV27 : zeroV Try.prog 27 = some (.nilSlice) := by kernel_rfl
@[simp] theorem tyE27 : sliceT Try.prog 27 = some 77 := by kernel_rfl
@[simp] theorem tyP27 : placesT Try.prog 27 = none := by kernel_rfl
@[simp] theorem tyU34 : Try.prog.underlying 34 = some (.slice 5) := by kernel_rfl
@[simp] theorem tyS34 : sizeT Try.prog 34 = some 1 := by kernel_rfl
@[simp] theorem tyB34 : bytesT Try.prog 34 = some 24 := by kernel_rfl
@[simp] theorem tyA34 : aggT Try.prog 34 = some false := by kernel_rfl
@[simp] theorem tyZ34 : zeroT Try.prog 34 = some [.nilSlice] := by kernel_rfl
@[simp] theorem tyV34 : zeroV Try.prog 34 = some (.nilSlice) := by kernel_rfl
@[simp] theorem tyE34 : sliceT Try.prog 34 = some 5 := by kernel_rfl
@[simp] theorem tyP34 : placesT Try.prog 34 = none := by kernel_rfl
@[simp] theorem tyU35 : Try.prog.underlying 35 = some (.slice 42) := by kernel_rfl
@[simp] theorem tyS35 : sizeT Try.prog 35 = some 1 := by kernel_rfl
@[simp] theorem tyB35 : bytesT Try.prog 35 = some 24 := by kernel_rfl
@[simp] theorem tyA35 : aggT Try.prog 35 = some false := by kernel_rfl
@[simp] theorem tyZ35 : zeroT Try.prog 35 = some [.nilSlice] := by kernel_rfl
@[simp] theorem tyV35 : zeroV Try.prog 35 = some (.nilSlice) := by kernel_rfl
@[simp] theorem tyE35 : sliceT Try.prog 35 = some 42 := by kernel_rfl
@[simp] theorem tyP35 : placesT Try.prog 35 = none := by kernel_rfl
@[simp] theorem tyU36 : Try.prog.underlying 36 = some (.slice 4) := by kernel_rfl
@[simp] theorem tyS36 : sizeT Try.prog 36 = some 1 := by kernel_rfl
@[simp] theorem tyB36 : bytesT Try.prog 36 = some 24 := by kernel_rfl
@[simp] theorem tyA36 : aggT Try.prog 36 = some false := by kernel_rfl
@[simp] theorem tyZ36 : zeroT Try.prog 36 = some [.nilSlice] := by kernel_rfl
@[simp] theorem tyV36 : zeroV Try.prog 36 = some (.nilSlice) := by kernel_rfl
@[simp] theorem tyE36 : sliceT Try.prog 36 = some 4 := by kernel_rfl
@[simp] theorem tyP36 : placesT Try.prog 36 = none := by kernel_rfl
@[simp] theorem tyS41 : sizeT Try.prog 41 = some 2 := by kernel_rfl
@[simp] theorem tyB41 : bytesT Try.prog 41 = some 16 := by kernel_rfl
@[simp] theorem tyA41 : aggT Try.prog 41 = some true := by kernel_rfl
@[simp] theorem tyZ41 : zeroT Try.prog 41 = some [.int .i64 0, .int .i64 0] := by kernel_rfl
@[simp] theorem tyV41 : zeroV Try.prog 41 = some (.agg [.int .i64 0, .int .i64 0]) := by kernel_rfl
@[simp] theorem tyP41 : placesT Try.prog 41 = some [(0, 1), (1, 1)] := by kernel_rfl
@[simp] theorem tyF41_0 : fieldT Try.prog 41 0 = some (0, 3) := by kernel_rfl
@[simp] theorem tyF41_1 : fieldT Try.prog 41 1 = some (1, 3) := by kernel_rfl
@[simp] theorem tyS42 : sizeT Try.prog 42 = some 2 := by kernel_rfl
@[simp] theorem tyB42 : bytesT Try.prog 42 = some 16 := by kernel_rfl
@[simp] theorem tyA42 : aggT Try.prog 42 = some true := by kernel_rfl
@[simp] theorem tyZ42 : zeroT Try.prog 42 = some [.int .i64 0, .int .i64 0] := by kernel_rfl
@[simp] theorem tyV42 : zeroV Try.prog 42 = some (.agg [.int .i64 0, .int .i64 0]) := by kernel_rfl
@[simp] theorem tyP42 : placesT Try.prog 42 = some [(0, 1), (1, 1)] := by kernel_rfl
@[simp] theorem tyF42_0 : fieldT Try.prog 42 0 = some (0, 3) := by kernel_rfl
@[simp] theorem tyF42_1 : fieldT Try.prog 42 1 = some (1, 3) := by kernel_rfl
@[simp] theorem tyU43 : Try.prog.underlying 43 = some (.slice 3) := by kernel_rfl
@[simp] theorem tyS43 : sizeT Try.prog 43 = some 1 := by kernel_rfl
@[simp] theorem tyB43 : bytesT Try.prog 43 = some 24 := by kernel_rfl
@[simp] theorem tyA43 : aggT Try.prog 43 = some false := by kernel_rfl
@[simp] theorem tyZ43 : zeroT Try.prog 43 = some [.nilSlice] := by kernel_rfl
@[simp] theorem tyV43 : zeroV Try.prog 43 = some (.nilSlice) := by kernel_rfl
@[simp] theorem tyE43 : sliceT Try.prog 43 = some 3 := by kernel_rfl
@[simp] theorem tyP43 : placesT Try.prog 43 = none := by kernel_rfl
@[simp] theorem tyS46 : sizeT Try.prog 46 = some 8 := by kernel_rfl
@[simp] theorem tyB46 : bytesT Try.prog 46 = some 112 := by kernel_rfl
@[simp] theorem tyA46 : aggT Try.prog 46 = some true := by kernel_rfl
@[simp] theorem tyZ46 : zeroT Try.prog 46 = some [.int .i64 0, .int .i64 0, .int .i64 0, .int .i64 0, .bool false, .nilSlice, .nilSlice, .nilSlice] := by kernel_rfl
@[simp] theorem tyV46 : zeroV Try.prog 46 = some (.agg [.int .i64 0, .int .i64 0, .int .i64 0, .int .i64 0, .bool false, .nilSlice, .nilSlice, .nilSlice]) := by kernel_rfl
@[simp] theorem tyP46 : placesT Try.prog 46 = some [(0, 1), (1, 1), (2, 1), (3, 1), (4, 1), (5, 1), (6, 1), (7, 1)] := by kernel_rfl
@[simp] theorem tyF46_0 : fieldT Try.prog 46 0 = some (0, 3) := by kernel_rfl
@[simp] theorem tyF46_1 : fieldT Try.prog 46 1 = some (1, 3) := by kernel_rfl
@[simp] theorem tyF46_2 : fieldT Try.prog 46 2 = some (2, 3) := by kernel_rfl
@[simp] theorem tyF46_3 : fieldT Try.prog 46 3 = some (3, 3) := by kernel_rfl
@[simp] theorem tyF46_4 : fieldT Try.prog 46 4 = some (4, 4) := by kernel_rfl
@[simp] theorem tyF46_5 : fieldT Try.prog 46 5 = some (5, 34) := by kernel_rfl
@[simp] theorem tyF46_6 : fieldT Try.prog 46 6 = some (6, 34) := by kernel_rfl
@[simp] theorem tyF46_7 : fieldT Try.prog 46 7 = some (7, 35) := by kernel_rfl
@[simp] theorem tyS47 : sizeT Try.prog 47 = some 8 := by kernel_rfl
@[simp] theorem tyB47 : bytesT Try.prog 47 = some 112 := by kernel_rfl
@[simp] theorem tyA47 : aggT Try.prog 47 = some true := by kernel_rfl
@[simp] theorem tyZ47 : zeroT Try.prog 47 = some [.int .i64 0, .int .i64 0, .int .i64 0, .int .i64 0, .bool false, .nilSlice, .nilSlice, .nilSlice] := by kernel_rfl
@[simp] theorem tyV47 : zeroV Try.prog 47 = some (.agg [.int .i64 0, .int .i64 0, .int .i64 0, .int .i64 0, .bool false, .nilSlice, .nilSlice, .nilSlice]) := by kernel_rfl
@[simp] theorem tyP47 : placesT Try.prog 47 = some [(0, 1), (1, 1), (2, 1), (3, 1), (4, 1), (5, 1), (6, 1), (7, 1)] := by kernel_rfl
@[simp] theorem tyF47_0 : fieldT Try.prog 47 0 = some (0, 3) := by kernel_rfl
@[simp] theorem tyF47_1 : fieldT Try.prog 47 1 = some (1, 3) := by kernel_rfl
@[simp] theorem tyF47_2 : fieldT Try.prog 47 2 = some (2, 3) := by kernel_rfl
@[simp] theorem tyF47_3 : fieldT Try.prog 47 3 = some (3, 3) := by kernel_rfl
@[simp] theorem tyF47_4 : fieldT Try.prog 47 4 = some (4, 4) := by kernel_rfl
@[simp] theorem tyF47_5 : fieldT Try.prog 47 5 = some (5, 34) := by kernel_rfl
@[simp] theorem tyF47_6 : fieldT Try.prog 47 6 = some (6, 34) := by kernel_rfl
@[simp] theorem tyF47_7 : fieldT Try.prog 47 7 = some (7, 35) := by kernel_rfl
@[simp] theorem tyU58 : Try.prog.underlying 58 = some (.slice 67) := by kernel_rfl
@[simp] theorem tyS58 : sizeT Try.prog 58 = some 1 := by kernel_rfl
@[simp] theorem tyB58 : bytesT Try.prog 58 = some 24 := by kernel_rfl
@[simp] theorem tyA58 : aggT Try.prog 58 = some false := by kernel_rfl
@[simp] theorem tyZ58 : zeroT Try.prog 58 = some [.nilSlice] := by kernel_rfl
@[simp] theorem tyV58 : zeroV Try.prog 58 = some (.nilSlice) := by kernel_rfl
@[simp] theorem tyE58 : sliceT Try.prog 58 = some 67 := by kernel_rfl
@[simp] theorem tyP58 : placesT Try.prog 58 = none := by kernel_rfl
@[simp] theorem tyU61 : Try.prog.underlying 61 = some (.slice 65) := by kernel_rfl
@[simp] theorem tyS61 : sizeT Try.prog 61 = some 1 := by kernel_rfl
@[simp] theorem tyB61 : bytesT Try.prog 61 = some 24 := by kernel_rfl
@[simp] theorem tyA61 : aggT Try.prog 61 = some false := by kernel_rfl
@[simp] theorem tyZ61 : zeroT Try.prog 61 = some [.nilSlice] := by kernel_rfl
@[simp] theorem tyV61 : zeroV Try.prog 61 = some (.nilSlice) := by kernel_rfl
@[simp] theorem tyE61 : sliceT Try.prog 61 = some 65 := by kernel_rfl
@[simp] theorem tyP61 : placesT Try.prog 61 = none := by kernel_rfl
@[simp] theorem tyS64 : sizeT Try.prog 64 = some 6 := by kernel_rfl
@[simp] theorem tyB64 : bytesT Try.prog 64 = some 48 := by kernel_rfl
@[simp] theorem tyA64 : aggT Try.prog 64 = some true := by kernel_rfl
@[simp] theorem tyZ64 : zeroT Try.prog 64 = some [.int .i64 0, .int .i64 0, .int .i64 0, .int .i64 0, .int .i64 0, .bool false] := by kernel_rfl
@[simp] theorem tyV64 : zeroV Try.prog 64 = some (.agg [.int .i64 0, .int .i64 0, .int .i64 0, .int .i64 0, .int .i64 0, .bool false]) := by kernel_rfl
@[simp] theorem tyP64 : placesT Try.prog 64 = some [(0, 1), (1, 1), (2, 1), (3, 1), (4, 1), (5, 1)] := by kernel_rfl
@[simp] theorem tyF64_0 : fieldT Try.prog 64 0 = some (0, 3) := by kernel_rfl
@[simp] theorem tyF64_1 : fieldT Try.prog 64 1 = some (1, 3) := by kernel_rfl
@[simp] theorem tyF64_2 : fieldT Try.prog 64 2 = some (2, 3) := by kernel_rfl
@[simp] theorem tyF64_3 : fieldT Try.prog 64 3 = some (3, 3) := by kernel_rfl
@[simp] theorem tyF64_4 : fieldT Try.prog 64 4 = some (4, 3) := by kernel_rfl
@[simp] theorem tyF64_5 : fieldT Try.prog 64 5 = some (5, 4) := by kernel_rfl
@[simp] theorem tyS65 : sizeT Try.prog 65 = some 6 := by kernel_rfl
@[simp] theorem tyB65 : bytesT Try.prog 65 = some 48 := by kernel_rfl
@[simp] theorem tyA65 : aggT Try.prog 65 = some true := by kernel_rfl
@[simp] theorem tyZ65 : zeroT Try.prog 65 = some [.int .i64 0, .int .i64 0, .int .i64 0, .int .i64 0, .int .i64 0, .bool false] := by kernel_rfl
@[simp] theorem tyV65 : zeroV Try.prog 65 = some (.agg [.int .i64 0, .int .i64 0, .int .i64 0, .int .i64 0, .int .i64 0, .bool false]) := by kernel_rfl
@[simp] theorem tyP65 : placesT Try.prog 65 = some [(0, 1), (1, 1), (2, 1), (3, 1), (4, 1), (5, 1)] := by kernel_rfl
@[simp] theorem tyF65_0 : fieldT Try.prog 65 0 = some (0, 3) := by kernel_rfl
@[simp] theorem tyF65_1 : fieldT Try.prog 65 1 = some (1, 3) := by kernel_rfl
@[simp] theorem tyF65_2 : fieldT Try.prog 65 2 = some (2, 3) := by kernel_rfl
@[simp] theorem tyF65_3 : fieldT Try.prog 65 3 = some (3, 3) := by kernel_rfl
@[simp] theorem tyF65_4 : fieldT Try.prog 65 4 = some (4, 3) := by kernel_rfl
@[simp] theorem tyF65_5 : fieldT Try.prog 65 5 = some (5, 4) := by kernel_rfl
@[simp] theorem tyS66 : sizeT Try.prog 66 = some 5 := by kernel_rfl
@[simp] theorem tyB66 : bytesT Try.prog 66 = some 40 := by kernel_rfl
@[simp] theorem tyA66 : aggT Try.prog 66 = some true := by kernel_rfl
@[simp] theorem tyZ66 : zeroT Try.prog 66 = some [.int .i64 0, .int .i64 0, .int .i64 0, .int .i64 0, .int .i64 0] := by kernel_rfl
@[simp] theorem tyV66 : zeroV Try.prog 66 = some (.agg [.int .i64 0, .int .i64 0, .int .i64 0, .int .i64 0, .int .i64 0]) := by kernel_rfl
@[simp] theorem tyP66 : placesT Try.prog 66 = some [(0, 1), (1, 1), (2, 1), (3, 1), (4, 1)] := by kernel_rfl
@[simp] theorem tyF66_0 : fieldT Try.prog 66 0 = some (0, 3) := by kernel_rfl
@[simp] theorem tyF66_1 : fieldT Try.prog 66 1 = some (1, 3) := by kernel_rfl
@[simp] theorem tyF66_2 : fieldT Try.prog 66 2 = some (2, 3) := by kernel_rfl
@[simp] theorem tyF66_3 : fieldT Try.prog 66 3 = some (3, 3) := by kernel_rfl
@[simp] theorem tyF66_4 : fieldT Try.prog 66 4 = some (4, 3) := by kernel_rfl
@[simp] theorem tyS67 : sizeT Try.prog 67 = some 5 := by kernel_rfl
@[simp] theorem tyB67 : bytesT Try.prog 67 = some 40 := by kernel_rfl
@[simp] theorem tyA67 : aggT Try.prog 67 = some true := by kernel_rfl
@[simp] theorem tyZ67 : zeroT Try.prog 67 = some [.int .i64 0, .int .i64 0, .int .i64 0, .int .i64 0, .int .i64 0] := by kernel_rfl
@[simp] theorem tyV67 : zeroV Try.prog 67 = some (.agg [.int .i64 0, .int .i64 0, .int .i64 0, .int .i64 0, .int .i64 0]) := by kernel_rfl
@[simp] theorem tyP67 : placesT Try.prog 67 = some [(0, 1), (1, 1), (2, 1), (3, 1), (4, 1)] := by kernel_rfl
@[simp] theorem tyF67_0 : fieldT Try.prog 67 0 = some (0, 3) := by kernel_rfl
@[simp] theorem tyF67_1 : fieldT Try.prog 67 1 = some (1, 3) := by kernel_rfl
@[simp] theorem tyF67_2 : fieldT Try.prog 67 2 = some (2, 3) := by kernel_rfl
@[simp] theorem tyF67_3 : fieldT Try.prog 67 3 = some (3, 3) := by kernel_rfl
@[simp] theorem tyF67_4 : fieldT Try.prog 67 4 = some (4, 3) := by kernel_rfl
@[simp] theorem tyS69 : sizeT Try.prog 69 = some 5 := by kernel_rfl
@[simp] theorem tyB69 : bytesT Try.prog 69 = some 56 := by kernel_rfl
@[simp] theorem tyA69 : aggT Try.prog 69 = some true := by kernel_rfl
@[simp] theorem tyZ69 : zeroT Try.prog 69 = some [.int .i64 0, .int .i64 0, .int .i64 0, .nilSlice, .bool false] := by kernel_rfl
@[simp] theorem tyV69 : zeroV Try.prog 69 = some (.agg [.int .i64 0, .int .i64 0, .int .i64 0, .nilSlice, .bool false]) := by kernel_rfl
@[simp] theorem tyP69 : placesT Try.prog 69 = some [(0, 1), (1, 1), (2, 1), (3, 1), (4, 1)] := by kernel_rfl
@[simp] theorem tyF69_0 : fieldT Try.prog 69 0 = some (0, 3) := by kernel_rfl
@[simp] theorem tyF69_1 : fieldT Try.prog 69 1 = some (1, 3) := by kernel_rfl
@[simp] theorem tyF69_2 : fieldT Try.prog 69 2 = some (2, 3) := by kernel_rfl
@[simp] theorem tyF69_3 : fieldT Try.prog 69 3 = some (3, 34) := by kernel_rfl
@[simp] theorem tyF69_4 : fieldT Try.prog 69 4 = some (4, 4) := by kernel_rfl
@[simp] theorem tyS70 : sizeT Try.prog 70 = some 5 := by kernel_rfl
@[simp] theorem tyB70 : bytesT Try.prog 70 = some 56 := by kernel_rfl
@[simp] theorem tyA70 : aggT Try.prog 70 = some true := by kernel_rfl
@[simp] theorem tyZ70 : zeroT Try.prog 70 = some [.int .i64 0, .int .i64 0, .int .i64 0, .nilSlice, .bool false] := by kernel_rfl
@[simp] theorem tyV70 : zeroV Try.prog 70 = some (.agg [.int .i64 0, .int .i64 0, .int .i64 0, .nilSlice, .bool false]) := by kernel_rfl
@[simp] theorem tyP70 : placesT Try.prog 70 = some [(0, 1), (1, 1), (2, 1), (3, 1), (4, 1)] := by kernel_rfl
@[simp] theorem tyF70_0 : fieldT Try.prog 70 0 = some (0, 3) := by kernel_rfl
@[simp] theorem tyF70_1 : fieldT Try.prog 70 1 = some (1, 3) := by kernel_rfl
@[simp] theorem tyF70_2 : fieldT Try.prog 70 2 = some (2, 3) := by kernel_rfl
@[simp] theorem tyF70_3 : fieldT Try.prog 70 3 = some (3, 34) := by kernel_rfl
@[simp] theorem tyF70_4 : fieldT Try.prog 70 4 = some (4, 4) := by kernel_rfl
@[simp] theorem tyU71 : Try.prog.underlying 71 = some (.pointer 73) := by kernel_rfl
@[simp] theorem tyS71 : sizeT Try.prog 71 = some 1 := by kernel_rfl
@[simp] theorem tyB71 : bytesT Try.prog 71 = some 8 := by kernel_rfl
@[simp] theorem tyA71 : aggT Try.prog 71 = some false := by kernel_rfl
@[simp] theorem tyZ71 : zeroT Try.prog 71 = some [.nilPtr] := by kernel_rfl
@[simp] theorem tyV71 : zeroV Try.prog 71 = some (.nilPtr) := by kernel_rfl
@[simp] theorem tyP71 : placesT Try.prog 71 = none := by kernel_rfl
@[simp] theorem tyS72 : sizeT Try.prog 72 = some 7 := by kernel_rfl
@[simp] theorem tyB72 : bytesT Try.prog 72 = some 88 := by kernel_rfl
@[simp] theorem tyA72 : aggT Try.prog 72 = some true := by kernel_rfl
@[simp] theorem tyZ72 : zeroT Try.prog 72 = some [.int .i64 0, .int .i64 0, .int .i64 0, .int .i64 0, .bool false, .nilSlice, .nilSlice] := by kernel_rfl
@[simp] theorem tyV72 : zeroV Try.prog 72 = some (.agg [.int .i64 0, .int .i64 0, .int .i64 0, .int .i64 0, .bool false, .nilSlice, .nilSlice]) := by kernel_rfl
@[simp] theorem tyP72 : placesT Try.prog 72 = some [(0, 1), (1, 1), (2, 1), (3, 1), (4, 1), (5, 1), (6, 1)] := by kernel_rfl
@[simp] theorem tyF72_0 : fieldT Try.prog 72 0 = some (0, 3) := by kernel_rfl
@[simp] theorem tyF72_1 : fieldT Try.prog 72 1 = some (1, 3) := by kernel_rfl
@[simp] theorem tyF72_2 : fieldT Try.prog 72 2 = some (2, 3) := by kernel_rfl
@[simp] theorem tyF72_3 : fieldT Try.prog 72 3 = some (3, 3) := by kernel_rfl
@[simp] theorem tyF72_4 : fieldT Try.prog 72 4 = some (4, 4) := by kernel_rfl
@[simp] theorem tyF72_5 : fieldT Try.prog 72 5 = some (5, 34) := by kernel_rfl
@[simp] theorem tyF72_6 : fieldT Try.prog 72 6 = some (6, 43) := by kernel_rfl
@[simp] theorem tyS73 : sizeT Try.prog 73 = some 7 := by kernel_rfl
@[simp] theorem tyB73 : bytesT Try.prog 73 = some 88 := by kernel_rfl
@[simp] theorem tyA73 : aggT Try.prog 73 = some true := by kernel_rfl
@[simp] theorem tyZ73 : zeroT Try.prog 73 = some [.int .i64 0, .int .i64 0, .int .i64 0, .int .i64 0, .bool false, .nilSlice, .nilSlice] := by kernel_rfl
@[simp] theorem tyV73 : zeroV Try.prog 73 = some (.agg [.int .i64 0, .int .i64 0, .int .i64 0, .int .i64 0, .bool false, .nilSlice, .nilSlice]) := by kernel_rfl
@[simp] theorem tyP73 : placesT Try.prog 73 = some [(0, 1), (1, 1), (2, 1), (3, 1), (4, 1), (5, 1), (6, 1)] := by kernel_rfl
@[simp] theorem tyF73_0 : fieldT Try.prog 73 0 = some (0, 3) := by kernel_rfl
@[simp] theorem tyF73_1 : fieldT Try.prog 73 1 = some (1, 3) := by kernel_rfl
@[simp] theorem tyF73_2 : fieldT Try.prog 73 2 = some (2, 3) := by kernel_rfl
@[simp] theorem tyF73_3 : fieldT Try.prog 73 3 = some (3, 3) := by kernel_rfl
@[simp] theorem tyF73_4 : fieldT Try.prog 73 4 = some (4, 4) := by kernel_rfl
@[simp] theorem tyF73_5 : fieldT Try.prog 73 5 = some (5, 34) := by kernel_rfl
@[simp] theorem tyF73_6 : fieldT Try.prog 73 6 = some (6, 43) := by kernel_rfl
@[simp] theorem tyS74 : sizeT Try.prog 74 = some 7 := by kernel_rfl
@[simp] theorem tyB74 : bytesT Try.prog 74 = some 56 := by kernel_rfl
@[simp] theorem tyA74 : aggT Try.prog 74 = some true := by kernel_rfl
@[simp] theorem tyZ74 : zeroT Try.prog 74 = some [.int .i64 0, .int .i64 0, .int .i64 0, .nilSlice, .bool false, .bool false, .bool false] := by kernel_rfl
@[simp] theorem tyV74 : zeroV Try.prog 74 = some (.agg [.int .i64 0, .int .i64 0, .int .i64 0, .nilSlice, .bool false, .bool false, .bool false]) := by kernel_rfl
@[simp] theorem tyP74 : placesT Try.prog 74 = some [(0, 1), (1, 1), (2, 1), (3, 1), (4, 1), (5, 1), (6, 1)] := by kernel_rfl
@[simp] theorem tyF74_0 : fieldT Try.prog 74 0 = some (0, 3) := by kernel_rfl
@[simp] theorem tyF74_1 : fieldT Try.prog 74 1 = some (1, 3) := by kernel_rfl
@[simp] theorem tyF74_2 : fieldT Try.prog 74 2 = some (2, 3) := by kernel_rfl
@[simp] theorem tyF74_3 : fieldT Try.prog 74 3 = some (3, 34) := by kernel_rfl
@[simp] theorem tyF74_4 : fieldT Try.prog 74 4 = some (4, 4) := by kernel_rfl
@[simp] theorem tyF74_5 : fieldT Try.prog 74 5 = some (5, 4) := by kernel_rfl
@[simp] theorem tyF74_6 : fieldT Try.prog 74 6 = some (6, 4) := by kernel_rfl
@[simp] theorem tyS75 : sizeT Try.prog 75 = some 7 := by kernel_rfl
@[simp] theorem tyB75 : bytesT Try.prog 75 = some 56 := by kernel_rfl
@[simp] theorem tyA75 : aggT Try.prog 75 = some true := by kernel_rfl
@[simp] theorem tyZ75 : zeroT Try.prog 75 = some [.int .i64 0, .int .i64 0, .int .i64 0, .nilSlice, .bool false, .bool false, .bool false] := by kernel_rfl
@[simp] theorem tyV75 : zeroV Try.prog 75 = some (.agg [.int .i64 0, .int .i64 0, .int .i64 0, .nilSlice, .bool false, .bool false, .bool false]) := by kernel_rfl
@[simp] theorem tyP75 : placesT Try.prog 75 = some [(0, 1), (1, 1), (2, 1), (3, 1), (4, 1), (5, 1), (6, 1)] := by kernel_rfl
@[simp] theorem tyF75_0 : fieldT Try.prog 75 0 = some (0, 3) := by kernel_rfl
@[simp] theorem tyF75_1 : fieldT Try.prog 75 1 = some (1, 3) := by kernel_rfl
@[simp] theorem tyF75_2 : fieldT Try.prog 75 2 = some (2, 3) := by kernel_rfl
@[simp] theorem tyF75_3 : fieldT Try.prog 75 3 = some (3, 34) := by kernel_rfl
@[simp] theorem tyF75_4 : fieldT Try.prog 75 4 = some (4, 4) := by kernel_rfl
@[simp] theorem tyF75_5 : fieldT Try.prog 75 5 = some (5, 4) := by kernel_rfl
@[simp] theorem tyF75_6 : fieldT Try.prog 75 6 = some (6, 4) := by kernel_rfl
@[simp] theorem tyS77 : sizeT Try.prog 77 = some 5 := by kernel_rfl
@[simp] theorem tyB77 : bytesT Try.prog 77 = some 56 := by kernel_rfl
@[simp] theorem tyA77 : aggT Try.prog 77 = some true := by kernel_rfl
@[simp] theorem tyZ77 : zeroT Try.prog 77 = some [.int .i64 0, .int .i64 0, .int .i64 0, .nilSlice, .bool false] := by kernel_rfl
@[simp] theorem tyV77 : zeroV Try.prog 77 = some (.agg [.int .i64 0, .int .i64 0, .int .i64 0, .nilSlice, .bool false]) := by kernel_rfl
@[simp] theorem tyP77 : placesT Try.prog 77 = some [(0, 1), (1, 1), (2, 1), (3, 1), (4, 1)] := by kernel_rfl
@[simp] theorem tyF77_0 : fieldT Try.prog 77 0 = some (0, 3) := by kernel_rfl
@[simp] theorem tyF77_1 : fieldT Try.prog 77 1 = some (1, 3) := by kernel_rfl
@[simp] theorem tyF77_2 : fieldT Try.prog 77 2 = some (2, 3) := by kernel_rfl
@[simp] theorem tyF77_3 : fieldT Try.prog 77 3 = some (3, 34) := by kernel_rfl
@[simp] theorem tyF77_4 : fieldT Try.prog 77 4 = some (4, 4) := by kernel_rfl
@[simp] theorem tyU79 : Try.prog.underlying 79 = some (.pointer 81) := by kernel_rfl
@[simp] theorem tyS79 : sizeT Try.prog 79 = some 1 := by kernel_rfl
@[simp] theorem tyB79 : bytesT Try.prog 79 = some 8 := by kernel_rfl
@[simp] theorem tyA79 : aggT Try.prog 79 = some false := by kernel_rfl
@[simp] theorem tyZ79 : zeroT Try.prog 79 = some [.nilPtr] := by kernel_rfl
@[simp] theorem tyV79 : zeroV Try.prog 79 = some (.nilPtr) := by kernel_rfl
@[simp] theorem tyP79 : placesT Try.prog 79 = none := by kernel_rfl
@[simp] theorem tyS80 : sizeT Try.prog 80 = some 7 := by kernel_rfl
@[simp] theorem tyB80 : bytesT Try.prog 80 = some 80 := by kernel_rfl
@[simp] theorem tyA80 : aggT Try.prog 80 = some true := by kernel_rfl
@[simp] theorem tyZ80 : zeroT Try.prog 80 = some [.int .i64 0, .int .i64 0, .nilSlice, .nilSlice, .int .i64 0, .bool false, .int .u8 0] := by kernel_rfl
@[simp] theorem tyV80 : zeroV Try.prog 80 = some (.agg [.int .i64 0, .int .i64 0, .nilSlice, .nilSlice, .int .i64 0, .bool false, .int .u8 0]) := by kernel_rfl
@[simp] theorem tyP80 : placesT Try.prog 80 = some [(0, 1), (1, 1), (2, 1), (3, 1), (4, 1), (5, 1), (6, 1)] := by kernel_rfl
@[simp] theorem tyF80_0 : fieldT Try.prog 80 0 = some (0, 3) := by kernel_rfl
@[simp] theorem tyF80_1 : fieldT Try.prog 80 1 = some (1, 3) := by kernel_rfl
@[simp] theorem tyF80_2 : fieldT Try.prog 80 2 = some (2, 34) := by kernel_rfl
@[simp] theorem tyF80_3 : fieldT Try.prog 80 3 = some (3, 34) := by kernel_rfl
@[simp] theorem tyF80_4 : fieldT Try.prog 80 4 = some (4, 3) := by kernel_rfl
@[simp] theorem tyF80_5 : fieldT Try.prog 80 5 = some (5, 4) := by kernel_rfl
@[simp] theorem tyF80_6 : fieldT Try.prog 80 6 = some (6, 5) := by kernel_rfl
@[simp] theorem tyS81 : sizeT Try.prog 81 = some 7 := by kernel_rfl
@[simp] theorem tyB81 : bytesT Try.prog 81 = some 80 := by kernel_rfl
@[simp] theorem tyA81 : aggT Try.prog 81 = some true := by kernel_rfl
@[simp] theorem tyZ81 : zeroT Try.prog 81 = some [.int .i64 0, .int .i64 0, .nilSlice, .nilSlice, .int .i64 0, .bool false, .int .u8 0] := by kernel_rfl
@[simp] theorem tyV81 : zeroV Try.prog 81 = some (.agg [.int .i64 0, .int .i64 0, .nilSlice, .nilSlice, .int .i64 0, .bool false, .int .u8 0]) := by kernel_rfl
@[simp] theorem tyP81 : placesT Try.prog 81 = some [(0, 1), (1, 1), (2, 1), (3, 1), (4, 1), (5, 1), (6, 1)] := by kernel_rfl
@[simp] theorem tyF81_0 : fieldT Try.prog 81 0 = some (0, 3) := by kernel_rfl
@[simp] theorem tyF81_1 : fieldT Try.prog 81 1 = some (1, 3) := by kernel_rfl
@[simp] theorem tyF81_2 : fieldT Try.prog 81 2 = some (2, 34) := by kernel_rfl
@[simp] theorem tyF81_3 : fieldT Try.prog 81 3 = some (3, 34) := by kernel_rfl
@[simp] theorem tyF81_4 : fieldT Try.prog 81 4 = some (4, 3) := by kernel_rfl
@[simp] theorem tyF81_5 : fieldT Try.prog 81 5 = some (5, 4) := by kernel_rfl
@[simp] theorem tyF81_6 : fieldT Try.prog 81 6 = some (6, 5) := by kernel_rfl
@[simp] theorem tyU94 : Try.prog.underlying 94 = some (.pointer 96) := by kernel_rfl
@[simp] theorem tyS94 : sizeT Try.prog 94 = some 1 := by kernel_rfl
@[simp] theorem tyB94 : bytesT Try.prog 94 = some 8 := by kernel_rfl
@[simp] theorem tyA94 : aggT Try.prog 94 = some false := by kernel_rfl
@[simp] theorem tyZ94 : zeroT Try.prog 94 = some [.nilPtr] := by kernel_rfl
@[simp] theorem tyV94 : zeroV Try.prog 94 = some (.nilPtr) := by kernel_rfl
@[simp] theorem tyP94 : placesT Try.prog 94 = none := by kernel_rfl
@[simp] theorem tyS95 : sizeT Try.prog 95 = some 3 := by kernel_rfl
@[simp] theorem tyB95 : bytesT Try.prog 95 = some 40 := by kernel_rfl
@[simp] theorem tyA95 : aggT Try.prog 95 = some true := by kernel_rfl
@[simp] theorem tyZ95 : zeroT Try.prog 95 = some [.nilSlice, .int .i64 0, .int .i64 0] := by kernel_rfl
@[simp] theorem tyV95 : zeroV Try.prog 95 = some (.agg [.nilSlice, .int .i64 0, .int .i64 0]) := by kernel_rfl
@[simp] theorem tyP95 : placesT Try.prog 95 = some [(0, 1), (1, 1), (2, 1)] := by kernel_rfl
@[simp] theorem tyF95_0 : fieldT Try.prog 95 0 = some (0, 34) := by kernel_rfl
@[simp] theorem tyF95_1 : fieldT Try.prog 95 1 = some (1, 3) := by kernel_rfl
@[simp] theorem tyF95_2 : fieldT Try.prog 95 2 = some (2, 3) := by kernel_rfl
@[simp] theorem tyS96 : sizeT Try.prog 96 = some 3 := by kernel_rfl
@[simp] theorem tyB96 : bytesT Try.prog 96 = some 40 := by kernel_rfl
@[simp] theorem tyA96 : aggT Try.prog 96 = some true := by kernel_rfl
@[simp] theorem tyZ96 : zeroT Try.prog 96 = some [.nilSlice, .int .i64 0, .int .i64 0] := by kernel_rfl
@[simp] theorem tyV96 : zeroV Try.prog 96 = some (.agg [.nilSlice, .int .i64 0, .int .i64 0]) := by kernel_rfl
@[simp] theorem tyP96 : placesT Try.prog 96 = some [(0, 1), (1, 1), (2, 1)] := by kernel_rfl
@[simp] theorem tyF96_0 : fieldT Try.prog 96 0 = some (0, 34) := by kernel_rfl
@[simp] theorem tyF96_1 : fieldT Try.prog 96 1 = some (1, 3) := by kernel_rfl
@[simp] theorem tyF96_2 : fieldT Try.prog 96 2 = some (2, 3) := by kernel_rfl
@[simp] theorem tyU98 : Try.prog.underlying 98 = some (.pointer 138) := by kernel_rfl
@[simp] theorem tyS98 : sizeT Try.prog 98 = some 1 := by kernel_rfl
@[simp] theorem tyB98 : bytesT Try.prog 98 = some 8 := by kernel_rfl
@[simp] theorem tyA98 : aggT Try.prog 98 = some false := by kernel_rfl
@[simp] theorem tyZ98 : zeroT Try.prog 98 = some [.nilPtr] := by kernel_rfl
@[simp] theorem tyV98 : zeroV Try.prog 98 = some (.nilPtr) := by kernel_rfl
@[simp] theorem tyP98 : placesT Try.prog 98 = none := by kernel_rfl
@[simp] theorem tyU102 : Try.prog.underlying 102 = some (.pointer 106) := by kernel_rfl
@[simp] theorem tyS102 : sizeT Try.prog 102 = some 1 := by kernel_rfl
@[simp] theorem tyB102 : bytesT Try.prog 102 = some 8 := by kernel_rfl
@[simp] theorem tyA102 : aggT Try.prog 102 = some false := by kernel_rfl
@[simp] theorem tyZ102 : zeroT Try.prog 102 = some [.nilPtr] := by kernel_rfl
@[simp] theorem tyV102 : zeroV Try.prog 102 = some (.nilPtr) := by kernel_rfl
@[simp] theorem tyP102 : placesT Try.prog 102 = none := by kernel_rfl
@[simp] theorem tyS105 : sizeT Try.prog 105 = some 16 := by kernel_rfl
@[simp] theorem tyB105 : bytesT Try.prog 105 = some 176 := by kernel_rfl
@[simp] theorem tyA105 : aggT Try.prog 105 = some true := by kernel_rfl
@[simp] theorem tyZ105 : zeroT Try.prog 105 = some [.int .i64 0, .int .i64 0, .int .i64 0, .int .i64 0, .int .i64 0, .int .i64 0, .int .i64 0, .int .i64 0, .nilSlice, .nilSlice, .nilSlice, .int .i64 0, .int .i64 0, .int .i64 0, .int .i64 0, .int .i64 0] := by kernel_rfl
@[simp] theorem tyV105 : zeroV Try.prog 105 = some (.agg [.int .i64 0, .int .i64 0, .int .i64 0, .int .i64 0, .int .i64 0, .int .i64 0, .int .i64 0, .int .i64 0, .nilSlice, .nilSlice, .nilSlice, .int .i64 0, .int .i64 0, .int .i64 0, .int .i64 0, .int .i64 0]) := by kernel_rfl
@[simp] theorem tyP105 : placesT Try.prog 105 = some [(0, 1), (1, 1), (2, 1), (3, 1), (4, 1), (5, 1), (6, 1), (7, 1), (8, 1), (9, 1), (10, 1), (11, 1), (12, 1), (13, 1), (14, 1), (15, 1)] := by kernel_rfl
@[simp] theorem tyF105_0 : fieldT Try.prog 105 0 = some (0, 3) := by kernel_rfl
@[simp] theorem tyF105_1 : fieldT Try.prog 105 1 = some (1, 3) := by kernel_rfl
@[simp] theorem tyF105_2 : fieldT Try.prog 105 2 = some (2, 3) := by kernel_rfl
@[simp] theorem tyF105_3 : fieldT Try.prog 105 3 = some (3, 3) := by kernel_rfl
@[simp] theorem tyF105_4 : fieldT Try.prog 105 4 = some (4, 3) := by kernel_rfl
@[simp] theorem tyF105_5 : fieldT Try.prog 105 5 = some (5, 3) := by kernel_rfl
@[simp] theorem tyF105_6 : fieldT Try.prog 105 6 = some (6, 3) := by kernel_rfl
@[simp] theorem tyF105_7 : fieldT Try.prog 105 7 = some (7, 3) := by kernel_rfl
@[simp] theorem tyF105_8 : fieldT Try.prog 105 8 = some (8, 43) := by kernel_rfl
@[simp] theorem tyF105_9 : fieldT Try.prog 105 9 = some (9, 43) := by kernel_rfl
@[simp] theorem tyF105_10 : fieldT Try.prog 105 10 = some (10, 43) := by kernel_rfl
@[simp] theorem tyF105_11 : fieldT Try.prog 105 11 = some (11, 3) := by kernel_rfl
@[simp] theorem tyF105_12 : fieldT Try.prog 105 12 = some (12, 3) := by kernel_rfl
@[simp] theorem tyF105_13 : fieldT Try.prog 105 13 = some (13, 3) := by kernel_rfl
@[simp] theorem tyF105_14 : fieldT Try.prog 105 14 = some (14, 3) := by kernel_rfl
@[simp] theorem tyF105_15 : fieldT Try.prog 105 15 = some (15, 3) := by kernel_rfl
@[simp] theorem tyS106 : sizeT Try.prog 106 = some 16 := by kernel_rfl
@[simp] theorem tyB106 : bytesT Try.prog 106 = some 176 := by kernel_rfl
@[simp] theorem tyA106 : aggT Try.prog 106 = some true := by kernel_rfl
@[simp] theorem tyZ106 : zeroT Try.prog 106 = some [.int .i64 0, .int .i64 0, .int .i64 0, .int .i64 0, .int .i64 0, .int .i64 0, .int .i64 0, .int .i64 0, .nilSlice, .nilSlice, .nilSlice, .int .i64 0, .int .i64 0, .int .i64 0, .int .i64 0, .int .i64 0] := by kernel_rfl
@[simp] theorem tyV106 : zeroV Try.prog 106 = some (.agg [.int .i64 0, .int .i64 0, .int .i64 0, .int .i64 0, .int .i64 0, .int .i64 0, .int .i64 0, .int .i64 0, .nilSlice, .nilSlice, .nilSlice, .int .i64 0, .int .i64 0, .int .i64 0, .int .i64 0, .int .i64 0]) := by kernel_rfl
@[simp] theorem tyP106 : placesT Try.prog 106 = some [(0, 1), (1, 1), (2, 1), (3, 1), (4, 1), (5, 1), (6, 1), (7, 1), (8, 1), (9, 1), (10, 1), (11, 1), (12, 1), (13, 1), (14, 1), (15, 1)] := by kernel_rfl
@[simp] theorem tyF106_0 : fieldT Try.prog 106 0 = some (0, 3) := by kernel_rfl
@[simp] theorem tyF106_1 : fieldT Try.prog 106 1 = some (1, 3) := by kernel_rfl
@[simp] theorem tyF106_2 : fieldT Try.prog 106 2 = some (2, 3) := by kernel_rfl
@[simp] theorem tyF106_3 : fieldT Try.prog 106 3 = some (3, 3) := by kernel_rfl
@[simp] theorem tyF106_4 : fieldT Try.prog 106 4 = some (4, 3) := by kernel_rfl
@[simp] theorem tyF106_5 : fieldT Try.prog 106 5 = some (5, 3) := by kernel_rfl
@[simp] theorem tyF106_6 : fieldT Try.prog 106 6 = some (6, 3) := by kernel_rfl
@[simp] theorem tyF106_7 : fieldT Try.prog 106 7 = some (7, 3) := by kernel_rfl
@[simp] theorem tyF106_8 : fieldT Try.prog 106 8 = some (8, 43) := by kernel_rfl
@[simp] theorem tyF106_9 : fieldT Try.prog 106 9 = some (9, 43) := by kernel_rfl
@[simp] theorem tyF106_10 : fieldT Try.prog 106 10 = some (10, 43) := by kernel_rfl
@[simp] theorem tyF106_11 : fieldT Try.prog 106 11 = some (11, 3) := by kernel_rfl
@[simp] theorem tyF106_12 : fieldT Try.prog 106 12 = some (12, 3) := by kernel_rfl
@[simp] theorem tyF106_13 : fieldT Try.prog 106 13 = some (13, 3) := by kernel_rfl
@[simp] theorem tyF106_14 : fieldT Try.prog 106 14 = some (14, 3) := by kernel_rfl
@[simp] theorem tyF106_15 : fieldT Try.prog 106 15 = some (15, 3) := by kernel_rfl
@[simp] theorem tyU107 : Try.prog.underlying 107 = some (.pointer 115) := by kernel_rfl
@[simp] theorem tyS107 : sizeT Try.prog 107 = some 1 := by kernel_rfl
@[simp] theorem tyB107 : bytesT Try.prog 107 = some 8 := by kernel_rfl
@[simp] theorem tyA107 : aggT Try.prog 107 = some false := by kernel_rfl
@[simp] theorem tyZ107 : zeroT Try.prog 107 = some [.nilPtr] := by kernel_rfl
@[simp] theorem tyV107 : zeroV Try.prog 107 = some (.nilPtr) := by kernel_rfl
@[simp] theorem tyP107 : placesT Try.prog 107 = none := by kernel_rfl
@[simp] theorem tyS112 : sizeT Try.prog 112 = some 1 := by kernel_rfl
@[simp] theorem tyB112 : bytesT Try.prog 112 = some 16 := by kernel_rfl
@[simp] theorem tyA112 : aggT Try.prog 112 = some false := by kernel_rfl
@[simp] theorem tyZ112 : zeroT Try.prog 112 = some [.nilIface] := by kernel_rfl
@[simp] theorem tyV112 : zeroV Try.prog 112 = some (.nilIface) := by kernel_rfl
@[simp] theorem tyP112 : placesT Try.prog 112 = none := by kernel_rfl
@[simp] theorem tyS113 : sizeT Try.prog 113 = some 1 := by kernel_rfl
@[simp] theorem tyB113 : bytesT Try.prog 113 = some 16 := by kernel_rfl
@[simp] theorem tyA113 : aggT Try.prog 113 = some false := by kernel_rfl
@[simp] theorem tyZ113 : zeroT Try.prog 113 = some [.nilIface] := by kernel_rfl
@[simp] theorem tyV113 : zeroV Try.prog 113 = some (.nilIface) := by kernel_rfl
@[simp] theorem tyP113 : placesT Try.prog 113 = none := by kernel_rfl
@[simp] theorem tyS114 : sizeT Try.prog 114 = some 2 := by kernel_rfl
@[simp] theorem tyB114 : bytesT Try.prog 114 = some 24 := by kernel_rfl
@[simp] theorem tyA114 : aggT Try.prog 114 = some true := by kernel_rfl
@[simp] theorem tyZ114 : zeroT Try.prog 114 = some [.nilIface, .int .i64 0] := by kernel_rfl
@[simp] theorem tyV114 : zeroV Try.prog 114 = some (.agg [.nilIface, .int .i64 0]) := by kernel_rfl
@[simp] theorem tyP114 : placesT Try.prog 114 = some [(0, 1), (1, 1)] := by kernel_rfl
@[simp] theorem tyF114_0 : fieldT Try.prog 114 0 = some (0, 113) := by kernel_rfl
@[simp] theorem tyF114_1 : fieldT Try.prog 114 1 = some (1, 3) := by kernel_rfl
@[simp] theorem tyS115 : sizeT Try.prog 115 = some 2 := by kernel_rfl
@[simp] theorem tyB115 : bytesT Try.prog 115 = some 24 := by kernel_rfl
@[simp] theorem tyA115 : aggT Try.prog 115 = some true := by kernel_rfl
@[simp] theorem tyZ115 : zeroT Try.prog 115 = some [.nilIface, .int .i64 0] := by kernel_rfl
@[simp] theorem tyV115 : zeroV Try.prog 115 = some (.agg [.nilIface, .int .i64 0]) := by kernel_rfl
@[simp] theorem tyP115 : placesT Try.prog 115 = some [(0, 1), (1, 1)] := by kernel_rfl
@[simp] theorem tyF115_0 : fieldT Try.prog 115 0 = some (0, 113) := by kernel_rfl
@[simp] theorem tyF115_1 : fieldT Try.prog 115 1 = some (1, 3) := by kernel_rfl
@[simp] theorem tyU122 : Try.prog.underlying 122 = some (.pointer 5) := by kernel_rfl
@[simp] theorem tyS122 : sizeT Try.prog 122 = some 1 := by kernel_rfl
@[simp] theorem tyB122 : bytesT Try.prog 122 = some 8 := by kernel_rfl
@[simp] theorem tyA122 : aggT Try.prog 122 = some false := by kernel_rfl
@[simp] theorem tyZ122 : zeroT Try.prog 122 = some [.nilPtr] := by kernel_rfl
@[simp] theorem tyV122 : zeroV Try.prog 122 = some (.nilPtr) := by kernel_rfl
@[simp] theorem tyP122 : placesT Try.prog 122 = none := by kernel_rfl
@[simp] theorem tyS125 : sizeT Try.prog 125 = some 6 := by kernel_rfl
@[simp] theorem tyB125 : bytesT Try.prog 125 = some 6 := by kernel_rfl
@[simp] theorem tyA125 : aggT Try.prog 125 = some true := by kernel_rfl
@[simp] theorem tyZ125 : zeroT Try.prog 125 = some [.bool false, .bool false, .bool false, .bool false, .bool false, .bool false] := by kernel_rfl
@[simp] theorem tyV125 : zeroV Try.prog 125 = some (.agg [.bool false, .bool false, .bool false, .bool false, .bool false, .bool false]) := by kernel_rfl
@[simp] theorem tyP125 : placesT Try.prog 125 = some [(0, 1), (1, 1), (2, 1), (3, 1), (4, 1), (5, 1)] := by kernel_rfl
@[simp] theorem tyF125_0 : fieldT Try.prog 125 0 = some (0, 4) := by kernel_rfl
@[simp] theorem tyF125_1 : fieldT Try.prog 125 1 = some (1, 4) := by kernel_rfl
@[simp] theorem tyF125_2 : fieldT Try.prog 125 2 = some (2, 4) := by kernel_rfl
@[simp] theorem tyF125_3 : fieldT Try.prog 125 3 = some (3, 4) := by kernel_rfl
@[simp] theorem tyF125_4 : fieldT Try.prog 125 4 = some (4, 4) := by kernel_rfl
@[simp] theorem tyF125_5 : fieldT Try.prog 125 5 = some (5, 4) := by kernel_rfl
@[simp] theorem tyS126 : sizeT Try.prog 126 = some 6 := by kernel_rfl
@[simp] theorem tyB126 : bytesT Try.prog 126 = some 6 := by kernel_rfl
@[simp] theorem tyA126 : aggT Try.prog 126 = some true := by kernel_rfl
@[simp] theorem tyZ126 : zeroT Try.prog 126 = some [.bool false, .bool false, .bool false, .bool false, .bool false, .bool false] := by kernel_rfl
@[simp] theorem tyV126 : zeroV Try.prog 126 = some (.agg [.bool false, .bool false, .bool false, .bool false, .bool false, .bool false]) := by kernel_rfl
@[simp] theorem tyP126 : placesT Try.prog 126 = some [(0, 1), (1, 1), (2, 1), (3, 1), (4, 1), (5, 1)] := by kernel_rfl
@[simp] theorem tyF126_0 : fieldT Try.prog 126 0 = some (0, 4) := by kernel_rfl
@[simp] theorem tyF126_1 : fieldT Try.prog 126 1 = some (1, 4) := by kernel_rfl
@[simp] theorem tyF126_2 : fieldT Try.prog 126 2 = some (2, 4) := by kernel_rfl
@[simp] theorem tyF126_3 : fieldT Try.prog 126 3 = some (3, 4) := by kernel_rfl
@[simp] theorem tyF126_4 : fieldT Try.prog 126 4 = some (4, 4) := by kernel_rfl
@[simp] theorem tyF126_5 : fieldT Try.prog 126 5 = some (5, 4) := by kernel_rfl
@[simp] theorem tyU133 : Try.prog.underlying 133 = some (.pointer 47) := by kernel_rfl
@[simp] theorem tyS133 : sizeT Try.prog 133 = some 1 := by kernel_rfl
@[simp] theorem tyB133 : bytesT Try.prog 133 = some 8 := by kernel_rfl
@[simp] theorem tyA133 : aggT Try.prog 133 = some false := by kernel_rfl
@[simp] theorem tyZ133 : zeroT Try.prog 133 = some [.nilPtr] := by kernel_rfl
@[simp] theorem tyV133 : zeroV Try.prog 133 = some (.nilPtr) := by kernel_rfl
@[simp] theorem tyP133 : placesT Try.prog 133 = none := by kernel_rfl
@[simp] theorem tyS137 : sizeT Try.prog 137 = some 3 := by kernel_rfl
@[simp] theorem tyB137 : bytesT Try.prog 137 = some 40 := by kernel_rfl
@[simp] theorem tyA137 : aggT Try.prog 137 = some true := by kernel_rfl
@[simp] theorem tyZ137 : zeroT Try.prog 137 = some [.nilSlice, .int .i64 0, .int .i64 0] := by kernel_rfl
@[simp] theorem tyV137 : zeroV Try.prog 137 = some (.agg [.nilSlice, .int .i64 0, .int .i64 0]) := by kernel_rfl
@[simp] theorem tyP137 : placesT Try.prog 137 = some [(0, 1), (1, 1), (2, 1)] := by kernel_rfl
@[simp] theorem tyF137_0 : fieldT Try.prog 137 0 = some (0, 34) := by kernel_rfl
@[simp] theorem tyF137_1 : fieldT Try.prog 137 1 = some (1, 3) := by kernel_rfl
@[simp] theorem tyF137_2 : fieldT Try.prog 137 2 = some (2, 3) := by kernel_rfl
@[simp] theorem tyS138 : sizeT Try.prog 138 = some 3 := by kernel_rfl
@[simp] theorem tyB138 : bytesT Try.prog 138 = some 40 := by kernel_rfl
@[simp] theorem tyA138 : aggT Try.prog 138 = some true := by kernel_rfl
@[simp] theorem tyZ138 : zeroT Try.prog 138 = some [.nilSlice, .int .i64 0, .int .i64 0] := by kernel_rfl
@[simp] theorem tyV138 : zeroV Try.prog 138 = some (.agg [.nilSlice, .int .i64 0, .int .i64 0]) := by kernel_rfl
@[simp] theorem tyP138 : placesT Try.prog 138 = some [(0, 1), (1, 1), (2, 1)] := by kernel_rfl
@[simp] theorem tyF138_0 : fieldT Try.prog 138 0 = some (0, 34) := by kernel_rfl
@[simp] theorem tyF138_1 : fieldT Try.prog 138 1 = some (1, 3) := by kernel_rfl
@[simp] theorem tyF138_2 : fieldT Try.prog 138 2 = some (2, 3) := by kernel_rfl
@[simp] theorem tyU140 : Try.prog.underlying 140 = some (.pointer 142) := by kernel_rfl
@[simp] theorem tyS140 : sizeT Try.prog 140 = some 1 := by kernel_rfl
@[simp] theorem tyB140 : bytesT Try.prog 140 = some 8 := by kernel_rfl
@[simp] theorem tyA140 : aggT Try.prog 140 = some false := by kernel_rfl
@[simp] theorem tyZ140 : zeroT Try.prog 140 = some [.nilPtr] := by kernel_rfl
@[simp] theorem tyV140 : zeroV Try.prog 140 = some (.nilPtr) := by kernel_rfl
@[simp] theorem tyP140 : placesT Try.prog 140 = none := by kernel_rfl
@[simp] theorem tyS141 : sizeT Try.prog 141 = some 5 := by kernel_rfl
@[simp] theorem tyB141 : bytesT Try.prog 141 = some 40 := by kernel_rfl
@[simp] theorem tyA141 : aggT Try.prog 141 = some true := by kernel_rfl
@[simp] theorem tyZ141 : zeroT Try.prog 141 = some [.int .i64 0, .int .i64 0, .int .i64 0, .int .i64 0, .int .i64 0] := by kernel_rfl
@[simp] theorem tyV141 : zeroV Try.prog 141 = some (.agg [.int .i64 0, .int .i64 0, .int .i64 0, .int .i64 0, .int .i64 0]) := by kernel_rfl
@[simp] theorem tyP141 : placesT Try.prog 141 = some [(0, 1), (1, 1), (2, 1), (3, 1), (4, 1)] := by kernel_rfl
@[simp] theorem tyF141_0 : fieldT Try.prog 141 0 = some (0, 3) := by kernel_rfl
@[simp] theorem tyF141_1 : fieldT Try.prog 141 1 = some (1, 3) := by kernel_rfl
@[simp] theorem tyF141_2 : fieldT Try.prog 141 2 = some (2, 3) := by kernel_rfl
@[simp] theorem tyF141_3 : fieldT Try.prog 141 3 = some (3, 3) := by kernel_rfl
@[simp] theorem tyF141_4 : fieldT Try.prog 141 4 = some (4, 3) := by kernel_rfl
@[simp] theorem tyS142 : sizeT Try.prog 142 = some 5 := by kernel_rfl
@[simp] theorem tyB142 : bytesT Try.prog 142 = some 40 := by kernel_rfl
@[simp] theorem tyA142 : aggT Try.prog 142 = some true := by kernel_rfl
@[simp] theorem tyZ142 : zeroT Try.prog 142 = some [.int .i64 0, .int .i64 0, .int .i64 0, .int .i64 0, .int .i64 0] := by kernel_rfl
@[simp] theorem tyV142 : zeroV Try.prog 142 = some (.agg [.int .i64 0, .int .i64 0, .int .i64 0, .int .i64 0, .int .i64 0]) := by kernel_rfl
@[simp] theorem tyP142 : placesT Try.prog 142 = some [(0, 1), (1, 1), (2, 1), (3, 1), (4, 1)] := by kernel_rfl
@[simp] theorem tyF142_0 : fieldT Try.prog 142 0 = some (0, 3) := by kernel_rfl
@[simp] theorem tyF142_1 : fieldT Try.prog 142 1 = some (1, 3) := by kernel_rfl
@[simp] theorem tyF142_2 : fieldT Try.prog 142 2 = some (2, 3) := by kernel_rfl
@[simp] theorem tyF142_3 : fieldT Try.prog 142 3 = some (3, 3) := by kernel_rfl
@[simp] theorem tyF142_4 : fieldT Try.prog 142 4 = some (4, 3) := by kernel_rfl
@[simp] theorem tyU143 : Try.prog.underlying 143 = some (.pointer 146) := by kernel_rfl
@[simp] theorem tyS143 : sizeT Try.prog 143 = some 1 := by kernel_rfl
@[simp] theorem tyB143 : bytesT Try.prog 143 = some 8 := by kernel_rfl
@[simp] theorem tyA143 : aggT Try.prog 143 = some false := by kernel_rfl
@[simp] theorem tyZ143 : zeroT Try.prog 143 = some [.nilPtr] := by kernel_rfl
@[simp] theorem tyV143 : zeroV Try.prog 143 = some (.nilPtr) := by kernel_rfl
@[simp] theorem tyP143 : placesT Try.prog 143 = none := by kernel_rfl
@[simp] theorem tyU144 : Try.prog.underlying 144 = some (.slice 169) := by kernel_rfl
@[simp] theorem tyS144 : sizeT Try.prog 144 = some 1 := by kernel_rfl
@[simp] theorem tyB144 : bytesT Try.prog 144 = some 24 := by kernel_rfl
@[simp] theorem tyA144 : aggT Try.prog 144 = some false := by kernel_rfl
@[simp] theorem tyZ144 : zeroT Try.prog 144 = some [.nilSlice] := by kernel_rfl
@[simp] theorem tyV144 : zeroV Try.prog 144 = some (.nilSlice) := by kernel_rfl
@[simp] theorem tyE144 : sliceT Try.prog 144 = some 169 := by kernel_rfl
@[simp] theorem tyP144 : placesT Try.prog 144 = none := by kernel_rfl
@[simp] theorem tyS145 : sizeT Try.prog 145 = some 10 := by kernel_rfl
@[simp] theorem tyB145 : bytesT Try.prog 145 = some 112 := by kernel_rfl
@[simp] theorem tyA145 : aggT Try.prog 145 = some true := by kernel_rfl
@[simp] theorem tyZ145 : zeroT Try.prog 145 = some [.int .i64 0, .int .i64 0, .int .i64 0, .nilSlice, .nilSlice, .int .i64 0, .int .i64 0, .int .i64 0, .int .i64 0, .int .i64 0] := by kernel_rfl
@[simp] theorem tyV145 : zeroV Try.prog 145 = some (.agg [.int .i64 0, .int .i64 0, .int .i64 0, .nilSlice, .nilSlice, .int .i64 0, .int .i64 0, .int .i64 0, .int .i64 0, .int .i64 0]) := by kernel_rfl
@[simp] theorem tyP145 : placesT Try.prog 145 = some [(0, 1), (1, 1), (2, 1), (3, 1), (4, 1), (5, 1), (6, 1), (7, 1), (8, 1), (9, 1)] := by kernel_rfl
@[simp] theorem tyF145_0 : fieldT Try.prog 145 0 = some (0, 3) := by kernel_rfl
@[simp] theorem tyF145_1 : fieldT Try.prog 145 1 = some (1, 3) := by kernel_rfl
@[simp] theorem tyF145_2 : fieldT Try.prog 145 2 = some (2, 3) := by kernel_rfl
@[simp] theorem tyF145_3 : fieldT Try.prog 145 3 = some (3, 144) := by kernel_rfl
@[simp] theorem tyF145_4 : fieldT Try.prog 145 4 = some (4, 43) := by kernel_rfl
@[simp] theorem tyF145_5 : fieldT Try.prog 145 5 = some (5, 3) := by kernel_rfl
@[simp] theorem tyF145_6 : fieldT Try.prog 145 6 = some (6, 3) := by kernel_rfl
@[simp] theorem tyF145_7 : fieldT Try.prog 145 7 = some (7, 3) := by kernel_rfl
@[simp] theorem tyF145_8 : fieldT Try.prog 145 8 = some (8, 3) := by kernel_rfl
@[simp] theorem tyF145_9 : fieldT Try.prog 145 9 = some (9, 3) := by kernel_rfl
@[simp] theorem tyS146 : sizeT Try.prog 146 = some 10 := by kernel_rfl
@[simp] theorem tyB146 : bytesT Try.prog 146 = some 112 := by kernel_rfl
@[simp] theorem tyA146 : aggT Try.prog 146 = some true := by kernel_rfl
@[simp] theorem tyZ146 : zeroT Try.prog 146 = some [.int .i64 0, .int .i64 0, .int .i64 0, .nilSlice, .nilSlice, .int .i64 0, .int .i64 0, .int .i64 0, .int .i64 0, .int .i64 0] := by kernel_rfl
@[simp] theorem tyV146 : zeroV Try.prog 146 = some (.agg [.int .i64 0, .int .i64 0, .int .i64 0, .nilSlice, .nilSlice, .int .i64 0, .int .i64 0, .int .i64 0, .int .i64 0, .int .i64 0]) := by kernel_rfl
@[simp] theorem tyP146 : placesT Try.prog 146 = some [(0, 1), (1, 1), (2, 1), (3, 1), (4, 1), (5, 1), (6, 1), (7, 1), (8, 1), (9, 1)] := by kernel_rfl
@[simp] theorem tyF146_0 : fieldT Try.prog 146 0 = some (0, 3) := by kernel_rfl
@[simp] theorem tyF146_1 : fieldT Try.prog 146 1 = some (1, 3) := by kernel_rfl
@[simp] theorem tyF146_2 : fieldT Try.prog 146 2 = some (2, 3) := by kernel_rfl
@[simp] theorem tyF146_3 : fieldT Try.prog 146 3 = some (3, 144) := by kernel_rfl
@[simp] theorem tyF146_4 : fieldT Try.prog 146 4 = some (4, 43) := by kernel_rfl
@[simp] theorem tyF146_5 : fieldT Try.prog 146 5 = some (5, 3) := by kernel_rfl
@[simp] theorem tyF146_6 : fieldT Try.prog 146 6 = some (6, 3) := by kernel_rfl
@[simp] theorem tyF146_7 : fieldT Try.prog 146 7 = some (7, 3) := by kernel_rfl
@[simp] theorem tyF146_8 : fieldT Try.prog 146 8 = some (8, 3) := by kernel_rfl
@[simp] theorem tyF146_9 : fieldT Try.prog 146 9 = some (9, 3) := by kernel_rfl
@[simp] theorem tyU148 : Try.prog.underlying 148 = some (.map 3 126) := by kernel_rfl
@[simp] theorem tyS148 : sizeT Try.prog 148 = some 1 := by kernel_rfl
@[simp] theorem tyB148 : bytesT Try.prog 148 = some 8 := by kernel_rfl
@[simp] theorem tyA148 : aggT Try.prog 148 = some false := by kernel_rfl
@[simp] theorem tyZ148 : zeroT Try.prog 148 = some [.nilMap] := by kernel_rfl
@[simp] theorem tyV148 : zeroV Try.prog 148 = some (.nilMap) := by kernel_rfl
@[simp] theorem tyP148 : placesT Try.prog 148 = none := by kernel_rfl
@[simp] theorem tyU150 : Try.prog.underlying 150 = some (.array 9 5) := by kernel_rfl
@[simp] theorem tyS150 : sizeT Try.prog 150 = some 9 := by kernel_rfl
@[simp] theorem tyB150 : bytesT Try.prog 150 = some 9 := by kernel_rfl
@[simp] theorem tyA150 : aggT Try.prog 150 = some true := by kernel_rfl
@[simp] theorem tyZ150 : zeroT Try.prog 150 = some [.int .u8 0, .int .u8 0, .int .u8 0, .int .u8 0, .int .u8 0, .int .u8 0, .int .u8 0, .int .u8 0, .int .u8 0] := by kernel_rfl
@[simp] theorem tyV150 : zeroV Try.prog 150 = some (.agg [.int .u8 0, .int .u8 0, .int .u8 0, .int .u8 0, .int .u8 0, .int .u8 0, .int .u8 0, .int .u8 0, .int .u8 0]) := by kernel_rfl
@[simp] theorem tyP150 : placesT Try.prog 150 = none := by kernel_rfl
@[simp] theorem tyR150 : arrT Try.prog 150 = some (9, 5) := by kernel_rfl
@[simp] theorem tyU152 : Try.prog.underlying 152 = some (.int .u64) := by kernel_rfl
@[simp] theorem tyS152 : sizeT Try.prog 152 = some 1 := by kernel_rfl
@[simp] theorem tyB152 : bytesT Try.prog 152 = some 8 := by kernel_rfl
@[simp] theorem tyA152 : aggT Try.prog 152 = some false := by kernel_rfl
@[simp] theorem tyZ152 : zeroT Try.prog 152 = some [.int .u64 0] := by kernel_rfl
@[simp] theorem tyV152 : zeroV Try.prog 152 = some (.int .u64 0) := by kernel_rfl
@[simp] theorem tyP152 : placesT Try.prog 152 = none := by kernel_rfl
@[simp] theorem tyU153 : Try.prog.underlying 153 = some (.int .u64) := by kernel_rfl
@[simp] theorem tyS153 : sizeT Try.prog 153 = some 1 := by kernel_rfl
@[simp] theorem tyB153 : bytesT Try.prog 153 = some 8 := by kernel_rfl
@[simp] theorem tyA153 : aggT Try.prog 153 = some false := by kernel_rfl
@[simp] theorem tyZ153 : zeroT Try.prog 153 = some [.int .u64 0] := by kernel_rfl
@[simp] theorem tyV153 : zeroV Try.prog 153 = some (.int .u64 0) := by kernel_rfl
@[simp] theorem tyP153 : placesT Try.prog 153 = none := by kernel_rfl
@[simp] theorem tyS155 : sizeT Try.prog 155 = some 4 := by kernel_rfl
@[simp] theorem tyB155 : bytesT Try.prog 155 = some 40 := by kernel_rfl
@[simp] theorem tyA155 : aggT Try.prog 155 = some true := by kernel_rfl
@[simp] theorem tyZ155 : zeroT Try.prog 155 = some [.nilPtr, .nilPtr, .nilPtr, .str ByteArray.empty] := by kernel_rfl
@[simp] theorem tyV155 : zeroV Try.prog 155 = some (.agg [.nilPtr, .nilPtr, .nilPtr, .str ByteArray.empty]) := by kernel_rfl
@[simp] theorem tyP155 : placesT Try.prog 155 = some [(0, 1), (1, 1), (2, 1), (3, 1)] := by kernel_rfl
@[simp] theorem tyF155_0 : fieldT Try.prog 155 0 = some (0, 17) := by kernel_rfl
@[simp] theorem tyF155_1 : fieldT Try.prog 155 1 = some (1, 17) := by kernel_rfl
@[simp] theorem tyF155_2 : fieldT Try.prog 155 2 = some (2, 17) := by kernel_rfl
@[simp] theorem tyF155_3 : fieldT Try.prog 155 3 = some (3, 9) := by kernel_rfl
@[simp] theorem tyS156 : sizeT Try.prog 156 = some 4 := by kernel_rfl
@[simp] theorem tyB156 : bytesT Try.prog 156 = some 40 := by kernel_rfl
@[simp] theorem tyA156 : aggT Try.prog 156 = some true := by kernel_rfl
@[simp] theorem tyZ156 : zeroT Try.prog 156 = some [.nilPtr, .nilPtr, .nilPtr, .str ByteArray.empty] := by kernel_rfl
@[simp] theorem tyV156 : zeroV Try.prog 156 = some (.agg [.nilPtr, .nilPtr, .nilPtr, .str ByteArray.empty]) := by kernel_rfl
@[simp] theorem tyP156 : placesT Try.prog 156 = some [(0, 1), (1, 1), (2, 1), (3, 1)] := by kernel_rfl
@[simp] theorem tyF156_0 : fieldT Try.prog 156 0 = some (0, 17) := by kernel_rfl
@[simp] theorem tyF156_1 : fieldT Try.prog 156 1 = some (1, 17) := by kernel_rfl
@[simp] theorem tyF156_2 : fieldT Try.prog 156 2 = some (2, 17) := by kernel_rfl
@[simp] theorem tyF156_3 : fieldT Try.prog 156 3 = some (3, 9) := by kernel_rfl
@[simp] theorem tyU160 : Try.prog.underlying 160 = some (.int .u32) := by kernel_rfl
@[simp] theorem tyS160 : sizeT Try.prog 160 = some 1 := by kernel_rfl
@[simp] theorem tyB160 : bytesT Try.prog 160 = some 4 := by kernel_rfl
@[simp] theorem tyA160 : aggT Try.prog 160 = some false := by kernel_rfl
@[simp] theorem tyZ160 : zeroT Try.prog 160 = some [.int .u32 0] := by kernel_rfl
@[simp] theorem tyV160 : zeroV Try.prog 160 = some (.int .u32 0) := by kernel_rfl
@[simp] theorem tyP160 : placesT Try.prog 160 = none := by kernel_rfl
@[simp] theorem tyU161 : Try.prog.underlying 161 = some (.int .u8) := by kernel_rfl
@[simp] theorem tyS161 : sizeT Try.prog 161 = some 1 := by kernel_rfl
@[simp] theorem tyB161 : bytesT Try.prog 161 = some 1 := by kernel_rfl
@[simp] theorem tyA161 : aggT Try.prog 161 = some false := by kernel_rfl
@[simp] theorem tyZ161 : zeroT Try.prog 161 = some [.int .u8 0] := by kernel_rfl
@[simp] theorem tyV161 : zeroV Try.prog 161 = some (.int .u8 0) := by kernel_rfl
@[simp] theorem tyP161 : placesT Try.prog 161 = none := by kernel_rfl
@[simp] theorem tyU162 : Try.prog.underlying 162 = some (.int .u8) := by kernel_rfl
@[simp] theorem tyS162 : sizeT Try.prog 162 = some 1 := by kernel_rfl
@[simp] theorem tyB162 : bytesT Try.prog 162 = some 1 := by kernel_rfl
@[simp] theorem tyA162 : aggT Try.prog 162 = some false := by kernel_rfl
@[simp] theorem tyZ162 : zeroT Try.prog 162 = some [.int .u8 0] := by kernel_rfl
@[simp] theorem tyV162 : zeroV Try.prog 162 = some (.int .u8 0) := by kernel_rfl
@[simp] theorem tyP162 : placesT Try.prog 162 = none := by kernel_rfl
@[simp] theorem tyS163 : sizeT Try.prog 163 = some 1 := by kernel_rfl
@[simp] theorem tyB163 : bytesT Try.prog 163 = some 8 := by kernel_rfl
@[simp] theorem tyA163 : aggT Try.prog 163 = some false := by kernel_rfl
@[simp] theorem tyZ163 : zeroT Try.prog 163 = some [.nilFunc] := by kernel_rfl
@[simp] theorem tyV163 : zeroV Try.prog 163 = some (.nilFunc) := by kernel_rfl
@[simp] theorem tyP163 : placesT Try.prog 163 = none := by kernel_rfl
@[simp] theorem tyU164 : Try.prog.underlying 164 = some (.int .i32) := by kernel_rfl
@[simp] theorem tyS164 : sizeT Try.prog 164 = some 1 := by kernel_rfl
@[simp] theorem tyB164 : bytesT Try.prog 164 = some 4 := by kernel_rfl
@[simp] theorem tyA164 : aggT Try.prog 164 = some false := by kernel_rfl
@[simp] theorem tyZ164 : zeroT Try.prog 164 = some [.int .i32 0] := by kernel_rfl
@[simp] theorem tyV164 : zeroV Try.prog 164 = some (.int .i32 0) := by kernel_rfl
@[simp] theorem tyP164 : placesT Try.prog 164 = none := by kernel_rfl
@[simp] theorem tyU165 : Try.prog.underlying 165 = some (.int .i32) := by kernel_rfl
@[simp] theorem tyS165 : sizeT Try.prog 165 = some 1 := by kernel_rfl
@[simp] theorem tyB165 : bytesT Try.prog 165 = some 4 := by kernel_rfl
@[simp] theorem tyA165 : aggT Try.prog 165 = some false := by kernel_rfl
@[simp] theorem tyZ165 : zeroT Try.prog 165 = some [.int .i32 0] := by kernel_rfl
@[simp] theorem tyV165 : zeroV Try.prog 165 = some (.int .i32 0) := by kernel_rfl
@[simp] theorem tyP165 : placesT Try.prog 165 = none := by kernel_rfl
@[simp] theorem tyS166 : sizeT Try.prog 166 = some 11 := by kernel_rfl
@[simp] theorem tyB166 : bytesT Try.prog 166 = some 48 := by kernel_rfl
@[simp] theorem tyA166 : aggT Try.prog 166 = some true := by kernel_rfl
@[simp] theorem tyZ166 : zeroT Try.prog 166 = some [.int .u64 0, .int .u64 0, .int .u32 0, .int .u8 0, .int .u8 0, .int .u8 0, .int .u8 0, .nilFunc, .nilPtr, .int .i32 0, .int .i32 0] := by kernel_rfl
@[simp] theorem tyV166 : zeroV Try.prog 166 = some (.agg [.int .u64 0, .int .u64 0, .int .u32 0, .int .u8 0, .int .u8 0, .int .u8 0, .int .u8 0, .nilFunc, .nilPtr, .int .i32 0, .int .i32 0]) := by kernel_rfl
@[simp] theorem tyP166 : placesT Try.prog 166 = some [(0, 1), (1, 1), (2, 1), (3, 1), (4, 1), (5, 1), (6, 1), (7, 1), (8, 1), (9, 1), (10, 1)] := by kernel_rfl
@[simp] theorem tyF166_0 : fieldT Try.prog 166 0 = some (0, 12) := by kernel_rfl
@[simp] theorem tyF166_1 : fieldT Try.prog 166 1 = some (1, 12) := by kernel_rfl
@[simp] theorem tyF166_2 : fieldT Try.prog 166 2 = some (2, 160) := by kernel_rfl
@[simp] theorem tyF166_3 : fieldT Try.prog 166 3 = some (3, 161) := by kernel_rfl
@[simp] theorem tyF166_4 : fieldT Try.prog 166 4 = some (4, 5) := by kernel_rfl
@[simp] theorem tyF166_5 : fieldT Try.prog 166 5 = some (5, 5) := by kernel_rfl
@[simp] theorem tyF166_6 : fieldT Try.prog 166 6 = some (6, 162) := by kernel_rfl
@[simp] theorem tyF166_7 : fieldT Try.prog 166 7 = some (7, 163) := by kernel_rfl
@[simp] theorem tyF166_8 : fieldT Try.prog 166 8 = some (8, 122) := by kernel_rfl
@[simp] theorem tyF166_9 : fieldT Try.prog 166 9 = some (9, 164) := by kernel_rfl
@[simp] theorem tyF166_10 : fieldT Try.prog 166 10 = some (10, 165) := by kernel_rfl
@[simp] theorem tyS167 : sizeT Try.prog 167 = some 11 := by kernel_rfl
@[simp] theorem tyB167 : bytesT Try.prog 167 = some 48 := by kernel_rfl
@[simp] theorem tyA167 : aggT Try.prog 167 = some true := by kernel_rfl
@[simp] theorem tyZ167 : zeroT Try.prog 167 = some [.int .u64 0, .int .u64 0, .int .u32 0, .int .u8 0, .int .u8 0, .int .u8 0, .int .u8 0, .nilFunc, .nilPtr, .int .i32 0, .int .i32 0] := by kernel_rfl
@[simp] theorem tyV167 : zeroV Try.prog 167 = some (.agg [.int .u64 0, .int .u64 0, .int .u32 0, .int .u8 0, .int .u8 0, .int .u8 0, .int .u8 0, .nilFunc, .nilPtr, .int .i32 0, .int .i32 0]) := by kernel_rfl
@[simp] theorem tyP167 : placesT Try.prog 167 = some [(0, 1), (1, 1), (2, 1), (3, 1), (4, 1), (5, 1), (6, 1), (7, 1), (8, 1), (9, 1), (10, 1)] := by kernel_rfl
@[simp] theorem tyF167_0 : fieldT Try.prog 167 0 = some (0, 12) := by kernel_rfl
@[simp] theorem tyF167_1 : fieldT Try.prog 167 1 = some (1, 12) := by kernel_rfl
@[simp] theorem tyF167_2 : fieldT Try.prog 167 2 = some (2, 160) := by kernel_rfl
@[simp] theorem tyF167_3 : fieldT Try.prog 167 3 = some (3, 161) := by kernel_rfl
@[simp] theorem tyF167_4 : fieldT Try.prog 167 4 = some (4, 5) := by kernel_rfl
@[simp] theorem tyF167_5 : fieldT Try.prog 167 5 = some (5, 5) := by kernel_rfl
@[simp] theorem tyF167_6 : fieldT Try.prog 167 6 = some (6, 162) := by kernel_rfl
@[simp] theorem tyF167_7 : fieldT Try.prog 167 7 = some (7, 163) := by kernel_rfl
@[simp] theorem tyF167_8 : fieldT Try.prog 167 8 = some (8, 122) := by kernel_rfl
@[simp] theorem tyF167_9 : fieldT Try.prog 167 9 = some (9, 164) := by kernel_rfl
@[simp] theorem tyF167_10 : fieldT Try.prog 167 10 = some (10, 165) := by kernel_rfl
@[simp] theorem tyS168 : sizeT Try.prog 168 = some 2 := by kernel_rfl
@[simp] theorem tyB168 : bytesT Try.prog 168 = some 16 := by kernel_rfl
@[simp] theorem tyA168 : aggT Try.prog 168 = some true := by kernel_rfl
@[simp] theorem tyZ168 : zeroT Try.prog 168 = some [.int .i64 0, .int .i64 0] := by kernel_rfl
@[simp] theorem tyV168 : zeroV Try.prog 168 = some (.agg [.int .i64 0, .int .i64 0]) := by kernel_rfl
@[simp] theorem tyP168 : placesT Try.prog 168 = some [(0, 1), (1, 1)] := by kernel_rfl
@[simp] theorem tyF168_0 : fieldT Try.prog 168 0 = some (0, 3) := by kernel_rfl
@[simp] theorem tyF168_1 : fieldT Try.prog 168 1 = some (1, 3) := by kernel_rfl
@[simp] theorem tyS169 : sizeT Try.prog 169 = some 2 := by kernel_rfl
@[simp] theorem tyB169 : bytesT Try.prog 169 = some 16 := by kernel_rfl
@[simp] theorem tyA169 : aggT Try.prog 169 = some true := by kernel_rfl
@[simp] theorem tyZ169 : zeroT Try.prog 169 = some [.int .i64 0, .int .i64 0] := by kernel_rfl
@[simp] theorem tyV169 : zeroV Try.prog 169 = some (.agg [.int .i64 0, .int .i64 0]) := by kernel_rfl
@[simp] theorem tyP169 : placesT Try.prog 169 = some [(0, 1), (1, 1)] := by kernel_rfl
@[simp] theorem tyF169_0 : fieldT Try.prog 169 0 = some (0, 3) := by kernel_rfl
@[simp] theorem tyF169_1 : fieldT Try.prog 169 1 = some (1, 3) := by kernel_rfl
@[simp] theorem tyS173 : sizeT Try.prog 173 = some 1 := by kernel_rfl
@[simp] theorem tyB173 : bytesT Try.prog 173 = some 16 := by kernel_rfl
@[simp] theorem tyA173 : aggT Try.prog 173 = some false := by kernel_rfl
@[simp] theorem tyZ173 : zeroT Try.prog 173 = some [.nilIface] := by kernel_rfl
@[simp] theorem tyV173 : zeroV Try.prog 173 = some (.nilIface) := by kernel_rfl
@[simp] theorem tyP173 : placesT Try.prog 173 = none := by kernel_rfl
@[simp] theorem tyS174 : sizeT Try.prog 174 = some 1 := by kernel_rfl
@[simp] theorem tyB174 : bytesT Try.prog 174 = some 16 := by kernel_rfl
@[simp] theorem tyA174 : aggT Try.prog 174 = some false := by kernel_rfl
@[simp] theorem tyZ174 : zeroT Try.prog 174 = some [.nilIface] := by kernel_rfl
@[simp] theorem tyV174 : zeroV Try.prog 174 = some (.nilIface) := by kernel_rfl
@[simp] theorem tyP174 : placesT Try.prog 174 = none := by kernel_rfl
/-! 3: laws.FnExactSendRun -/
theorem ok3 : goodFn Try.f3 = true := by kernel_rfl
/-! 4: laws.FnRanges -/
theorem ok4 : goodFn Try.f4 = true := by kernel_rfl
theorem lp4_250 (call : CallF) (n : Nat) (τ : Tm) (H : AH) : evCode Try.prog call n (lp Try.prog 4 250) τ H = evN Try.prog call n 4 500 (sub (Try.f4.body.getD .skip) 200 500) τ H := lp_at Try.func4 250 (by decide) 8 (by decide) (by kernel_rfl) call n τ H
theorem lp4_2050558 (call : CallF) (n : Nat) (τ : Tm) (H : AH) : evCode Try.prog call n (lp Try.prog 4 2050558) τ H = evN Try.prog call n 4 4101116 (sub (Try.f4.body.getD .skip) 200 4101116) τ H := lp_at Try.func4 2050558 (by decide) 21 (by decide) (by kernel_rfl) call n τ H
theorem lp4_4090 (call : CallF) (n : Nat) (τ : Tm) (H : AH) : evCode Try.prog call n (lp Try.prog 4 4090) τ H = evN Try.prog call n 4 8180 (sub (Try.f4.body.getD .skip) 200 8180) τ H := lp_at Try.func4 4090 (by decide) 12 (by decide) (by kernel_rfl) call n τ H
@[simp] theorem dr4_523556 : dr Try.prog 4 523556 = some [(6, 0)] := (dr_eq Try.func4 523556).trans (by kernel_rfl)
@[simp] theorem dr4_262142 : dr Try.prog 4 262142 = some [(33, 26)] := (dr_eq Try.func4 262142).trans (by kernel_rfl)
/-! 5: laws.FnWindow -/
theorem ok5 : goodFn Try.f5 = true := by kernel_rfl
theorem lp5_16378 (call : CallF) (n : Nat) (τ : Tm) (H : AH) : evCode Try.prog call n (lp Try.prog 5 16378) τ H = evN Try.prog call n 5 32756 (sub (Try.f5.body.getD .skip) 200 32756) τ H := lp_at Try.func5 16378 (by decide) 14 (by decide) (by kernel_rfl) call n τ H
@[simp] theorem dr5_2096420 : dr Try.prog 5 2096420 = some [] := (dr_eq Try.func5 2096420).trans (by kernel_rfl)
@[simp] theorem dr5_33542780 : dr Try.prog 5 33542780 = some [] := (dr_eq Try.func5 33542780).trans (by kernel_rfl)
/-! 6: laws.szSendOpS -/
theorem ok6 : goodFn Try.f6 = true := by kernel_rfl
theorem lp6_122 (call : CallF) (n : Nat) (τ : Tm) (H : AH) : evCode Try.prog call n (lp Try.prog 6 122) τ H = evN Try.prog call n 6 244 (sub (Try.f6.body.getD .skip) 200 244) τ H := lp_at Try.func6 122 (by decide) 7 (by decide) (by kernel_rfl) call n τ H
/-! 7: spec.SendRun -/
theorem ok7 : goodFn Try.f7 = true := by kernel_rfl
theorem lp7_250 (call : CallF) (n : Nat) (τ : Tm) (H : AH) : evCode Try.prog call n (lp Try.prog 7 250) τ H = evN Try.prog call n 7 500 (sub (Try.f7.body.getD .skip) 200 500) τ H := lp_at Try.func7 250 (by decide) 8 (by decide) (by kernel_rfl) call n τ H
/-! 8: laws.toSendOpS -/
theorem ok8 : goodFn Try.f8 = true := by kernel_rfl
theorem lp8_58 (call : CallF) (n : Nat) (τ : Tm) (H : AH) : evCode Try.prog call n (lp Try.prog 8 58) τ H = evN Try.prog call n 8 116 (sub (Try.f8.body.getD .skip) 200 116) τ H := lp_at Try.func8 58 (by decide) 6 (by decide) (by kernel_rfl) call n τ H
/-! 9: impl.SendRun -/
theorem ok9 : goodFn Try.f9 = true := by kernel_rfl
theorem lp9_250 (call : CallF) (n : Nat) (τ : Tm) (H : AH) : evCode Try.prog call n (lp Try.prog 9 250) τ H = evN Try.prog call n 9 500 (sub (Try.f9.body.getD .skip) 200 500) τ H := lp_at Try.func9 250 (by decide) 8 (by decide) (by kernel_rfl) call n τ H
@[simp] theorem dr9_65641211 : dr Try.prog 9 65641211 = some [] := (dr_eq Try.func9 65641211).trans (by kernel_rfl)
/-! 10: laws.eqSendObsS -/
theorem ok10 : goodFn Try.f10 = true := by kernel_rfl
theorem lp10_58 (call : CallF) (n : Nat) (τ : Tm) (H : AH) : evCode Try.prog call n (lp Try.prog 10 58) τ H = evN Try.prog call n 10 116 (sub (Try.f10.body.getD .skip) 200 116) τ H := lp_at Try.func10 58 (by decide) 6 (by decide) (by kernel_rfl) call n τ H
@[simp] theorem dr10_1864 : dr Try.prog 10 1864 = some [] := (dr_eq Try.func10 1864).trans (by kernel_rfl)
/-! 11: laws.eqSendOpS -/
theorem ok11 : goodFn Try.f11 = true := by kernel_rfl
theorem lp11_58 (call : CallF) (n : Nat) (τ : Tm) (H : AH) : evCode Try.prog call n (lp Try.prog 11 58) τ H = evN Try.prog call n 11 116 (sub (Try.f11.body.getD .skip) 200 116) τ H := lp_at Try.func11 58 (by decide) 6 (by decide) (by kernel_rfl) call n τ H
@[simp] theorem dr11_1864 : dr Try.prog 11 1864 = some [] := (dr_eq Try.func11 1864).trans (by kernel_rfl)
/-! 12: laws.markSendOpS -/
theorem ok12 : goodFn Try.f12 = true := by kernel_rfl
theorem lp12_26 (call : CallF) (n : Nat) (τ : Tm) (H : AH) : evCode Try.prog call n (lp Try.prog 12 26) τ H = evN Try.prog call n 12 52 (sub (Try.f12.body.getD .skip) 200 52) τ H := lp_at Try.func12 26 (by decide) 5 (by decide) (by kernel_rfl) call n τ H
/-! 13: laws.markSendObsS -/
theorem ok13 : goodFn Try.f13 = true := by kernel_rfl
theorem lp13_26 (call : CallF) (n : Nat) (τ : Tm) (H : AH) : evCode Try.prog call n (lp Try.prog 13 26) τ H = evN Try.prog call n 13 52 (sub (Try.f13.body.getD .skip) 200 52) τ H := lp_at Try.func13 26 (by decide) 5 (by decide) (by kernel_rfl) call n τ H
/-! 14: laws.heldSendObsS -/
theorem ok14 : goodFn Try.f14 = true := by kernel_rfl
theorem lp14_26 (call : CallF) (n : Nat) (τ : Tm) (H : AH) : evCode Try.prog call n (lp Try.prog 14 26) τ H = evN Try.prog call n 14 52 (sub (Try.f14.body.getD .skip) 200 52) τ H := lp_at Try.func14 26 (by decide) 5 (by decide) (by kernel_rfl) call n τ H
/-! 15: impl.RangesAdd -/
theorem ok15 : goodFn Try.f15 = true := by kernel_rfl
/-! 16: spec.RangesAdd -/
theorem ok16 : goodFn Try.f16 = true := by kernel_rfl
theorem lp16_250 (call : CallF) (n : Nat) (τ : Tm) (H : AH) : evCode Try.prog call n (lp Try.prog 16 250) τ H = evN Try.prog call n 16 500 (sub (Try.f16.body.getD .skip) 200 500) τ H := lp_at Try.func16 250 (by decide) 8 (by decide) (by kernel_rfl) call n τ H
/-! 17: laws.sameRanges -/
theorem ok17 : goodFn Try.f17 = true := by kernel_rfl
theorem lp17_58 (call : CallF) (n : Nat) (τ : Tm) (H : AH) : evCode Try.prog call n (lp Try.prog 17 58) τ H = evN Try.prog call n 17 116 (sub (Try.f17.body.getD .skip) 200 116) τ H := lp_at Try.func17 58 (by decide) 6 (by decide) (by kernel_rfl) call n τ H
@[simp] theorem dr17_1864 : dr Try.prog 17 1864 = some [] := (dr_eq Try.func17 1864).trans (by kernel_rfl)
/-! 18: spec.RangesOK -/
theorem ok18 : goodFn Try.f18 = true := by kernel_rfl
/-! 19: impl.RangesHas -/
theorem ok19 : goodFn Try.f19 = true := by kernel_rfl
/-! 20: impl.RangesCount -/
theorem ok20 : goodFn Try.f20 = true := by kernel_rfl
theorem lp20_122 (call : CallF) (n : Nat) (τ : Tm) (H : AH) : evCode Try.prog call n (lp Try.prog 20 122) τ H = evN Try.prog call n 20 244 (sub (Try.f20.body.getD .skip) 200 244) τ H := lp_at Try.func20 122 (by decide) 7 (by decide) (by kernel_rfl) call n τ H
/-! 21: impl.AckFrame -/
theorem ok21 : goodFn Try.f21 = true := by kernel_rfl
/-! 22: impl.FrameBytes -/
theorem ok22 : goodFn Try.f22 = true := by kernel_rfl
/-! 23: impl.ReadFrame -/
theorem ok23 : goodFn Try.f23 = true := by kernel_rfl
@[simp] theorem dr23_1012 : dr Try.prog 23 1012 = some [(4, 6)] := (dr_eq Try.func23 1012).trans (by kernel_rfl)
@[simp] theorem dr23_254 : dr Try.prog 23 254 = some [(4, 6)] := (dr_eq Try.func23 254).trans (by kernel_rfl)
/-! 24: impl.AckedBy -/
theorem ok24 : goodFn Try.f24 = true := by kernel_rfl
theorem lp24_250 (call : CallF) (n : Nat) (τ : Tm) (H : AH) : evCode Try.prog call n (lp Try.prog 24 250) τ H = evN Try.prog call n 24 500 (sub (Try.f24.body.getD .skip) 200 500) τ H := lp_at Try.func24 250 (by decide) 8 (by decide) (by kernel_rfl) call n τ H
/-! 25: impl.RangesFrom -/
theorem ok25 : goodFn Try.f25 = true := by kernel_rfl
theorem lp25_122 (call : CallF) (n : Nat) (τ : Tm) (H : AH) : evCode Try.prog call n (lp Try.prog 25 122) τ H = evN Try.prog call n 25 244 (sub (Try.f25.body.getD .skip) 200 244) τ H := lp_at Try.func25 122 (by decide) 7 (by decide) (by kernel_rfl) call n τ H
/-! 26: laws.sameInts -/
theorem ok26 : goodFn Try.f26 = true := by kernel_rfl
theorem lp26_58 (call : CallF) (n : Nat) (τ : Tm) (H : AH) : evCode Try.prog call n (lp Try.prog 26 58) τ H = evN Try.prog call n 26 116 (sub (Try.f26.body.getD .skip) 200 116) τ H := lp_at Try.func26 58 (by decide) 6 (by decide) (by kernel_rfl) call n τ H
@[simp] theorem dr26_1864 : dr Try.prog 26 1864 = some [] := (dr_eq Try.func26 1864).trans (by kernel_rfl)
/-! 27: spec.DrawCcRun -/
theorem ok27 : goodFn Try.f27 = true := by kernel_rfl
theorem lp27_8186 (call : CallF) (n : Nat) (τ : Tm) (H : AH) : evCode Try.prog call n (lp Try.prog 27 8186) τ H = evN Try.prog call n 27 16372 (sub (Try.f27.body.getD .skip) 200 16372) τ H := lp_at Try.func27 8186 (by decide) 13 (by decide) (by kernel_rfl) call n τ H
@[simp] theorem dr27_523922 : dr Try.prog 27 523922 = none := (dr_eq Try.func27 523922).trans (by kernel_rfl)
/-! 28: spec.CcRun -/
theorem ok28 : goodFn Try.f28 = true := by kernel_rfl
theorem lp28_506 (call : CallF) (n : Nat) (τ : Tm) (H : AH) : evCode Try.prog call n (lp Try.prog 28 506) τ H = evN Try.prog call n 28 1012 (sub (Try.f28.body.getD .skip) 200 1012) τ H := lp_at Try.func28 506 (by decide) 9 (by decide) (by kernel_rfl) call n τ H
/-! 29: impl.CcRun -/
theorem ok29 : goodFn Try.f29 = true := by kernel_rfl
theorem lp29_506 (call : CallF) (n : Nat) (τ : Tm) (H : AH) : evCode Try.prog call n (lp Try.prog 29 506) τ H = evN Try.prog call n 29 1012 (sub (Try.f29.body.getD .skip) 200 1012) τ H := lp_at Try.func29 506 (by decide) 9 (by decide) (by kernel_rfl) call n τ H
/-! 30: laws.szSendOp -/
theorem ok30 : goodFn Try.f30 = true := by kernel_rfl
/-! 31: spec.l07Send).do -/
theorem ok31 : goodFn Try.f31 = true := by kernel_rfl
@[simp] theorem dr31_7549 : dr Try.prog 31 7549 = some [] := (dr_eq Try.func31 7549).trans (by kernel_rfl)
/-! 32: laws.toSendOp -/
theorem ok32 : goodFn Try.f32 = true := by kernel_rfl
/-! 33: impl.sender).write -/
theorem ok33 : goodFn Try.f33 = true := by kernel_rfl
/-! 34: impl.sender).finished -/
theorem ok34 : goodFn Try.f34 = true := by kernel_rfl
/-! 35: impl.sender).pull -/
theorem ok35 : goodFn Try.f35 = true := by kernel_rfl
@[simp] theorem dr35_500 : dr Try.prog 35 500 = some [] := (dr_eq Try.func35 500).trans (by kernel_rfl)
theorem lp35_1018 (call : CallF) (n : Nat) (τ : Tm) (H : AH) : evCode Try.prog call n (lp Try.prog 35 1018) τ H = evN Try.prog call n 35 2036 (sub (Try.f35.body.getD .skip) 200 2036) τ H := lp_at Try.func35 1018 (by decide) 10 (by decide) (by kernel_rfl) call n τ H
/-! 36: impl.sender).heard -/
theorem ok36 : goodFn Try.f36 = true := by kernel_rfl
theorem lp36_506 (call : CallF) (n : Nat) (τ : Tm) (H : AH) : evCode Try.prog call n (lp Try.prog 36 506) τ H = evN Try.prog call n 36 1012 (sub (Try.f36.body.getD .skip) 200 1012) τ H := lp_at Try.func36 506 (by decide) 9 (by decide) (by kernel_rfl) call n τ H
/-! 37: laws.eqSendObs -/
theorem ok37 : goodFn Try.f37 = true := by kernel_rfl
/-! 38: laws.eqSendOp -/
theorem ok38 : goodFn Try.f38 = true := by kernel_rfl
/-! 39: laws.markByteS -/
theorem ok39 : goodFn Try.f39 = true := by kernel_rfl
theorem lp39_26 (call : CallF) (n : Nat) (τ : Tm) (H : AH) : evCode Try.prog call n (lp Try.prog 39 26) τ H = evN Try.prog call n 39 52 (sub (Try.f39.body.getD .skip) 200 52) τ H := lp_at Try.func39 26 (by decide) 5 (by decide) (by kernel_rfl) call n τ H
/-! 40: laws.heldByteS -/
theorem ok40 : goodFn Try.f40 = true := by kernel_rfl
theorem lp40_26 (call : CallF) (n : Nat) (τ : Tm) (H : AH) : evCode Try.prog call n (lp Try.prog 40 26) τ H = evN Try.prog call n 40 52 (sub (Try.f40.body.getD .skip) 200 52) τ H := lp_at Try.func40 26 (by decide) 5 (by decide) (by kernel_rfl) call n τ H
/-! 41: impl.rangesOK -/
theorem ok41 : goodFn Try.f41 = true := by kernel_rfl
theorem lp41_58 (call : CallF) (n : Nat) (τ : Tm) (H : AH) : evCode Try.prog call n (lp Try.prog 41 58) τ H = evN Try.prog call n 41 116 (sub (Try.f41.body.getD .skip) 200 116) τ H := lp_at Try.func41 58 (by decide) 6 (by decide) (by kernel_rfl) call n τ H
@[simp] theorem dr41_7474 : dr Try.prog 41 7474 = some [] := (dr_eq Try.func41 7474).trans (by kernel_rfl)
/-! 42: impl.inVar -/
theorem ok42 : goodFn Try.f42 = true := by kernel_rfl
/-! 43: impl.rangesAdd -/
theorem ok43 : goodFn Try.f43 = true := by kernel_rfl
theorem lp43_250 (call : CallF) (n : Nat) (τ : Tm) (H : AH) : evCode Try.prog call n (lp Try.prog 43 250) τ H = evN Try.prog call n 43 500 (sub (Try.f43.body.getD .skip) 200 500) τ H := lp_at Try.func43 250 (by decide) 8 (by decide) (by kernel_rfl) call n τ H
/-! 44: spec.l05RangesOK -/
theorem ok44 : goodFn Try.f44 = true := by kernel_rfl
theorem lp44_58 (call : CallF) (n : Nat) (τ : Tm) (H : AH) : evCode Try.prog call n (lp Try.prog 44 58) τ H = evN Try.prog call n 44 116 (sub (Try.f44.body.getD .skip) 200 116) τ H := lp_at Try.func44 58 (by decide) 6 (by decide) (by kernel_rfl) call n τ H
@[simp] theorem dr44_3730 : dr Try.prog 44 3730 = some [] := (dr_eq Try.func44 3730).trans (by kernel_rfl)
/-! 45: spec.l05Var -/
theorem ok45 : goodFn Try.f45 = true := by kernel_rfl
/-! 46: spec.l06Join -/
theorem ok46 : goodFn Try.f46 = true := by kernel_rfl
theorem lp46_58 (call : CallF) (n : Nat) (τ : Tm) (H : AH) : evCode Try.prog call n (lp Try.prog 46 58) τ H = evN Try.prog call n 46 116 (sub (Try.f46.body.getD .skip) 200 116) τ H := lp_at Try.func46 58 (by decide) 6 (by decide) (by kernel_rfl) call n τ H
@[simp] theorem dr46_3730 : dr Try.prog 46 3730 = some [] := (dr_eq Try.func46 3730).trans (by kernel_rfl)
@[simp] theorem dr46_7462 : dr Try.prog 46 7462 = some [] := (dr_eq Try.func46 7462).trans (by kernel_rfl)
/-! 47: impl.rangesHas -/
theorem ok47 : goodFn Try.f47 = true := by kernel_rfl
theorem lp47_26 (call : CallF) (n : Nat) (τ : Tm) (H : AH) : evCode Try.prog call n (lp Try.prog 47 26) τ H = evN Try.prog call n 47 52 (sub (Try.f47.body.getD .skip) 200 52) τ H := lp_at Try.func47 26 (by decide) 5 (by decide) (by kernel_rfl) call n τ H
/-! 48: impl.FrameOK -/
theorem ok48 : goodFn Try.f48 = true := by kernel_rfl
/-! 49: impl.frameBytes -/
theorem ok49 : goodFn Try.f49 = true := by kernel_rfl
theorem lp49_30174 (call : CallF) (n : Nat) (τ : Tm) (H : AH) : evCode Try.prog call n (lp Try.prog 49 30174) τ H = evN Try.prog call n 49 60348 (sub (Try.f49.body.getD .skip) 200 60348) τ H := lp_at Try.func49 30174 (by decide) 15 (by decide) (by kernel_rfl) call n τ H
@[simp] theorem dr49_965577 : dr Try.prog 49 965577 = some [] := (dr_eq Try.func49 965577).trans (by kernel_rfl)
@[simp] theorem dr49_60414 : dr Try.prog 49 60414 = some [(5, 0)] := (dr_eq Try.func49 60414).trans (by kernel_rfl)
@[simp] theorem dr49_7733244 : dr Try.prog 49 7733244 = some [] := (dr_eq Try.func49 7733244).trans (by kernel_rfl)
@[simp] theorem dr49_123731964 : dr Try.prog 49 123731964 = none := (dr_eq Try.func49 123731964).trans (by kernel_rfl)
@[simp] theorem dr49_123731965 : dr Try.prog 49 123731965 = some [(5, 0)] := (dr_eq Try.func49 123731965).trans (by kernel_rfl)
@[simp] theorem dr49_989855742 : dr Try.prog 49 989855742 = some [(8, 0), (8, 6)] := (dr_eq Try.func49 989855742).trans (by kernel_rfl)
@[simp] theorem dr49_3959422974 : dr Try.prog 49 3959422974 = some [(5, 0)] := (dr_eq Try.func49 3959422974).trans (by kernel_rfl)
/-! 50: impl.tooLong -/
theorem ok50 : goodFn Try.f50 = true := by kernel_rfl
/-! 51: impl.scanner).frame -/
theorem ok51 : goodFn Try.f51 = true := by kernel_rfl
theorem lp51_4010 (call : CallF) (n : Nat) (τ : Tm) (H : AH) : evCode Try.prog call n (lp Try.prog 51 4010) τ H = evN Try.prog call n 51 8020 (sub (Try.f51.body.getD .skip) 200 8020) τ H := lp_at Try.func51 4010 (by decide) 12 (by decide) (by kernel_rfl) call n τ H
@[simp] theorem dr51_32080 : dr Try.prog 51 32080 = some [] := (dr_eq Try.func51 32080).trans (by kernel_rfl)
/-! 52: spec.l01Source -/
theorem ok52 : goodFn Try.f52 = true := by kernel_rfl
/-! 53: spec.l01Src).next -/
theorem ok53 : goodFn Try.f53 = true := by kernel_rfl
/-! 54: spec.l01Src).chance -/
theorem ok54 : goodFn Try.f54 = true := by kernel_rfl
/-! 55: spec.l01Src).size -/
theorem ok55 : goodFn Try.f55 = true := by kernel_rfl
/-! 56: spec.l09Odd -/
theorem ok56 : goodFn Try.f56 = true := by kernel_rfl
/-! 57: spec.l10New -/
theorem ok57 : goodFn Try.f57 = true := by kernel_rfl
/-! 58: spec.l10Cc).do -/
theorem ok58 : goodFn Try.f58 = true := by kernel_rfl
@[simp] theorem dr58_60 : dr Try.prog 58 60 = some [] := (dr_eq Try.func58 60).trans (by kernel_rfl)
@[simp] theorem dr58_1002 : dr Try.prog 58 1002 = some [] := (dr_eq Try.func58 1002).trans (by kernel_rfl)
@[simp] theorem dr58_8028 : dr Try.prog 58 8028 = some [] := (dr_eq Try.func58 8028).trans (by kernel_rfl)
@[simp] theorem dr58_32124 : dr Try.prog 58 32124 = some [] := (dr_eq Try.func58 32124).trans (by kernel_rfl)
@[simp] theorem dr58_16063 : dr Try.prog 58 16063 = some [] := (dr_eq Try.func58 16063).trans (by kernel_rfl)
/-! 59: impl.newCongestion -/
theorem ok59 : goodFn Try.f59 = true := by kernel_rfl
/-! 60: impl.congestion).do -/
theorem ok60 : goodFn Try.f60 = true := by kernel_rfl
@[simp] theorem dr60_980 : dr Try.prog 60 980 = some [] := (dr_eq Try.func60 980).trans (by kernel_rfl)
@[simp] theorem dr60_124 : dr Try.prog 60 124 = some [] := (dr_eq Try.func60 124).trans (by kernel_rfl)
@[simp] theorem dr60_126 : dr Try.prog 60 126 = some [] := (dr_eq Try.func60 126).trans (by kernel_rfl)
@[simp] theorem dr60_1018 : dr Try.prog 60 1018 = some [] := (dr_eq Try.func60 1018).trans (by kernel_rfl)
@[simp] theorem dr60_1019 : dr Try.prog 60 1019 = some [] := (dr_eq Try.func60 1019).trans (by kernel_rfl)
/-! 61: laws.szByteS -/
theorem ok61 : goodFn Try.f61 = true := by kernel_rfl
/-! 62: spec.l07Send).write -/
theorem ok62 : goodFn Try.f62 = true := by kernel_rfl
theorem lp62_124 (call : CallF) (n : Nat) (τ : Tm) (H : AH) : evCode Try.prog call n (lp Try.prog 62 124) τ H = evN Try.prog call n 62 248 (sub (Try.f62.body.getD .skip) 200 248) τ H := lp_at Try.func62 124 (by decide) 7 (by decide) (by kernel_rfl) call n τ H
@[simp] theorem dr62_992 : dr Try.prog 62 992 = some [] := (dr_eq Try.func62 992).trans (by kernel_rfl)
/-! 63: spec.l07Send).end -/
theorem ok63 : goodFn Try.f63 = true := by kernel_rfl
/-! 64: spec.l07Send).pull -/
theorem ok64 : goodFn Try.f64 = true := by kernel_rfl
@[simp] theorem dr64_244 : dr Try.prog 64 244 = some [] := (dr_eq Try.func64 244).trans (by kernel_rfl)
theorem lp64_2042 (call : CallF) (n : Nat) (τ : Tm) (H : AH) : evCode Try.prog call n (lp Try.prog 64 2042) τ H = evN Try.prog call n 64 4084 (sub (Try.f64.body.getD .skip) 200 4084) τ H := lp_at Try.func64 2042 (by decide) 11 (by decide) (by kernel_rfl) call n τ H
/-! 65: spec.l07Send).heard -/
theorem ok65 : goodFn Try.f65 = true := by kernel_rfl
theorem lp65_250 (call : CallF) (n : Nat) (τ : Tm) (H : AH) : evCode Try.prog call n (lp Try.prog 65 250) τ H = evN Try.prog call n 65 500 (sub (Try.f65.body.getD .skip) 200 500) τ H := lp_at Try.func65 250 (by decide) 8 (by decide) (by kernel_rfl) call n τ H
/-! 66: spec.l07Send).live -/
theorem ok66 : goodFn Try.f66 = true := by kernel_rfl
/-! 67: laws.toByteS -/
theorem ok67 : goodFn Try.f67 = true := by kernel_rfl
theorem lp67_58 (call : CallF) (n : Nat) (τ : Tm) (H : AH) : evCode Try.prog call n (lp Try.prog 67 58) τ H = evN Try.prog call n 67 116 (sub (Try.f67.body.getD .skip) 200 116) τ H := lp_at Try.func67 58 (by decide) 6 (by decide) (by kernel_rfl) call n τ H
/-! 68: impl.sender).open -/
theorem ok68 : goodFn Try.f68 = true := by kernel_rfl
/-! 69: impl.sender).next -/
theorem ok69 : goodFn Try.f69 = true := by kernel_rfl
theorem lp69_58 (call : CallF) (n : Nat) (τ : Tm) (H : AH) : evCode Try.prog call n (lp Try.prog 69 58) τ H = evN Try.prog call n 69 116 (sub (Try.f69.body.getD .skip) 200 116) τ H := lp_at Try.func69 58 (by decide) 6 (by decide) (by kernel_rfl) call n τ H
theorem lp69_29844 (call : CallF) (n : Nat) (τ : Tm) (H : AH) : evCode Try.prog call n (lp Try.prog 69 29844) τ H = evN Try.prog call n 69 59688 (sub (Try.f69.body.getD .skip) 200 59688) τ H := lp_at Try.func69 29844 (by decide) 15 (by decide) (by kernel_rfl) call n τ H
@[simp] theorem dr69_60 : dr Try.prog 69 60 = some [] := (dr_eq Try.func69 60).trans (by kernel_rfl)
@[simp] theorem dr69_492 : dr Try.prog 69 492 = some [] := (dr_eq Try.func69 492).trans (by kernel_rfl)
@[simp] theorem dr69_124 : dr Try.prog 69 124 = some [] := (dr_eq Try.func69 124).trans (by kernel_rfl)
/-! 70: impl.copied -/
theorem ok70 : goodFn Try.f70 = true := by kernel_rfl
/-! 71: impl.sender).heard$1 -/
theorem ok71 : goodFn Try.f71 = true := by kernel_rfl
/-! 72: impl.sender).allAcked -/
theorem ok72 : goodFn Try.f72 = true := by kernel_rfl
theorem lp72_26 (call : CallF) (n : Nat) (τ : Tm) (H : AH) : evCode Try.prog call n (lp Try.prog 72 26) τ H = evN Try.prog call n 72 52 (sub (Try.f72.body.getD .skip) 200 52) τ H := lp_at Try.func72 26 (by decide) 5 (by decide) (by kernel_rfl) call n τ H
/-! 73: laws.eqByteS -/
theorem ok73 : goodFn Try.f73 = true := by kernel_rfl
theorem lp73_58 (call : CallF) (n : Nat) (τ : Tm) (H : AH) : evCode Try.prog call n (lp Try.prog 73 58) τ H = evN Try.prog call n 73 116 (sub (Try.f73.body.getD .skip) 200 116) τ H := lp_at Try.func73 58 (by decide) 6 (by decide) (by kernel_rfl) call n τ H
@[simp] theorem dr73_1864 : dr Try.prog 73 1864 = some [] := (dr_eq Try.func73 1864).trans (by kernel_rfl)
/-! 74: impl.shapeOf -/
theorem ok74 : goodFn Try.f74 = true := by kernel_rfl
/-! 75: impl.addVars -/
theorem ok75 : goodFn Try.f75 = true := by kernel_rfl
theorem lp75_26 (call : CallF) (n : Nat) (τ : Tm) (H : AH) : evCode Try.prog call n (lp Try.prog 75 26) τ H = evN Try.prog call n 75 52 (sub (Try.f75.body.getD .skip) 200 52) τ H := lp_at Try.func75 26 (by decide) 5 (by decide) (by kernel_rfl) call n τ H
/-! 76: impl.addCounted -/
theorem ok76 : goodFn Try.f76 = true := by kernel_rfl
/-! 77: impl.addVar -/
theorem ok77 : goodFn Try.f77 = true := by kernel_rfl
@[simp] theorem dr77_126 : dr Try.prog 77 126 = some [] := (dr_eq Try.func77 126).trans (by kernel_rfl)
/-! 78: impl.scanner).octet -/
theorem ok78 : goodFn Try.f78 = true := by kernel_rfl
/-! 79: impl.scanner).ack -/
theorem ok79 : goodFn Try.f79 = true := by kernel_rfl
theorem lp79_2042 (call : CallF) (n : Nat) (τ : Tm) (H : AH) : evCode Try.prog call n (lp Try.prog 79 2042) τ H = evN Try.prog call n 79 4084 (sub (Try.f79.body.getD .skip) 200 4084) τ H := lp_at Try.func79 2042 (by decide) 11 (by decide) (by kernel_rfl) call n τ H
theorem lp79_4094 (call : CallF) (n : Nat) (τ : Tm) (H : AH) : evCode Try.prog call n (lp Try.prog 79 4094) τ H = evN Try.prog call n 79 8188 (sub (Try.f79.body.getD .skip) 200 8188) τ H := lp_at Try.func79 4094 (by decide) 12 (by decide) (by kernel_rfl) call n τ H
@[simp] theorem dr79_65508 : dr Try.prog 79 65508 = some [(4, 10)] := (dr_eq Try.func79 65508).trans (by kernel_rfl)
/-! 80: impl.scanner).number -/
theorem ok80 : goodFn Try.f80 = true := by kernel_rfl
@[simp] theorem dr80_14 : dr Try.prog 80 14 = some [] := (dr_eq Try.func80 14).trans (by kernel_rfl)
/-! 81: impl.scanner).counted -/
theorem ok81 : goodFn Try.f81 = true := by kernel_rfl
/-! 82: impl.scanner).rest -/
theorem ok82 : goodFn Try.f82 = true := by kernel_rfl
@[simp] theorem dr82_6 : dr Try.prog 82 6 = some [] := (dr_eq Try.func82 6).trans (by kernel_rfl)
/-! 83: impl.scanner).take -/
theorem ok83 : goodFn Try.f83 = true := by kernel_rfl
@[simp] theorem dr83_28 : dr Try.prog 83 28 = some [] := (dr_eq Try.func83 28).trans (by kernel_rfl)
@[simp] theorem dr83_30 : dr Try.prog 83 30 = some [] := (dr_eq Try.func83 30).trans (by kernel_rfl)
/-! 84: impl.scanner).fail -/
theorem ok84 : goodFn Try.f84 = true := by kernel_rfl
/-! 85: spec.l01Src).byte -/
theorem ok85 : goodFn Try.f85 = true := by kernel_rfl
@[simp] theorem dr85_28 : dr Try.prog 85 28 = some [] := (dr_eq Try.func85 28).trans (by kernel_rfl)
@[simp] theorem dr85_116 : dr Try.prog 85 116 = some [] := (dr_eq Try.func85 116).trans (by kernel_rfl)
@[simp] theorem dr85_234 : dr Try.prog 85 234 = some [] := (dr_eq Try.func85 234).trans (by kernel_rfl)
@[simp] theorem dr85_60 : dr Try.prog 85 60 = some [] := (dr_eq Try.func85 60).trans (by kernel_rfl)
/-! 86: spec.l09Time -/
theorem ok86 : goodFn Try.f86 = true := by kernel_rfl
/-! 87: spec.l10Cc).ackLoss -/
theorem ok87 : goodFn Try.f87 = true := by kernel_rfl
@[simp] theorem dr87_12 : dr Try.prog 87 12 = some [] := (dr_eq Try.func87 12).trans (by kernel_rfl)
@[simp] theorem dr87_28 : dr Try.prog 87 28 = some [] := (dr_eq Try.func87 28).trans (by kernel_rfl)
@[simp] theorem dr87_117 : dr Try.prog 87 117 = some [] := (dr_eq Try.func87 117).trans (by kernel_rfl)
@[simp] theorem dr87_238 : dr Try.prog 87 238 = some [] := (dr_eq Try.func87 238).trans (by kernel_rfl)
theorem lp87_478 (call : CallF) (n : Nat) (τ : Tm) (H : AH) : evCode Try.prog call n (lp Try.prog 87 478) τ H = evN Try.prog call n 87 956 (sub (Try.f87.body.getD .skip) 200 956) τ H := lp_at Try.func87 478 (by decide) 9 (by decide) (by kernel_rfl) call n τ H
@[simp] theorem dr87_3824 : dr Try.prog 87 3824 = some [] := (dr_eq Try.func87 3824).trans (by kernel_rfl)
@[simp] theorem dr87_7652 : dr Try.prog 87 7652 = some [] := (dr_eq Try.func87 7652).trans (by kernel_rfl)
/-! 88: spec.l10Cc).ackModel -/
theorem ok88 : goodFn Try.f88 = true := by kernel_rfl
theorem lp88_58 (call : CallF) (n : Nat) (τ : Tm) (H : AH) : evCode Try.prog call n (lp Try.prog 88 58) τ H = evN Try.prog call n 88 116 (sub (Try.f88.body.getD .skip) 200 116) τ H := lp_at Try.func88 58 (by decide) 6 (by decide) (by kernel_rfl) call n τ H
@[simp] theorem dr88_1864 : dr Try.prog 88 1864 = some [] := (dr_eq Try.func88 1864).trans (by kernel_rfl)
@[simp] theorem dr88_30 : dr Try.prog 88 30 = some [(4, 8)] := (dr_eq Try.func88 30).trans (by kernel_rfl)
@[simp] theorem dr88_62 : dr Try.prog 88 62 = some [(4, 8)] := (dr_eq Try.func88 62).trans (by kernel_rfl)
@[simp] theorem dr88_126 : dr Try.prog 88 126 = some [(4, 16)] := (dr_eq Try.func88 126).trans (by kernel_rfl)
@[simp] theorem dr88_508 : dr Try.prog 88 508 = some [] := (dr_eq Try.func88 508).trans (by kernel_rfl)
@[simp] theorem dr88_261982 : dr Try.prog 88 261982 = some [] := (dr_eq Try.func88 261982).trans (by kernel_rfl)
/-! 89: spec.l10Cc).lost -/
theorem ok89 : goodFn Try.f89 = true := by kernel_rfl
@[simp] theorem dr89_12 : dr Try.prog 89 12 = some [] := (dr_eq Try.func89 12).trans (by kernel_rfl)
/-! 90: impl.inTime -/
theorem ok90 : goodFn Try.f90 = true := by kernel_rfl
/-! 91: impl.congestion).may -/
theorem ok91 : goodFn Try.f91 = true := by kernel_rfl
@[simp] theorem dr91_6 : dr Try.prog 91 6 = some [(3, 8)] := (dr_eq Try.func91 6).trans (by kernel_rfl)
/-! 92: spec.l07Send).piece -/
theorem ok92 : goodFn Try.f92 = true := by kernel_rfl
theorem lp92_58 (call : CallF) (n : Nat) (τ : Tm) (H : AH) : evCode Try.prog call n (lp Try.prog 92 58) τ H = evN Try.prog call n 92 116 (sub (Try.f92.body.getD .skip) 200 116) τ H := lp_at Try.func92 58 (by decide) 6 (by decide) (by kernel_rfl) call n τ H
theorem lp92_29844 (call : CallF) (n : Nat) (τ : Tm) (H : AH) : evCode Try.prog call n (lp Try.prog 92 29844) τ H = evN Try.prog call n 92 59688 (sub (Try.f92.body.getD .skip) 200 59688) τ H := lp_at Try.func92 29844 (by decide) 15 (by decide) (by kernel_rfl) call n τ H
@[simp] theorem dr92_30 : dr Try.prog 92 30 = some [] := (dr_eq Try.func92 30).trans (by kernel_rfl)
@[simp] theorem dr92_500 : dr Try.prog 92 500 = some [] := (dr_eq Try.func92 500).trans (by kernel_rfl)
@[simp] theorem dr92_252 : dr Try.prog 92 252 = some [] := (dr_eq Try.func92 252).trans (by kernel_rfl)
@[simp] theorem dr92_1012 : dr Try.prog 92 1012 = some [] := (dr_eq Try.func92 1012).trans (by kernel_rfl)
/-! 93: spec.l03Copy -/
theorem ok93 : goodFn Try.f93 = true := by kernel_rfl
/-! 94: impl.VarLen -/
theorem ok94 : goodFn Try.f94 = true := by kernel_rfl
/-! 95: impl.fixed -/
theorem ok95 : goodFn Try.f95 = true := by kernel_rfl
theorem lp95_26 (call : CallF) (n : Nat) (τ : Tm) (H : AH) : evCode Try.prog call n (lp Try.prog 95 26) τ H = evN Try.prog call n 95 52 (sub (Try.f95.body.getD .skip) 200 52) τ H := lp_at Try.func95 26 (by decide) 5 (by decide) (by kernel_rfl) call n τ H
/-! 96: impl.GetVar -/
theorem ok96 : goodFn Try.f96 = true := by kernel_rfl
@[simp] theorem dr96_254 : dr Try.prog 96 254 = some [] := (dr_eq Try.func96 254).trans (by kernel_rfl)
/-! 97: spec.l10Cc).bandwidth -/
theorem ok97 : goodFn Try.f97 = true := by kernel_rfl
theorem lp97_58 (call : CallF) (n : Nat) (τ : Tm) (H : AH) : evCode Try.prog call n (lp Try.prog 97 58) τ H = evN Try.prog call n 97 116 (sub (Try.f97.body.getD .skip) 200 116) τ H := lp_at Try.func97 58 (by decide) 6 (by decide) (by kernel_rfl) call n τ H
/-! 98: spec.l10Cc).product -/
theorem ok98 : goodFn Try.f98 = true := by kernel_rfl
@[simp] theorem dr98_28 : dr Try.prog 98 28 = some [] := (dr_eq Try.func98 28).trans (by kernel_rfl)
/-! 99: impl.congestion).window -/
theorem ok99 : goodFn Try.f99 = true := by kernel_rfl
/-! 100: impl.unfixed -/
theorem ok100 : goodFn Try.f100 = true := by kernel_rfl
theorem lp100_58 (call : CallF) (n : Nat) (τ : Tm) (H : AH) : evCode Try.prog call n (lp Try.prog 100 58) τ H = evN Try.prog call n 100 116 (sub (Try.f100.body.getD .skip) 200 116) τ H := lp_at Try.func100 58 (by decide) 6 (by decide) (by kernel_rfl) call n τ H
/-! 116: impl.lossRule).acked -/
theorem ok116 : goodFn Try.f116 = true := by kernel_rfl
@[simp] theorem dr116_12 : dr Try.prog 116 12 = some [] := (dr_eq Try.func116 12).trans (by kernel_rfl)
@[simp] theorem dr116_28 : dr Try.prog 116 28 = some [] := (dr_eq Try.func116 28).trans (by kernel_rfl)
@[simp] theorem dr116_117 : dr Try.prog 116 117 = some [] := (dr_eq Try.func116 117).trans (by kernel_rfl)
@[simp] theorem dr116_238 : dr Try.prog 116 238 = some [] := (dr_eq Try.func116 238).trans (by kernel_rfl)
theorem lp116_478 (call : CallF) (n : Nat) (τ : Tm) (H : AH) : evCode Try.prog call n (lp Try.prog 116 478) τ H = evN Try.prog call n 116 956 (sub (Try.f116.body.getD .skip) 200 956) τ H := lp_at Try.func116 478 (by decide) 9 (by decide) (by kernel_rfl) call n τ H
@[simp] theorem dr116_3824 : dr Try.prog 116 3824 = some [] := (dr_eq Try.func116 3824).trans (by kernel_rfl)
@[simp] theorem dr116_7652 : dr Try.prog 116 7652 = some [] := (dr_eq Try.func116 7652).trans (by kernel_rfl)
/-! 117: impl.lossRule).lost -/
theorem ok117 : goodFn Try.f117 = true := by kernel_rfl
@[simp] theorem dr117_12 : dr Try.prog 117 12 = some [] := (dr_eq Try.func117 12).trans (by kernel_rfl)
/-! 118: impl.lossRule).tells -/
theorem ok118 : goodFn Try.f118 = true := by kernel_rfl
@[simp] theorem dr118_6 : dr Try.prog 118 6 = some [] := (dr_eq Try.func118 6).trans (by kernel_rfl)
/-! 119: impl.modelRule).acked -/
theorem ok119 : goodFn Try.f119 = true := by kernel_rfl
theorem lp119_58 (call : CallF) (n : Nat) (τ : Tm) (H : AH) : evCode Try.prog call n (lp Try.prog 119 58) τ H = evN Try.prog call n 119 116 (sub (Try.f119.body.getD .skip) 200 116) τ H := lp_at Try.func119 58 (by decide) 6 (by decide) (by kernel_rfl) call n τ H
@[simp] theorem dr119_30 : dr Try.prog 119 30 = some [(4, 11)] := (dr_eq Try.func119 30).trans (by kernel_rfl)
@[simp] theorem dr119_62 : dr Try.prog 119 62 = some [(4, 16)] := (dr_eq Try.func119 62).trans (by kernel_rfl)
@[simp] theorem dr119_508 : dr Try.prog 119 508 = some [] := (dr_eq Try.func119 508).trans (by kernel_rfl)
@[simp] theorem dr119_261818 : dr Try.prog 119 261818 = some [(4, 8), (4, 11)] := (dr_eq Try.func119 261818).trans (by kernel_rfl)
@[simp] theorem dr119_523644 : dr Try.prog 119 523644 = some [] := (dr_eq Try.func119 523644).trans (by kernel_rfl)
/-! 120: impl.modelRule).bandwidth -/
theorem ok120 : goodFn Try.f120 = true := by kernel_rfl
theorem lp120_58 (call : CallF) (n : Nat) (τ : Tm) (H : AH) : evCode Try.prog call n (lp Try.prog 120 58) τ H = evN Try.prog call n 120 116 (sub (Try.f120.body.getD .skip) 200 116) τ H := lp_at Try.func120 58 (by decide) 6 (by decide) (by kernel_rfl) call n τ H
/-! 121: impl.modelRule).lost -/
theorem ok121 : goodFn Try.f121 = true := by kernel_rfl
/-! 122: impl.modelRule).tells -/
theorem ok122 : goodFn Try.f122 = true := by kernel_rfl
@[simp] theorem dr122_6 : dr Try.prog 122 6 = some [] := (dr_eq Try.func122 6).trans (by kernel_rfl)
/-! 123: impl.modelRule).product -/
theorem ok123 : goodFn Try.f123 = true := by kernel_rfl
@[simp] theorem dr123_6 : dr Try.prog 123 6 = some [(6, 0), (7, 0)] := (dr_eq Try.func123 6).trans (by kernel_rfl)
/-! 124: bits.Mul64 -/
theorem ok124 : goodFn Try.f124 = true := by kernel_rfl
/-! 125: bits.Div64 -/
theorem ok125 : goodFn Try.f125 = true := by kernel_rfl
@[simp] theorem dr125_244 : dr Try.prog 125 244 = some [] := (dr_eq Try.func125 244).trans (by kernel_rfl)
theorem lp125_131068 (call : CallF) (n : Nat) (τ : Tm) (H : AH) : evCode Try.prog call n (lp Try.prog 125 131068) τ H = evN Try.prog call n 125 262136 (sub (Try.f125.body.getD .skip) 200 262136) τ H := lp_at Try.func125 131068 (by decide) 17 (by decide) (by kernel_rfl) call n τ H
theorem lp125_2097148 (call : CallF) (n : Nat) (τ : Tm) (H : AH) : evCode Try.prog call n (lp Try.prog 125 2097148) τ H = evN Try.prog call n 125 4194296 (sub (Try.f125.body.getD .skip) 200 4194296) τ H := lp_at Try.func125 2097148 (by decide) 21 (by decide) (by kernel_rfl) call n τ H
/-! 126: bits.LeadingZeros64 -/
theorem ok126 : goodFn Try.f126 = true := by kernel_rfl
/-! 127: bits.Len64 -/
theorem ok127 : goodFn Try.f127 = true := by kernel_rfl
end Go.Ev
