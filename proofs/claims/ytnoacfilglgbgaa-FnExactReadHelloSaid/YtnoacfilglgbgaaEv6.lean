/- Lemmas of an evaluator of the given code and of what the functions answer; no condition of its own. -/
import Derived.Test.YtnoacfilglgbgaaEv5
import Derived.Test.YtnoacfilglgbgaaProg
import Derived.KernelRfl
/- Facts of the translation, for the evaluator: written by a program of this session (facts.py). -/
namespace Go.Ev
open Go Go.Proofs
set_option linter.unusedVariables false
@[simp] theorem tyS1 : sizeT Try.prog 1 = some 1 := by kernel_rfl
@[simp] theorem tyB1 : bytesT Try.prog 1 = some 8 := by kernel_rfl
@[simp] theorem tyA1 : aggT Try.prog 1 = some false := by kernel_rfl
@[simp] theorem tyZ1 : zeroT Try.prog 1 = some [.nilFunc] := by kernel_rfl
@[simp] theorem tyV1 : zeroV Try.prog 1 = some (.nilFunc) := by kernel_rfl
@[simp] theorem tyP1 : placesT Try.prog 1 = none := by kernel_rfl
@[simp] theorem tyU2 : Try.prog.underlying 2 = some (.int .i64) := by kernel_rfl
@[simp] theorem tyS2 : sizeT Try.prog 2 = some 1 := by kernel_rfl
@[simp] theorem tyB2 : bytesT Try.prog 2 = some 8 := by kernel_rfl
@[simp] theorem tyA2 : aggT Try.prog 2 = some false := by kernel_rfl
@[simp] theorem tyZ2 : zeroT Try.prog 2 = some [.int .i64 0] := by kernel_rfl
@[simp] theorem tyV2 : zeroV Try.prog 2 = some (.int .i64 0) := by kernel_rfl
@[simp] theorem tyP2 : placesT Try.prog 2 = none := by kernel_rfl
@[simp] theorem tyU3 : Try.prog.underlying 3 = some (.int .i64) := by kernel_rfl
@[simp] theorem tyS3 : sizeT Try.prog 3 = some 1 := by kernel_rfl
@[simp] theorem tyB3 : bytesT Try.prog 3 = some 8 := by kernel_rfl
@[simp] theorem tyA3 : aggT Try.prog 3 = some false := by kernel_rfl
@[simp] theorem tyZ3 : zeroT Try.prog 3 = some [.int .i64 0] := by kernel_rfl
@[simp] theorem tyV3 : zeroV Try.prog 3 = some (.int .i64 0) := by kernel_rfl
@[simp] theorem tyP3 : placesT Try.prog 3 = none := by kernel_rfl
@[simp] theorem tyU4 : Try.prog.underlying 4 = some (.bool) := by kernel_rfl
@[simp] theorem tyS4 : sizeT Try.prog 4 = some 1 := by kernel_rfl
@[simp] theorem tyB4 : bytesT Try.prog 4 = some 1 := by kernel_rfl
@[simp] theorem tyA4 : aggT Try.prog 4 = some false := by kernel_rfl
@[simp] theorem tyZ4 : zeroT Try.prog 4 = some [.bool false] := by kernel_rfl
@[simp] theorem tyV4 : zeroV Try.prog 4 = some (.bool false) := by kernel_rfl
@[simp] theorem tyP4 : placesT Try.prog 4 = none := by kernel_rfl
@[simp] theorem tyU5 : Try.prog.underlying 5 = some (.int .u8) := by kernel_rfl
@[simp] theorem tyS5 : sizeT Try.prog 5 = some 1 := by kernel_rfl
@[simp] theorem tyB5 : bytesT Try.prog 5 = some 1 := by kernel_rfl
@[simp] theorem tyA5 : aggT Try.prog 5 = some false := by kernel_rfl
@[simp] theorem tyZ5 : zeroT Try.prog 5 = some [.int .u8 0] := by kernel_rfl
@[simp] theorem tyV5 : zeroV Try.prog 5 = some (.int .u8 0) := by kernel_rfl
@[simp] theorem tyP5 : placesT Try.prog 5 = none := by kernel_rfl
@[simp] theorem tyU6 : Try.prog.underlying 6 = some (.int .u8) := by kernel_rfl
@[simp] theorem tyS6 : sizeT Try.prog 6 = some 1 := by kernel_rfl
@[simp] theorem tyB6 : bytesT Try.prog 6 = some 1 := by kernel_rfl
@[simp] theorem tyA6 : aggT Try.prog 6 = some false := by kernel_rfl
@[simp] theorem tyZ6 : zeroT Try.prog 6 = some [.int .u8 0] := by kernel_rfl
@[simp] theorem tyV6 : zeroV Try.prog 6 = some (.int .u8 0) := by kernel_rfl
@[simp] theorem tyP6 : placesT Try.prog 6 = none := by kernel_rfl
@[simp] theorem tyS7 : sizeT Try.prog 7 = some 4 := by kernel_rfl
@[simp] theorem tyB7 : bytesT Try.prog 7 = some 24 := by kernel_rfl
@[simp] theorem tyA7 : aggT Try.prog 7 = some true := by kernel_rfl
@[simp] theorem tyZ7 : zeroT Try.prog 7 = some [.int .i64 0, .int .i64 0, .bool false, .int .u8 0] := by kernel_rfl
@[simp] theorem tyV7 : zeroV Try.prog 7 = some (.agg [.int .i64 0, .int .i64 0, .bool false, .int .u8 0]) := by kernel_rfl
@[simp] theorem tyP7 : placesT Try.prog 7 = some [(0, 1), (1, 1), (2, 1), (3, 1)] := by kernel_rfl
@[simp] theorem tyF7_0 : fieldT Try.prog 7 0 = some (0, 2) := by kernel_rfl
@[simp] theorem tyF7_1 : fieldT Try.prog 7 1 = some (1, 3) := by kernel_rfl
@[simp] theorem tyF7_2 : fieldT Try.prog 7 2 = some (2, 4) := by kernel_rfl
@[simp] theorem tyF7_3 : fieldT Try.prog 7 3 = some (3, 6) := by kernel_rfl
@[simp] theorem tyS8 : sizeT Try.prog 8 = some 4 := by kernel_rfl
@[simp] theorem tyB8 : bytesT Try.prog 8 = some 24 := by kernel_rfl
@[simp] theorem tyA8 : aggT Try.prog 8 = some true := by kernel_rfl
@[simp] theorem tyZ8 : zeroT Try.prog 8 = some [.int .i64 0, .int .i64 0, .bool false, .int .u8 0] := by kernel_rfl
@[simp] theorem tyV8 : zeroV Try.prog 8 = some (.agg [.int .i64 0, .int .i64 0, .bool false, .int .u8 0]) := by kernel_rfl
@[simp] theorem tyP8 : placesT Try.prog 8 = some [(0, 1), (1, 1), (2, 1), (3, 1)] := by kernel_rfl
@[simp] theorem tyF8_0 : fieldT Try.prog 8 0 = some (0, 2) := by kernel_rfl
@[simp] theorem tyF8_1 : fieldT Try.prog 8 1 = some (1, 3) := by kernel_rfl
@[simp] theorem tyF8_2 : fieldT Try.prog 8 2 = some (2, 4) := by kernel_rfl
@[simp] theorem tyF8_3 : fieldT Try.prog 8 3 = some (3, 6) := by kernel_rfl
@[simp] theorem tyU9 : Try.prog.underlying 9 = some (.string) := by kernel_rfl
@[simp] theorem tyS9 : sizeT Try.prog 9 = some 1 := by kernel_rfl
@[simp] theorem tyB9 : bytesT Try.prog 9 = some 16 := by kernel_rfl
@[simp] theorem tyA9 : aggT Try.prog 9 = some false := by kernel_rfl
@[simp] theorem tyZ9 : zeroT Try.prog 9 = some [.str ByteArray.empty] := by kernel_rfl
@[simp] theorem tyV9 : zeroV Try.prog 9 = some (.str ByteArray.empty) := by kernel_rfl
@[simp] theorem tyP9 : placesT Try.prog 9 = none := by kernel_rfl
@[simp] theorem tyU10 : Try.prog.underlying 10 = some (.string) := by kernel_rfl
@[simp] theorem tyS10 : sizeT Try.prog 10 = some 1 := by kernel_rfl
@[simp] theorem tyB10 : bytesT Try.prog 10 = some 16 := by kernel_rfl
@[simp] theorem tyA10 : aggT Try.prog 10 = some false := by kernel_rfl
@[simp] theorem tyZ10 : zeroT Try.prog 10 = some [.str ByteArray.empty] := by kernel_rfl
@[simp] theorem tyV10 : zeroV Try.prog 10 = some (.str ByteArray.empty) := by kernel_rfl
@[simp] theorem tyP10 : placesT Try.prog 10 = none := by kernel_rfl
@[simp] theorem tyU11 : Try.prog.underlying 11 = some (.string) := by kernel_rfl
@[simp] theorem tyS11 : sizeT Try.prog 11 = some 1 := by kernel_rfl
@[simp] theorem tyB11 : bytesT Try.prog 11 = some 16 := by kernel_rfl
@[simp] theorem tyA11 : aggT Try.prog 11 = some false := by kernel_rfl
@[simp] theorem tyZ11 : zeroT Try.prog 11 = some [.str ByteArray.empty] := by kernel_rfl
@[simp] theorem tyV11 : zeroV Try.prog 11 = some (.str ByteArray.empty) := by kernel_rfl
@[simp] theorem tyP11 : placesT Try.prog 11 = none := by kernel_rfl
@[simp] theorem tyU12 : Try.prog.underlying 12 = some (.int .u64) := by kernel_rfl
@[simp] theorem tyS12 : sizeT Try.prog 12 = some 1 := by kernel_rfl
@[simp] theorem tyB12 : bytesT Try.prog 12 = some 8 := by kernel_rfl
@[simp] theorem tyA12 : aggT Try.prog 12 = some false := by kernel_rfl
@[simp] theorem tyZ12 : zeroT Try.prog 12 = some [.int .u64 0] := by kernel_rfl
@[simp] theorem tyV12 : zeroV Try.prog 12 = some (.int .u64 0) := by kernel_rfl
@[simp] theorem tyP12 : placesT Try.prog 12 = none := by kernel_rfl
@[simp] theorem tyS13 : sizeT Try.prog 13 = some 2 := by kernel_rfl
@[simp] theorem tyB13 : bytesT Try.prog 13 = some 24 := by kernel_rfl
@[simp] theorem tyA13 : aggT Try.prog 13 = some true := by kernel_rfl
@[simp] theorem tyZ13 : zeroT Try.prog 13 = some [.str ByteArray.empty, .int .u64 0] := by kernel_rfl
@[simp] theorem tyV13 : zeroV Try.prog 13 = some (.agg [.str ByteArray.empty, .int .u64 0]) := by kernel_rfl
@[simp] theorem tyP13 : placesT Try.prog 13 = some [(0, 1), (1, 1)] := by kernel_rfl
@[simp] theorem tyF13_0 : fieldT Try.prog 13 0 = some (0, 9) := by kernel_rfl
@[simp] theorem tyF13_1 : fieldT Try.prog 13 1 = some (1, 12) := by kernel_rfl
@[simp] theorem tyS14 : sizeT Try.prog 14 = some 2 := by kernel_rfl
@[simp] theorem tyB14 : bytesT Try.prog 14 = some 24 := by kernel_rfl
@[simp] theorem tyA14 : aggT Try.prog 14 = some true := by kernel_rfl
@[simp] theorem tyZ14 : zeroT Try.prog 14 = some [.str ByteArray.empty, .int .u64 0] := by kernel_rfl
@[simp] theorem tyV14 : zeroV Try.prog 14 = some (.agg [.str ByteArray.empty, .int .u64 0]) := by kernel_rfl
@[simp] theorem tyP14 : placesT Try.prog 14 = some [(0, 1), (1, 1)] := by kernel_rfl
@[simp] theorem tyF14_0 : fieldT Try.prog 14 0 = some (0, 9) := by kernel_rfl
@[simp] theorem tyF14_1 : fieldT Try.prog 14 1 = some (1, 12) := by kernel_rfl
@[simp] theorem tyU15 : Try.prog.underlying 15 = some (.pointer 346) := by kernel_rfl
@[simp] theorem tyS15 : sizeT Try.prog 15 = some 1 := by kernel_rfl
@[simp] theorem tyB15 : bytesT Try.prog 15 = some 8 := by kernel_rfl
@[simp] theorem tyA15 : aggT Try.prog 15 = some false := by kernel_rfl
@[simp] theorem tyZ15 : zeroT Try.prog 15 = some [.nilPtr] := by kernel_rfl
@[simp] theorem tyV15 : zeroV Try.prog 15 = some (.nilPtr) := by kernel_rfl
@[simp] theorem tyP15 : placesT Try.prog 15 = none := by kernel_rfl
@[simp] theorem tyU17 : Try.prog.underlying 17 = some (.pointer 357) := by kernel_rfl
@[simp] theorem tyS17 : sizeT Try.prog 17 = some 1 := by kernel_rfl
@[simp] theorem tyB17 : bytesT Try.prog 17 = some 8 := by kernel_rfl
@[simp] theorem tyA17 : aggT Try.prog 17 = some false := by kernel_rfl
@[simp] theorem tyZ17 : zeroT Try.prog 17 = some [.nilPtr] := by kernel_rfl
@[simp] theorem tyV17 : zeroV Try.prog 17 = some (.nilPtr) := by kernel_rfl
@[simp] theorem tyP17 : placesT Try.prog 17 = none := by kernel_rfl
@[simp] theorem tyU21 : Try.prog.underlying 21 = some (.int .i32) := by kernel_rfl
@[simp] theorem tyS21 : sizeT Try.prog 21 = some 1 := by kernel_rfl
@[simp] theorem tyB21 : bytesT Try.prog 21 = some 4 := by kernel_rfl
@[simp] theorem tyA21 : aggT Try.prog 21 = some false := by kernel_rfl
@[simp] theorem tyZ21 : zeroT Try.prog 21 = some [.int .i32 0] := by kernel_rfl
@[simp] theorem tyV21 : zeroV Try.prog 21 = some (.int .i32 0) := by kernel_rfl
@[simp] theorem tyP21 : placesT Try.prog 21 = none := by kernel_rfl
@[simp] theorem tyU22 : Try.prog.underlying 22 = some (.slice 143) := by kernel_rfl
@[simp] theorem tyS22 : sizeT Try.prog 22 = some 1 := by kernel_rfl
@[simp] theorem tyB22 : bytesT Try.prog 22 = some 24 := by kernel_rfl
@[simp] theorem tyA22 : aggT Try.prog 22 = some false := by kernel_rfl
@[simp] theorem tyZ22 : zeroT Try.prog 22 = some [.nilSlice] := by kernel_rfl
@[simp] theorem tyV22 : zeroV Try.prog 22 = some (.nilSlice) := by kernel_rfl
@[simp] theorem tyE22 : sliceT Try.prog 22 = some 143 := by kernel_rfl
@[simp] theorem tyP22 : placesT Try.prog 22 = none := by kernel_rfl
@[simp] theorem tyU24 : Try.prog.underlying 24 = some (.slice 38) := by kernel_rfl
@[simp] theorem tyS24 : sizeT Try.prog 24 = some 1 := by kernel_rfl
@[simp] theorem tyB24 : bytesT Try.prog 24 = some 24 := by kernel_rfl
@[simp] theorem tyA24 : aggT Try.prog 24 = some false := by kernel_rfl
@[simp] theorem tyZ24 : zeroT Try.prog 24 = some [.nilSlice] := by kernel_rfl
@[simp] theorem tyV24 : zeroV Try.prog 24 = some (.nilSlice) := by kernel_rfl
@[simp] theorem tyE24 : sliceT Try.prog 24 = some 38 := by kernel_rfl
@[simp] theorem tyP24 : placesT Try.prog 24 = none := by kernel_rfl
@[simp] theorem tyU27 : Try.prog.underlying 27 = some (.slice 40) := by kernel_rfl
@[simp] theorem tyS27 : sizeT Try.prog 27 = some 1 := by kernel_rfl
@[simp] theorem tyB27 : bytesT Try.prog 27 = some 24 := by kernel_rfl
@[simp] theorem tyA27 : aggT Try.prog 27 = some false := by kernel_rfl
@[simp] theorem tyZ27 : zeroT Try.prog 27 = some [.nilSlice] := by kernel_rfl
@[simp] theorem tyV27 : zeroV Try.prog 27 = some (.nilSlice) := by kernel_rfl
@[simp] theorem tyE27 : sliceT Try.prog 27 = some 40 := by kernel_rfl
@[simp] theorem tyP27 : placesT Try.prog 27 = none := by kernel_rfl
@[simp] theorem tyU34 : Try.prog.underlying 34 = some (.slice 5) := by kernel_rfl
@[simp] theorem tyS34 : sizeT Try.prog 34 = some 1 := by kernel_rfl
@[simp] theorem tyB34 : bytesT Try.prog 34 = some 24 := by kernel_rfl
@[simp] theorem tyA34 : aggT Try.prog 34 = some false := by kernel_rfl
@[simp] theorem tyZ34 : zeroT Try.prog 34 = some [.nilSlice] := by kernel_rfl
@[simp] theorem tyV34 : zeroV Try.prog 34 = some (.nilSlice) := by kernel_rfl
@[simp] theorem tyE34 : sliceT Try.prog 34 = some 5 := by kernel_rfl
@[simp] theorem tyP34 : placesT Try.prog 34 = none := by kernel_rfl
@[simp] theorem tyS37 : sizeT Try.prog 37 = some 6 := by kernel_rfl
@[simp] theorem tyB37 : bytesT Try.prog 37 = some 48 := by kernel_rfl
@[simp] theorem tyA37 : aggT Try.prog 37 = some true := by kernel_rfl
@[simp] theorem tyZ37 : zeroT Try.prog 37 = some [.int .i64 0, .int .i64 0, .int .i64 0, .int .i64 0, .int .i64 0, .bool false] := by kernel_rfl
@[simp] theorem tyV37 : zeroV Try.prog 37 = some (.agg [.int .i64 0, .int .i64 0, .int .i64 0, .int .i64 0, .int .i64 0, .bool false]) := by kernel_rfl
@[simp] theorem tyP37 : placesT Try.prog 37 = some [(0, 1), (1, 1), (2, 1), (3, 1), (4, 1), (5, 1)] := by kernel_rfl
@[simp] theorem tyF37_0 : fieldT Try.prog 37 0 = some (0, 3) := by kernel_rfl
@[simp] theorem tyF37_1 : fieldT Try.prog 37 1 = some (1, 3) := by kernel_rfl
@[simp] theorem tyF37_2 : fieldT Try.prog 37 2 = some (2, 3) := by kernel_rfl
@[simp] theorem tyF37_3 : fieldT Try.prog 37 3 = some (3, 3) := by kernel_rfl
@[simp] theorem tyF37_4 : fieldT Try.prog 37 4 = some (4, 3) := by kernel_rfl
@[simp] theorem tyF37_5 : fieldT Try.prog 37 5 = some (5, 4) := by kernel_rfl
@[simp] theorem tyS38 : sizeT Try.prog 38 = some 6 := by kernel_rfl
@[simp] theorem tyB38 : bytesT Try.prog 38 = some 48 := by kernel_rfl
@[simp] theorem tyA38 : aggT Try.prog 38 = some true := by kernel_rfl
@[simp] theorem tyZ38 : zeroT Try.prog 38 = some [.int .i64 0, .int .i64 0, .int .i64 0, .int .i64 0, .int .i64 0, .bool false] := by kernel_rfl
@[simp] theorem tyV38 : zeroV Try.prog 38 = some (.agg [.int .i64 0, .int .i64 0, .int .i64 0, .int .i64 0, .int .i64 0, .bool false]) := by kernel_rfl
@[simp] theorem tyP38 : placesT Try.prog 38 = some [(0, 1), (1, 1), (2, 1), (3, 1), (4, 1), (5, 1)] := by kernel_rfl
@[simp] theorem tyF38_0 : fieldT Try.prog 38 0 = some (0, 3) := by kernel_rfl
@[simp] theorem tyF38_1 : fieldT Try.prog 38 1 = some (1, 3) := by kernel_rfl
@[simp] theorem tyF38_2 : fieldT Try.prog 38 2 = some (2, 3) := by kernel_rfl
@[simp] theorem tyF38_3 : fieldT Try.prog 38 3 = some (3, 3) := by kernel_rfl
@[simp] theorem tyF38_4 : fieldT Try.prog 38 4 = some (4, 3) := by kernel_rfl
@[simp] theorem tyF38_5 : fieldT Try.prog 38 5 = some (5, 4) := by kernel_rfl
@[simp] theorem tyS39 : sizeT Try.prog 39 = some 5 := by kernel_rfl
@[simp] theorem tyB39 : bytesT Try.prog 39 = some 40 := by kernel_rfl
@[simp] theorem tyA39 : aggT Try.prog 39 = some true := by kernel_rfl
@[simp] theorem tyZ39 : zeroT Try.prog 39 = some [.int .i64 0, .int .i64 0, .int .i64 0, .int .i64 0, .int .i64 0] := by kernel_rfl
@[simp] theorem tyV39 : zeroV Try.prog 39 = some (.agg [.int .i64 0, .int .i64 0, .int .i64 0, .int .i64 0, .int .i64 0]) := by kernel_rfl
@[simp] theorem tyP39 : placesT Try.prog 39 = some [(0, 1), (1, 1), (2, 1), (3, 1), (4, 1)] := by kernel_rfl
@[simp] theorem tyF39_0 : fieldT Try.prog 39 0 = some (0, 3) := by kernel_rfl
@[simp] theorem tyF39_1 : fieldT Try.prog 39 1 = some (1, 3) := by kernel_rfl
@[simp] theorem tyF39_2 : fieldT Try.prog 39 2 = some (2, 3) := by kernel_rfl
@[simp] theorem tyF39_3 : fieldT Try.prog 39 3 = some (3, 3) := by kernel_rfl
@[simp] theorem tyF39_4 : fieldT Try.prog 39 4 = some (4, 3) := by kernel_rfl
@[simp] theorem tyS40 : sizeT Try.prog 40 = some 5 := by kernel_rfl
@[simp] theorem tyB40 : bytesT Try.prog 40 = some 40 := by kernel_rfl
@[simp] theorem tyA40 : aggT Try.prog 40 = some true := by kernel_rfl
@[simp] theorem tyZ40 : zeroT Try.prog 40 = some [.int .i64 0, .int .i64 0, .int .i64 0, .int .i64 0, .int .i64 0] := by kernel_rfl
@[simp] theorem tyV40 : zeroV Try.prog 40 = some (.agg [.int .i64 0, .int .i64 0, .int .i64 0, .int .i64 0, .int .i64 0]) := by kernel_rfl
@[simp] theorem tyP40 : placesT Try.prog 40 = some [(0, 1), (1, 1), (2, 1), (3, 1), (4, 1)] := by kernel_rfl
@[simp] theorem tyF40_0 : fieldT Try.prog 40 0 = some (0, 3) := by kernel_rfl
@[simp] theorem tyF40_1 : fieldT Try.prog 40 1 = some (1, 3) := by kernel_rfl
@[simp] theorem tyF40_2 : fieldT Try.prog 40 2 = some (2, 3) := by kernel_rfl
@[simp] theorem tyF40_3 : fieldT Try.prog 40 3 = some (3, 3) := by kernel_rfl
@[simp] theorem tyF40_4 : fieldT Try.prog 40 4 = some (4, 3) := by kernel_rfl
@[simp] theorem tyS42 : sizeT Try.prog 42 = some 9 := by kernel_rfl
@[simp] theorem tyB42 : bytesT Try.prog 42 = some 72 := by kernel_rfl
@[simp] theorem tyA42 : aggT Try.prog 42 = some true := by kernel_rfl
@[simp] theorem tyZ42 : zeroT Try.prog 42 = some [.bool false, .int .i64 0, .int .i64 0, .int .i64 0, .int .i64 0, .int .i64 0, .int .i64 0, .int .i64 0, .int .i64 0] := by kernel_rfl
@[simp] theorem tyV42 : zeroV Try.prog 42 = some (.agg [.bool false, .int .i64 0, .int .i64 0, .int .i64 0, .int .i64 0, .int .i64 0, .int .i64 0, .int .i64 0, .int .i64 0]) := by kernel_rfl
@[simp] theorem tyP42 : placesT Try.prog 42 = some [(0, 1), (1, 1), (2, 1), (3, 1), (4, 1), (5, 1), (6, 1), (7, 1), (8, 1)] := by kernel_rfl
@[simp] theorem tyF42_0 : fieldT Try.prog 42 0 = some (0, 4) := by kernel_rfl
@[simp] theorem tyF42_1 : fieldT Try.prog 42 1 = some (1, 3) := by kernel_rfl
@[simp] theorem tyF42_2 : fieldT Try.prog 42 2 = some (2, 3) := by kernel_rfl
@[simp] theorem tyF42_3 : fieldT Try.prog 42 3 = some (3, 3) := by kernel_rfl
@[simp] theorem tyF42_4 : fieldT Try.prog 42 4 = some (4, 3) := by kernel_rfl
@[simp] theorem tyF42_5 : fieldT Try.prog 42 5 = some (5, 3) := by kernel_rfl
@[simp] theorem tyF42_6 : fieldT Try.prog 42 6 = some (6, 3) := by kernel_rfl
@[simp] theorem tyF42_7 : fieldT Try.prog 42 7 = some (7, 3) := by kernel_rfl
@[simp] theorem tyF42_8 : fieldT Try.prog 42 8 = some (8, 3) := by kernel_rfl
@[simp] theorem tyS43 : sizeT Try.prog 43 = some 9 := by kernel_rfl
@[simp] theorem tyB43 : bytesT Try.prog 43 = some 72 := by kernel_rfl
@[simp] theorem tyA43 : aggT Try.prog 43 = some true := by kernel_rfl
@[simp] theorem tyZ43 : zeroT Try.prog 43 = some [.bool false, .int .i64 0, .int .i64 0, .int .i64 0, .int .i64 0, .int .i64 0, .int .i64 0, .int .i64 0, .int .i64 0] := by kernel_rfl
@[simp] theorem tyV43 : zeroV Try.prog 43 = some (.agg [.bool false, .int .i64 0, .int .i64 0, .int .i64 0, .int .i64 0, .int .i64 0, .int .i64 0, .int .i64 0, .int .i64 0]) := by kernel_rfl
@[simp] theorem tyP43 : placesT Try.prog 43 = some [(0, 1), (1, 1), (2, 1), (3, 1), (4, 1), (5, 1), (6, 1), (7, 1), (8, 1)] := by kernel_rfl
@[simp] theorem tyF43_0 : fieldT Try.prog 43 0 = some (0, 4) := by kernel_rfl
@[simp] theorem tyF43_1 : fieldT Try.prog 43 1 = some (1, 3) := by kernel_rfl
@[simp] theorem tyF43_2 : fieldT Try.prog 43 2 = some (2, 3) := by kernel_rfl
@[simp] theorem tyF43_3 : fieldT Try.prog 43 3 = some (3, 3) := by kernel_rfl
@[simp] theorem tyF43_4 : fieldT Try.prog 43 4 = some (4, 3) := by kernel_rfl
@[simp] theorem tyF43_5 : fieldT Try.prog 43 5 = some (5, 3) := by kernel_rfl
@[simp] theorem tyF43_6 : fieldT Try.prog 43 6 = some (6, 3) := by kernel_rfl
@[simp] theorem tyF43_7 : fieldT Try.prog 43 7 = some (7, 3) := by kernel_rfl
@[simp] theorem tyF43_8 : fieldT Try.prog 43 8 = some (8, 3) := by kernel_rfl
@[simp] theorem tyU44 : Try.prog.underlying 44 = some (.slice 165) := by kernel_rfl
@[simp] theorem tyS44 : sizeT Try.prog 44 = some 1 := by kernel_rfl
@[simp] theorem tyB44 : bytesT Try.prog 44 = some 24 := by kernel_rfl
@[simp] theorem tyA44 : aggT Try.prog 44 = some false := by kernel_rfl
@[simp] theorem tyZ44 : zeroT Try.prog 44 = some [.nilSlice] := by kernel_rfl
@[simp] theorem tyV44 : zeroV Try.prog 44 = some (.nilSlice) := by kernel_rfl
@[simp] theorem tyE44 : sliceT Try.prog 44 = some 165 := by kernel_rfl
@[simp] theorem tyP44 : placesT Try.prog 44 = none := by kernel_rfl
@[simp] theorem tyU46 : Try.prog.underlying 46 = some (.slice 63) := by kernel_rfl
@[simp] theorem tyS46 : sizeT Try.prog 46 = some 1 := by kernel_rfl
@[simp] theorem tyB46 : bytesT Try.prog 46 = some 24 := by kernel_rfl
@[simp] theorem tyA46 : aggT Try.prog 46 = some false := by kernel_rfl
@[simp] theorem tyZ46 : zeroT Try.prog 46 = some [.nilSlice] := by kernel_rfl
@[simp] theorem tyV46 : zeroV Try.prog 46 = some (.nilSlice) := by kernel_rfl
@[simp] theorem tyE46 : sliceT Try.prog 46 = some 63 := by kernel_rfl
@[simp] theorem tyP46 : placesT Try.prog 46 = none := by kernel_rfl
@[simp] theorem tyS49 : sizeT Try.prog 49 = some 9 := by kernel_rfl
@[simp] theorem tyB49 : bytesT Try.prog 49 = some 72 := by kernel_rfl
@[simp] theorem tyA49 : aggT Try.prog 49 = some true := by kernel_rfl
@[simp] theorem tyZ49 : zeroT Try.prog 49 = some [.bool false, .int .i64 0, .int .i64 0, .int .i64 0, .int .i64 0, .int .i64 0, .int .i64 0, .int .i64 0, .int .i64 0] := by kernel_rfl
@[simp] theorem tyV49 : zeroV Try.prog 49 = some (.agg [.bool false, .int .i64 0, .int .i64 0, .int .i64 0, .int .i64 0, .int .i64 0, .int .i64 0, .int .i64 0, .int .i64 0]) := by kernel_rfl
@[simp] theorem tyP49 : placesT Try.prog 49 = some [(0, 1), (1, 1), (2, 1), (3, 1), (4, 1), (5, 1), (6, 1), (7, 1), (8, 1)] := by kernel_rfl
@[simp] theorem tyF49_0 : fieldT Try.prog 49 0 = some (0, 4) := by kernel_rfl
@[simp] theorem tyF49_1 : fieldT Try.prog 49 1 = some (1, 3) := by kernel_rfl
@[simp] theorem tyF49_2 : fieldT Try.prog 49 2 = some (2, 3) := by kernel_rfl
@[simp] theorem tyF49_3 : fieldT Try.prog 49 3 = some (3, 3) := by kernel_rfl
@[simp] theorem tyF49_4 : fieldT Try.prog 49 4 = some (4, 3) := by kernel_rfl
@[simp] theorem tyF49_5 : fieldT Try.prog 49 5 = some (5, 3) := by kernel_rfl
@[simp] theorem tyF49_6 : fieldT Try.prog 49 6 = some (6, 3) := by kernel_rfl
@[simp] theorem tyF49_7 : fieldT Try.prog 49 7 = some (7, 3) := by kernel_rfl
@[simp] theorem tyF49_8 : fieldT Try.prog 49 8 = some (8, 3) := by kernel_rfl
@[simp] theorem tyU51 : Try.prog.underlying 51 = some (.slice 65) := by kernel_rfl
@[simp] theorem tyS51 : sizeT Try.prog 51 = some 1 := by kernel_rfl
@[simp] theorem tyB51 : bytesT Try.prog 51 = some 24 := by kernel_rfl
@[simp] theorem tyA51 : aggT Try.prog 51 = some false := by kernel_rfl
@[simp] theorem tyZ51 : zeroT Try.prog 51 = some [.nilSlice] := by kernel_rfl
@[simp] theorem tyV51 : zeroV Try.prog 51 = some (.nilSlice) := by kernel_rfl
@[simp] theorem tyE51 : sliceT Try.prog 51 = some 65 := by kernel_rfl
@[simp] theorem tyP51 : placesT Try.prog 51 = none := by kernel_rfl
@[simp] theorem tyU60 : Try.prog.underlying 60 = some (.slice 3) := by kernel_rfl
@[simp] theorem tyS60 : sizeT Try.prog 60 = some 1 := by kernel_rfl
@[simp] theorem tyB60 : bytesT Try.prog 60 = some 24 := by kernel_rfl
@[simp] theorem tyA60 : aggT Try.prog 60 = some false := by kernel_rfl
@[simp] theorem tyZ60 : zeroT Try.prog 60 = some [.nilSlice] := by kernel_rfl
@[simp] theorem tyV60 : zeroV Try.prog 60 = some (.nilSlice) := by kernel_rfl
@[simp] theorem tyE60 : sliceT Try.prog 60 = some 3 := by kernel_rfl
@[simp] theorem tyP60 : placesT Try.prog 60 = none := by kernel_rfl
@[simp] theorem tyU61 : Try.prog.underlying 61 = some (.slice 72) := by kernel_rfl
@[simp] theorem tyS61 : sizeT Try.prog 61 = some 1 := by kernel_rfl
@[simp] theorem tyB61 : bytesT Try.prog 61 = some 24 := by kernel_rfl
@[simp] theorem tyA61 : aggT Try.prog 61 = some false := by kernel_rfl
@[simp] theorem tyZ61 : zeroT Try.prog 61 = some [.nilSlice] := by kernel_rfl
@[simp] theorem tyV61 : zeroV Try.prog 61 = some (.nilSlice) := by kernel_rfl
@[simp] theorem tyE61 : sliceT Try.prog 61 = some 72 := by kernel_rfl
@[simp] theorem tyP61 : placesT Try.prog 61 = none := by kernel_rfl
@[simp] theorem tyS62 : sizeT Try.prog 62 = some 4 := by kernel_rfl
@[simp] theorem tyB62 : bytesT Try.prog 62 = some 48 := by kernel_rfl
@[simp] theorem tyA62 : aggT Try.prog 62 = some true := by kernel_rfl
@[simp] theorem tyZ62 : zeroT Try.prog 62 = some [.int .i64 0, .int .i64 0, .int .i64 0, .nilSlice] := by kernel_rfl
@[simp] theorem tyV62 : zeroV Try.prog 62 = some (.agg [.int .i64 0, .int .i64 0, .int .i64 0, .nilSlice]) := by kernel_rfl
@[simp] theorem tyP62 : placesT Try.prog 62 = some [(0, 1), (1, 1), (2, 1), (3, 1)] := by kernel_rfl
@[simp] theorem tyF62_0 : fieldT Try.prog 62 0 = some (0, 3) := by kernel_rfl
@[simp] theorem tyF62_1 : fieldT Try.prog 62 1 = some (1, 3) := by kernel_rfl
@[simp] theorem tyF62_2 : fieldT Try.prog 62 2 = some (2, 3) := by kernel_rfl
@[simp] theorem tyF62_3 : fieldT Try.prog 62 3 = some (3, 61) := by kernel_rfl
@[simp] theorem tyS63 : sizeT Try.prog 63 = some 4 := by kernel_rfl
@[simp] theorem tyB63 : bytesT Try.prog 63 = some 48 := by kernel_rfl
@[simp] theorem tyA63 : aggT Try.prog 63 = some true := by kernel_rfl
@[simp] theorem tyZ63 : zeroT Try.prog 63 = some [.int .i64 0, .int .i64 0, .int .i64 0, .nilSlice] := by kernel_rfl
@[simp] theorem tyV63 : zeroV Try.prog 63 = some (.agg [.int .i64 0, .int .i64 0, .int .i64 0, .nilSlice]) := by kernel_rfl
@[simp] theorem tyP63 : placesT Try.prog 63 = some [(0, 1), (1, 1), (2, 1), (3, 1)] := by kernel_rfl
@[simp] theorem tyF63_0 : fieldT Try.prog 63 0 = some (0, 3) := by kernel_rfl
@[simp] theorem tyF63_1 : fieldT Try.prog 63 1 = some (1, 3) := by kernel_rfl
@[simp] theorem tyF63_2 : fieldT Try.prog 63 2 = some (2, 3) := by kernel_rfl
@[simp] theorem tyF63_3 : fieldT Try.prog 63 3 = some (3, 61) := by kernel_rfl
@[simp] theorem tyS64 : sizeT Try.prog 64 = some 4 := by kernel_rfl
@[simp] theorem tyB64 : bytesT Try.prog 64 = some 32 := by kernel_rfl
@[simp] theorem tyA64 : aggT Try.prog 64 = some true := by kernel_rfl
@[simp] theorem tyZ64 : zeroT Try.prog 64 = some [.int .i64 0, .int .i64 0, .int .i64 0, .bool false] := by kernel_rfl
@[simp] theorem tyV64 : zeroV Try.prog 64 = some (.agg [.int .i64 0, .int .i64 0, .int .i64 0, .bool false]) := by kernel_rfl
@[simp] theorem tyP64 : placesT Try.prog 64 = some [(0, 1), (1, 1), (2, 1), (3, 1)] := by kernel_rfl
@[simp] theorem tyF64_0 : fieldT Try.prog 64 0 = some (0, 3) := by kernel_rfl
@[simp] theorem tyF64_1 : fieldT Try.prog 64 1 = some (1, 3) := by kernel_rfl
@[simp] theorem tyF64_2 : fieldT Try.prog 64 2 = some (2, 3) := by kernel_rfl
@[simp] theorem tyF64_3 : fieldT Try.prog 64 3 = some (3, 4) := by kernel_rfl
@[simp] theorem tyS65 : sizeT Try.prog 65 = some 4 := by kernel_rfl
@[simp] theorem tyB65 : bytesT Try.prog 65 = some 32 := by kernel_rfl
@[simp] theorem tyA65 : aggT Try.prog 65 = some true := by kernel_rfl
@[simp] theorem tyZ65 : zeroT Try.prog 65 = some [.int .i64 0, .int .i64 0, .int .i64 0, .bool false] := by kernel_rfl
@[simp] theorem tyV65 : zeroV Try.prog 65 = some (.agg [.int .i64 0, .int .i64 0, .int .i64 0, .bool false]) := by kernel_rfl
@[simp] theorem tyP65 : placesT Try.prog 65 = some [(0, 1), (1, 1), (2, 1), (3, 1)] := by kernel_rfl
@[simp] theorem tyF65_0 : fieldT Try.prog 65 0 = some (0, 3) := by kernel_rfl
@[simp] theorem tyF65_1 : fieldT Try.prog 65 1 = some (1, 3) := by kernel_rfl
@[simp] theorem tyF65_2 : fieldT Try.prog 65 2 = some (2, 3) := by kernel_rfl
@[simp] theorem tyF65_3 : fieldT Try.prog 65 3 = some (3, 4) := by kernel_rfl
@[simp] theorem tyU70 : Try.prog.underlying 70 = some (.slice 94) := by kernel_rfl
@[simp] theorem tyS70 : sizeT Try.prog 70 = some 1 := by kernel_rfl
@[simp] theorem tyB70 : bytesT Try.prog 70 = some 24 := by kernel_rfl
@[simp] theorem tyA70 : aggT Try.prog 70 = some false := by kernel_rfl
@[simp] theorem tyZ70 : zeroT Try.prog 70 = some [.nilSlice] := by kernel_rfl
@[simp] theorem tyV70 : zeroV Try.prog 70 = some (.nilSlice) := by kernel_rfl
@[simp] theorem tyE70 : sliceT Try.prog 70 = some 94 := by kernel_rfl
@[simp] theorem tyP70 : placesT Try.prog 70 = none := by kernel_rfl
@[simp] theorem tyS71 : sizeT Try.prog 71 = some 8 := by kernel_rfl
@[simp] theorem tyB71 : bytesT Try.prog 71 = some 112 := by kernel_rfl
@[simp] theorem tyA71 : aggT Try.prog 71 = some true := by kernel_rfl
@[simp] theorem tyZ71 : zeroT Try.prog 71 = some [.int .i64 0, .int .i64 0, .int .i64 0, .int .i64 0, .bool false, .nilSlice, .nilSlice, .nilSlice] := by kernel_rfl
@[simp] theorem tyV71 : zeroV Try.prog 71 = some (.agg [.int .i64 0, .int .i64 0, .int .i64 0, .int .i64 0, .bool false, .nilSlice, .nilSlice, .nilSlice]) := by kernel_rfl
@[simp] theorem tyP71 : placesT Try.prog 71 = some [(0, 1), (1, 1), (2, 1), (3, 1), (4, 1), (5, 1), (6, 1), (7, 1)] := by kernel_rfl
@[simp] theorem tyF71_0 : fieldT Try.prog 71 0 = some (0, 3) := by kernel_rfl
@[simp] theorem tyF71_1 : fieldT Try.prog 71 1 = some (1, 3) := by kernel_rfl
@[simp] theorem tyF71_2 : fieldT Try.prog 71 2 = some (2, 3) := by kernel_rfl
@[simp] theorem tyF71_3 : fieldT Try.prog 71 3 = some (3, 3) := by kernel_rfl
@[simp] theorem tyF71_4 : fieldT Try.prog 71 4 = some (4, 4) := by kernel_rfl
@[simp] theorem tyF71_5 : fieldT Try.prog 71 5 = some (5, 34) := by kernel_rfl
@[simp] theorem tyF71_6 : fieldT Try.prog 71 6 = some (6, 34) := by kernel_rfl
@[simp] theorem tyF71_7 : fieldT Try.prog 71 7 = some (7, 70) := by kernel_rfl
@[simp] theorem tyS72 : sizeT Try.prog 72 = some 8 := by kernel_rfl
@[simp] theorem tyB72 : bytesT Try.prog 72 = some 112 := by kernel_rfl
@[simp] theorem tyA72 : aggT Try.prog 72 = some true := by kernel_rfl
@[simp] theorem tyZ72 : zeroT Try.prog 72 = some [.int .i64 0, .int .i64 0, .int .i64 0, .int .i64 0, .bool false, .nilSlice, .nilSlice, .nilSlice] := by kernel_rfl
@[simp] theorem tyV72 : zeroV Try.prog 72 = some (.agg [.int .i64 0, .int .i64 0, .int .i64 0, .int .i64 0, .bool false, .nilSlice, .nilSlice, .nilSlice]) := by kernel_rfl
@[simp] theorem tyP72 : placesT Try.prog 72 = some [(0, 1), (1, 1), (2, 1), (3, 1), (4, 1), (5, 1), (6, 1), (7, 1)] := by kernel_rfl
@[simp] theorem tyF72_0 : fieldT Try.prog 72 0 = some (0, 3) := by kernel_rfl
@[simp] theorem tyF72_1 : fieldT Try.prog 72 1 = some (1, 3) := by kernel_rfl
@[simp] theorem tyF72_2 : fieldT Try.prog 72 2 = some (2, 3) := by kernel_rfl
@[simp] theorem tyF72_3 : fieldT Try.prog 72 3 = some (3, 3) := by kernel_rfl
@[simp] theorem tyF72_4 : fieldT Try.prog 72 4 = some (4, 4) := by kernel_rfl
@[simp] theorem tyF72_5 : fieldT Try.prog 72 5 = some (5, 34) := by kernel_rfl
@[simp] theorem tyF72_6 : fieldT Try.prog 72 6 = some (6, 34) := by kernel_rfl
@[simp] theorem tyF72_7 : fieldT Try.prog 72 7 = some (7, 70) := by kernel_rfl
@[simp] theorem tyS85 : sizeT Try.prog 85 = some 1 := by kernel_rfl
@[simp] theorem tyB85 : bytesT Try.prog 85 = some 8 := by kernel_rfl
@[simp] theorem tyA85 : aggT Try.prog 85 = some false := by kernel_rfl
@[simp] theorem tyZ85 : zeroT Try.prog 85 = some [.nilFunc] := by kernel_rfl
@[simp] theorem tyV85 : zeroV Try.prog 85 = some (.nilFunc) := by kernel_rfl
@[simp] theorem tyP85 : placesT Try.prog 85 = none := by kernel_rfl
@[simp] theorem tyU88 : Try.prog.underlying 88 = some (.slice 4) := by kernel_rfl
@[simp] theorem tyS88 : sizeT Try.prog 88 = some 1 := by kernel_rfl
@[simp] theorem tyB88 : bytesT Try.prog 88 = some 24 := by kernel_rfl
@[simp] theorem tyA88 : aggT Try.prog 88 = some false := by kernel_rfl
@[simp] theorem tyZ88 : zeroT Try.prog 88 = some [.nilSlice] := by kernel_rfl
@[simp] theorem tyV88 : zeroV Try.prog 88 = some (.nilSlice) := by kernel_rfl
@[simp] theorem tyE88 : sliceT Try.prog 88 = some 4 := by kernel_rfl
@[simp] theorem tyP88 : placesT Try.prog 88 = none := by kernel_rfl
@[simp] theorem tyS93 : sizeT Try.prog 93 = some 2 := by kernel_rfl
@[simp] theorem tyB93 : bytesT Try.prog 93 = some 16 := by kernel_rfl
@[simp] theorem tyA93 : aggT Try.prog 93 = some true := by kernel_rfl
@[simp] theorem tyZ93 : zeroT Try.prog 93 = some [.int .i64 0, .int .i64 0] := by kernel_rfl
@[simp] theorem tyV93 : zeroV Try.prog 93 = some (.agg [.int .i64 0, .int .i64 0]) := by kernel_rfl
@[simp] theorem tyP93 : placesT Try.prog 93 = some [(0, 1), (1, 1)] := by kernel_rfl
@[simp] theorem tyF93_0 : fieldT Try.prog 93 0 = some (0, 3) := by kernel_rfl
@[simp] theorem tyF93_1 : fieldT Try.prog 93 1 = some (1, 3) := by kernel_rfl
@[simp] theorem tyS94 : sizeT Try.prog 94 = some 2 := by kernel_rfl
@[simp] theorem tyB94 : bytesT Try.prog 94 = some 16 := by kernel_rfl
@[simp] theorem tyA94 : aggT Try.prog 94 = some true := by kernel_rfl
@[simp] theorem tyZ94 : zeroT Try.prog 94 = some [.int .i64 0, .int .i64 0] := by kernel_rfl
@[simp] theorem tyV94 : zeroV Try.prog 94 = some (.agg [.int .i64 0, .int .i64 0]) := by kernel_rfl
@[simp] theorem tyP94 : placesT Try.prog 94 = some [(0, 1), (1, 1)] := by kernel_rfl
@[simp] theorem tyF94_0 : fieldT Try.prog 94 0 = some (0, 3) := by kernel_rfl
@[simp] theorem tyF94_1 : fieldT Try.prog 94 1 = some (1, 3) := by kernel_rfl
@[simp] theorem tyU102 : Try.prog.underlying 102 = some (.slice 204) := by kernel_rfl
@[simp] theorem tyS102 : sizeT Try.prog 102 = some 1 := by kernel_rfl
@[simp] theorem tyB102 : bytesT Try.prog 102 = some 24 := by kernel_rfl
@[simp] theorem tyA102 : aggT Try.prog 102 = some false := by kernel_rfl
@[simp] theorem tyZ102 : zeroT Try.prog 102 = some [.nilSlice] := by kernel_rfl
@[simp] theorem tyV102 : zeroV Try.prog 102 = some (.nilSlice) := by kernel_rfl
@[simp] theorem tyE102 : sliceT Try.prog 102 = some 204 := by kernel_rfl
@[simp] theorem tyP102 : placesT Try.prog 102 = none := by kernel_rfl
@[simp] theorem tyU104 : Try.prog.underlying 104 = some (.slice 117) := by kernel_rfl
@[simp] theorem tyS104 : sizeT Try.prog 104 = some 1 := by kernel_rfl
@[simp] theorem tyB104 : bytesT Try.prog 104 = some 24 := by kernel_rfl
@[simp] theorem tyA104 : aggT Try.prog 104 = some false := by kernel_rfl
@[simp] theorem tyZ104 : zeroT Try.prog 104 = some [.nilSlice] := by kernel_rfl
@[simp] theorem tyV104 : zeroV Try.prog 104 = some (.nilSlice) := by kernel_rfl
@[simp] theorem tyE104 : sliceT Try.prog 104 = some 117 := by kernel_rfl
@[simp] theorem tyP104 : placesT Try.prog 104 = none := by kernel_rfl
@[simp] theorem tyU107 : Try.prog.underlying 107 = some (.slice 208) := by kernel_rfl
@[simp] theorem tyS107 : sizeT Try.prog 107 = some 1 := by kernel_rfl
@[simp] theorem tyB107 : bytesT Try.prog 107 = some 24 := by kernel_rfl
@[simp] theorem tyA107 : aggT Try.prog 107 = some false := by kernel_rfl
@[simp] theorem tyZ107 : zeroT Try.prog 107 = some [.nilSlice] := by kernel_rfl
@[simp] theorem tyV107 : zeroV Try.prog 107 = some (.nilSlice) := by kernel_rfl
@[simp] theorem tyE107 : sliceT Try.prog 107 = some 208 := by kernel_rfl
@[simp] theorem tyP107 : placesT Try.prog 107 = none := by kernel_rfl
@[simp] theorem tyS116 : sizeT Try.prog 116 = some 5 := by kernel_rfl
@[simp] theorem tyB116 : bytesT Try.prog 116 = some 72 := by kernel_rfl
@[simp] theorem tyA116 : aggT Try.prog 116 = some true := by kernel_rfl
@[simp] theorem tyZ116 : zeroT Try.prog 116 = some [.int .i64 0, .int .i64 0, .int .i64 0, .nilSlice, .nilSlice] := by kernel_rfl
@[simp] theorem tyV116 : zeroV Try.prog 116 = some (.agg [.int .i64 0, .int .i64 0, .int .i64 0, .nilSlice, .nilSlice]) := by kernel_rfl
@[simp] theorem tyP116 : placesT Try.prog 116 = some [(0, 1), (1, 1), (2, 1), (3, 1), (4, 1)] := by kernel_rfl
@[simp] theorem tyF116_0 : fieldT Try.prog 116 0 = some (0, 3) := by kernel_rfl
@[simp] theorem tyF116_1 : fieldT Try.prog 116 1 = some (1, 3) := by kernel_rfl
@[simp] theorem tyF116_2 : fieldT Try.prog 116 2 = some (2, 3) := by kernel_rfl
@[simp] theorem tyF116_3 : fieldT Try.prog 116 3 = some (3, 34) := by kernel_rfl
@[simp] theorem tyF116_4 : fieldT Try.prog 116 4 = some (4, 61) := by kernel_rfl
@[simp] theorem tyS117 : sizeT Try.prog 117 = some 5 := by kernel_rfl
@[simp] theorem tyB117 : bytesT Try.prog 117 = some 72 := by kernel_rfl
@[simp] theorem tyA117 : aggT Try.prog 117 = some true := by kernel_rfl
@[simp] theorem tyZ117 : zeroT Try.prog 117 = some [.int .i64 0, .int .i64 0, .int .i64 0, .nilSlice, .nilSlice] := by kernel_rfl
@[simp] theorem tyV117 : zeroV Try.prog 117 = some (.agg [.int .i64 0, .int .i64 0, .int .i64 0, .nilSlice, .nilSlice]) := by kernel_rfl
@[simp] theorem tyP117 : placesT Try.prog 117 = some [(0, 1), (1, 1), (2, 1), (3, 1), (4, 1)] := by kernel_rfl
@[simp] theorem tyF117_0 : fieldT Try.prog 117 0 = some (0, 3) := by kernel_rfl
@[simp] theorem tyF117_1 : fieldT Try.prog 117 1 = some (1, 3) := by kernel_rfl
@[simp] theorem tyF117_2 : fieldT Try.prog 117 2 = some (2, 3) := by kernel_rfl
@[simp] theorem tyF117_3 : fieldT Try.prog 117 3 = some (3, 34) := by kernel_rfl
@[simp] theorem tyF117_4 : fieldT Try.prog 117 4 = some (4, 61) := by kernel_rfl
@[simp] theorem tyU118 : Try.prog.underlying 118 = some (.slice 9) := by kernel_rfl
@[simp] theorem tyS118 : sizeT Try.prog 118 = some 1 := by kernel_rfl
@[simp] theorem tyB118 : bytesT Try.prog 118 = some 24 := by kernel_rfl
@[simp] theorem tyA118 : aggT Try.prog 118 = some false := by kernel_rfl
@[simp] theorem tyZ118 : zeroT Try.prog 118 = some [.nilSlice] := by kernel_rfl
@[simp] theorem tyV118 : zeroV Try.prog 118 = some (.nilSlice) := by kernel_rfl
@[simp] theorem tyE118 : sliceT Try.prog 118 = some 9 := by kernel_rfl
@[simp] theorem tyP118 : placesT Try.prog 118 = none := by kernel_rfl
@[simp] theorem tyS119 : sizeT Try.prog 119 = some 13 := by kernel_rfl
@[simp] theorem tyB119 : bytesT Try.prog 119 = some 152 := by kernel_rfl
@[simp] theorem tyA119 : aggT Try.prog 119 = some true := by kernel_rfl
@[simp] theorem tyZ119 : zeroT Try.prog 119 = some [.int .i64 0, .int .i64 0, .int .i64 0, .int .i64 0, .int .i64 0, .int .i64 0, .int .i64 0, .int .i64 0, .int .i64 0, .bool false, .nilSlice, .nilSlice, .nilSlice] := by kernel_rfl
@[simp] theorem tyV119 : zeroV Try.prog 119 = some (.agg [.int .i64 0, .int .i64 0, .int .i64 0, .int .i64 0, .int .i64 0, .int .i64 0, .int .i64 0, .int .i64 0, .int .i64 0, .bool false, .nilSlice, .nilSlice, .nilSlice]) := by kernel_rfl
@[simp] theorem tyP119 : placesT Try.prog 119 = some [(0, 1), (1, 1), (2, 1), (3, 1), (4, 1), (5, 1), (6, 1), (7, 1), (8, 1), (9, 1), (10, 1), (11, 1), (12, 1)] := by kernel_rfl
@[simp] theorem tyF119_0 : fieldT Try.prog 119 0 = some (0, 3) := by kernel_rfl
@[simp] theorem tyF119_1 : fieldT Try.prog 119 1 = some (1, 3) := by kernel_rfl
@[simp] theorem tyF119_2 : fieldT Try.prog 119 2 = some (2, 3) := by kernel_rfl
@[simp] theorem tyF119_3 : fieldT Try.prog 119 3 = some (3, 3) := by kernel_rfl
@[simp] theorem tyF119_4 : fieldT Try.prog 119 4 = some (4, 3) := by kernel_rfl
@[simp] theorem tyF119_5 : fieldT Try.prog 119 5 = some (5, 3) := by kernel_rfl
@[simp] theorem tyF119_6 : fieldT Try.prog 119 6 = some (6, 3) := by kernel_rfl
@[simp] theorem tyF119_7 : fieldT Try.prog 119 7 = some (7, 3) := by kernel_rfl
@[simp] theorem tyF119_8 : fieldT Try.prog 119 8 = some (8, 3) := by kernel_rfl
@[simp] theorem tyF119_9 : fieldT Try.prog 119 9 = some (9, 4) := by kernel_rfl
@[simp] theorem tyF119_10 : fieldT Try.prog 119 10 = some (10, 34) := by kernel_rfl
@[simp] theorem tyF119_11 : fieldT Try.prog 119 11 = some (11, 34) := by kernel_rfl
@[simp] theorem tyF119_12 : fieldT Try.prog 119 12 = some (12, 34) := by kernel_rfl
@[simp] theorem tyS120 : sizeT Try.prog 120 = some 13 := by kernel_rfl
@[simp] theorem tyB120 : bytesT Try.prog 120 = some 152 := by kernel_rfl
@[simp] theorem tyA120 : aggT Try.prog 120 = some true := by kernel_rfl
@[simp] theorem tyZ120 : zeroT Try.prog 120 = some [.int .i64 0, .int .i64 0, .int .i64 0, .int .i64 0, .int .i64 0, .int .i64 0, .int .i64 0, .int .i64 0, .int .i64 0, .bool false, .nilSlice, .nilSlice, .nilSlice] := by kernel_rfl
@[simp] theorem tyV120 : zeroV Try.prog 120 = some (.agg [.int .i64 0, .int .i64 0, .int .i64 0, .int .i64 0, .int .i64 0, .int .i64 0, .int .i64 0, .int .i64 0, .int .i64 0, .bool false, .nilSlice, .nilSlice, .nilSlice]) := by kernel_rfl
@[simp] theorem tyP120 : placesT Try.prog 120 = some [(0, 1), (1, 1), (2, 1), (3, 1), (4, 1), (5, 1), (6, 1), (7, 1), (8, 1), (9, 1), (10, 1), (11, 1), (12, 1)] := by kernel_rfl
@[simp] theorem tyF120_0 : fieldT Try.prog 120 0 = some (0, 3) := by kernel_rfl
@[simp] theorem tyF120_1 : fieldT Try.prog 120 1 = some (1, 3) := by kernel_rfl
@[simp] theorem tyF120_2 : fieldT Try.prog 120 2 = some (2, 3) := by kernel_rfl
@[simp] theorem tyF120_3 : fieldT Try.prog 120 3 = some (3, 3) := by kernel_rfl
@[simp] theorem tyF120_4 : fieldT Try.prog 120 4 = some (4, 3) := by kernel_rfl
@[simp] theorem tyF120_5 : fieldT Try.prog 120 5 = some (5, 3) := by kernel_rfl
@[simp] theorem tyF120_6 : fieldT Try.prog 120 6 = some (6, 3) := by kernel_rfl
@[simp] theorem tyF120_7 : fieldT Try.prog 120 7 = some (7, 3) := by kernel_rfl
@[simp] theorem tyF120_8 : fieldT Try.prog 120 8 = some (8, 3) := by kernel_rfl
@[simp] theorem tyF120_9 : fieldT Try.prog 120 9 = some (9, 4) := by kernel_rfl
@[simp] theorem tyF120_10 : fieldT Try.prog 120 10 = some (10, 34) := by kernel_rfl
@[simp] theorem tyF120_11 : fieldT Try.prog 120 11 = some (11, 34) := by kernel_rfl
@[simp] theorem tyF120_12 : fieldT Try.prog 120 12 = some (12, 34) := by kernel_rfl
@[simp] theorem tyS121 : sizeT Try.prog 121 = some 18 := by kernel_rfl
@[simp] theorem tyB121 : bytesT Try.prog 121 = some 240 := by kernel_rfl
@[simp] theorem tyA121 : aggT Try.prog 121 = some true := by kernel_rfl
@[simp] theorem tyZ121 : zeroT Try.prog 121 = some [.int .i64 0, .int .i64 0, .nilSlice, .nilSlice, .nilSlice, .int .i64 0, .int .i64 0, .int .i64 0, .int .i64 0, .int .i64 0, .int .i64 0, .int .i64 0, .int .i64 0, .int .i64 0, .bool false, .nilSlice, .nilSlice, .nilSlice] := by kernel_rfl
@[simp] theorem tyV121 : zeroV Try.prog 121 = some (.agg [.int .i64 0, .int .i64 0, .nilSlice, .nilSlice, .nilSlice, .int .i64 0, .int .i64 0, .int .i64 0, .int .i64 0, .int .i64 0, .int .i64 0, .int .i64 0, .int .i64 0, .int .i64 0, .bool false, .nilSlice, .nilSlice, .nilSlice]) := by kernel_rfl
@[simp] theorem tyP121 : placesT Try.prog 121 = some [(0, 1), (1, 1), (2, 1), (3, 1), (4, 1), (5, 13)] := by kernel_rfl
@[simp] theorem tyF121_0 : fieldT Try.prog 121 0 = some (0, 3) := by kernel_rfl
@[simp] theorem tyF121_1 : fieldT Try.prog 121 1 = some (1, 3) := by kernel_rfl
@[simp] theorem tyF121_2 : fieldT Try.prog 121 2 = some (2, 34) := by kernel_rfl
@[simp] theorem tyF121_3 : fieldT Try.prog 121 3 = some (3, 60) := by kernel_rfl
@[simp] theorem tyF121_4 : fieldT Try.prog 121 4 = some (4, 118) := by kernel_rfl
@[simp] theorem tyF121_5 : fieldT Try.prog 121 5 = some (5, 120) := by kernel_rfl
@[simp] theorem tyS122 : sizeT Try.prog 122 = some 18 := by kernel_rfl
@[simp] theorem tyB122 : bytesT Try.prog 122 = some 240 := by kernel_rfl
@[simp] theorem tyA122 : aggT Try.prog 122 = some true := by kernel_rfl
@[simp] theorem tyZ122 : zeroT Try.prog 122 = some [.int .i64 0, .int .i64 0, .nilSlice, .nilSlice, .nilSlice, .int .i64 0, .int .i64 0, .int .i64 0, .int .i64 0, .int .i64 0, .int .i64 0, .int .i64 0, .int .i64 0, .int .i64 0, .bool false, .nilSlice, .nilSlice, .nilSlice] := by kernel_rfl
@[simp] theorem tyV122 : zeroV Try.prog 122 = some (.agg [.int .i64 0, .int .i64 0, .nilSlice, .nilSlice, .nilSlice, .int .i64 0, .int .i64 0, .int .i64 0, .int .i64 0, .int .i64 0, .int .i64 0, .int .i64 0, .int .i64 0, .int .i64 0, .bool false, .nilSlice, .nilSlice, .nilSlice]) := by kernel_rfl
@[simp] theorem tyP122 : placesT Try.prog 122 = some [(0, 1), (1, 1), (2, 1), (3, 1), (4, 1), (5, 13)] := by kernel_rfl
@[simp] theorem tyF122_0 : fieldT Try.prog 122 0 = some (0, 3) := by kernel_rfl
@[simp] theorem tyF122_1 : fieldT Try.prog 122 1 = some (1, 3) := by kernel_rfl
@[simp] theorem tyF122_2 : fieldT Try.prog 122 2 = some (2, 34) := by kernel_rfl
@[simp] theorem tyF122_3 : fieldT Try.prog 122 3 = some (3, 60) := by kernel_rfl
@[simp] theorem tyF122_4 : fieldT Try.prog 122 4 = some (4, 118) := by kernel_rfl
@[simp] theorem tyF122_5 : fieldT Try.prog 122 5 = some (5, 120) := by kernel_rfl
@[simp] theorem tyU137 : Try.prog.underlying 137 = some (.pointer 141) := by kernel_rfl
@[simp] theorem tyS137 : sizeT Try.prog 137 = some 1 := by kernel_rfl
@[simp] theorem tyB137 : bytesT Try.prog 137 = some 8 := by kernel_rfl
@[simp] theorem tyA137 : aggT Try.prog 137 = some false := by kernel_rfl
@[simp] theorem tyZ137 : zeroT Try.prog 137 = some [.nilPtr] := by kernel_rfl
@[simp] theorem tyV137 : zeroV Try.prog 137 = some (.nilPtr) := by kernel_rfl
@[simp] theorem tyP137 : placesT Try.prog 137 = none := by kernel_rfl
@[simp] theorem tyS140 : sizeT Try.prog 140 = some 16 := by kernel_rfl
@[simp] theorem tyB140 : bytesT Try.prog 140 = some 176 := by kernel_rfl
@[simp] theorem tyA140 : aggT Try.prog 140 = some true := by kernel_rfl
@[simp] theorem tyZ140 : zeroT Try.prog 140 = some [.int .i64 0, .int .i64 0, .int .i64 0, .int .i64 0, .int .i64 0, .int .i64 0, .int .i64 0, .int .i64 0, .nilSlice, .nilSlice, .nilSlice, .int .i64 0, .int .i64 0, .int .i64 0, .int .i64 0, .int .i64 0] := by kernel_rfl
@[simp] theorem tyV140 : zeroV Try.prog 140 = some (.agg [.int .i64 0, .int .i64 0, .int .i64 0, .int .i64 0, .int .i64 0, .int .i64 0, .int .i64 0, .int .i64 0, .nilSlice, .nilSlice, .nilSlice, .int .i64 0, .int .i64 0, .int .i64 0, .int .i64 0, .int .i64 0]) := by kernel_rfl
@[simp] theorem tyP140 : placesT Try.prog 140 = some [(0, 1), (1, 1), (2, 1), (3, 1), (4, 1), (5, 1), (6, 1), (7, 1), (8, 1), (9, 1), (10, 1), (11, 1), (12, 1), (13, 1), (14, 1), (15, 1)] := by kernel_rfl
@[simp] theorem tyF140_0 : fieldT Try.prog 140 0 = some (0, 3) := by kernel_rfl
@[simp] theorem tyF140_1 : fieldT Try.prog 140 1 = some (1, 3) := by kernel_rfl
@[simp] theorem tyF140_2 : fieldT Try.prog 140 2 = some (2, 3) := by kernel_rfl
@[simp] theorem tyF140_3 : fieldT Try.prog 140 3 = some (3, 3) := by kernel_rfl
@[simp] theorem tyF140_4 : fieldT Try.prog 140 4 = some (4, 3) := by kernel_rfl
@[simp] theorem tyF140_5 : fieldT Try.prog 140 5 = some (5, 3) := by kernel_rfl
@[simp] theorem tyF140_6 : fieldT Try.prog 140 6 = some (6, 3) := by kernel_rfl
@[simp] theorem tyF140_7 : fieldT Try.prog 140 7 = some (7, 3) := by kernel_rfl
@[simp] theorem tyF140_8 : fieldT Try.prog 140 8 = some (8, 60) := by kernel_rfl
@[simp] theorem tyF140_9 : fieldT Try.prog 140 9 = some (9, 60) := by kernel_rfl
@[simp] theorem tyF140_10 : fieldT Try.prog 140 10 = some (10, 60) := by kernel_rfl
@[simp] theorem tyF140_11 : fieldT Try.prog 140 11 = some (11, 3) := by kernel_rfl
@[simp] theorem tyF140_12 : fieldT Try.prog 140 12 = some (12, 3) := by kernel_rfl
@[simp] theorem tyF140_13 : fieldT Try.prog 140 13 = some (13, 3) := by kernel_rfl
@[simp] theorem tyF140_14 : fieldT Try.prog 140 14 = some (14, 3) := by kernel_rfl
@[simp] theorem tyF140_15 : fieldT Try.prog 140 15 = some (15, 3) := by kernel_rfl
@[simp] theorem tyS141 : sizeT Try.prog 141 = some 16 := by kernel_rfl
@[simp] theorem tyB141 : bytesT Try.prog 141 = some 176 := by kernel_rfl
@[simp] theorem tyA141 : aggT Try.prog 141 = some true := by kernel_rfl
@[simp] theorem tyZ141 : zeroT Try.prog 141 = some [.int .i64 0, .int .i64 0, .int .i64 0, .int .i64 0, .int .i64 0, .int .i64 0, .int .i64 0, .int .i64 0, .nilSlice, .nilSlice, .nilSlice, .int .i64 0, .int .i64 0, .int .i64 0, .int .i64 0, .int .i64 0] := by kernel_rfl
@[simp] theorem tyV141 : zeroV Try.prog 141 = some (.agg [.int .i64 0, .int .i64 0, .int .i64 0, .int .i64 0, .int .i64 0, .int .i64 0, .int .i64 0, .int .i64 0, .nilSlice, .nilSlice, .nilSlice, .int .i64 0, .int .i64 0, .int .i64 0, .int .i64 0, .int .i64 0]) := by kernel_rfl
@[simp] theorem tyP141 : placesT Try.prog 141 = some [(0, 1), (1, 1), (2, 1), (3, 1), (4, 1), (5, 1), (6, 1), (7, 1), (8, 1), (9, 1), (10, 1), (11, 1), (12, 1), (13, 1), (14, 1), (15, 1)] := by kernel_rfl
@[simp] theorem tyF141_0 : fieldT Try.prog 141 0 = some (0, 3) := by kernel_rfl
@[simp] theorem tyF141_1 : fieldT Try.prog 141 1 = some (1, 3) := by kernel_rfl
@[simp] theorem tyF141_2 : fieldT Try.prog 141 2 = some (2, 3) := by kernel_rfl
@[simp] theorem tyF141_3 : fieldT Try.prog 141 3 = some (3, 3) := by kernel_rfl
@[simp] theorem tyF141_4 : fieldT Try.prog 141 4 = some (4, 3) := by kernel_rfl
@[simp] theorem tyF141_5 : fieldT Try.prog 141 5 = some (5, 3) := by kernel_rfl
@[simp] theorem tyF141_6 : fieldT Try.prog 141 6 = some (6, 3) := by kernel_rfl
@[simp] theorem tyF141_7 : fieldT Try.prog 141 7 = some (7, 3) := by kernel_rfl
@[simp] theorem tyF141_8 : fieldT Try.prog 141 8 = some (8, 60) := by kernel_rfl
@[simp] theorem tyF141_9 : fieldT Try.prog 141 9 = some (9, 60) := by kernel_rfl
@[simp] theorem tyF141_10 : fieldT Try.prog 141 10 = some (10, 60) := by kernel_rfl
@[simp] theorem tyF141_11 : fieldT Try.prog 141 11 = some (11, 3) := by kernel_rfl
@[simp] theorem tyF141_12 : fieldT Try.prog 141 12 = some (12, 3) := by kernel_rfl
@[simp] theorem tyF141_13 : fieldT Try.prog 141 13 = some (13, 3) := by kernel_rfl
@[simp] theorem tyF141_14 : fieldT Try.prog 141 14 = some (14, 3) := by kernel_rfl
@[simp] theorem tyF141_15 : fieldT Try.prog 141 15 = some (15, 3) := by kernel_rfl
@[simp] theorem tyS143 : sizeT Try.prog 143 = some 5 := by kernel_rfl
@[simp] theorem tyB143 : bytesT Try.prog 143 = some 40 := by kernel_rfl
@[simp] theorem tyA143 : aggT Try.prog 143 = some true := by kernel_rfl
@[simp] theorem tyZ143 : zeroT Try.prog 143 = some [.int .i64 0, .int .i64 0, .int .i64 0, .int .i64 0, .int .i64 0] := by kernel_rfl
@[simp] theorem tyV143 : zeroV Try.prog 143 = some (.agg [.int .i64 0, .int .i64 0, .int .i64 0, .int .i64 0, .int .i64 0]) := by kernel_rfl
@[simp] theorem tyP143 : placesT Try.prog 143 = some [(0, 1), (1, 1), (2, 1), (3, 1), (4, 1)] := by kernel_rfl
@[simp] theorem tyF143_0 : fieldT Try.prog 143 0 = some (0, 3) := by kernel_rfl
@[simp] theorem tyF143_1 : fieldT Try.prog 143 1 = some (1, 3) := by kernel_rfl
@[simp] theorem tyF143_2 : fieldT Try.prog 143 2 = some (2, 3) := by kernel_rfl
@[simp] theorem tyF143_3 : fieldT Try.prog 143 3 = some (3, 3) := by kernel_rfl
@[simp] theorem tyF143_4 : fieldT Try.prog 143 4 = some (4, 3) := by kernel_rfl
@[simp] theorem tyU144 : Try.prog.underlying 144 = some (.pointer 152) := by kernel_rfl
@[simp] theorem tyS144 : sizeT Try.prog 144 = some 1 := by kernel_rfl
@[simp] theorem tyB144 : bytesT Try.prog 144 = some 8 := by kernel_rfl
@[simp] theorem tyA144 : aggT Try.prog 144 = some false := by kernel_rfl
@[simp] theorem tyZ144 : zeroT Try.prog 144 = some [.nilPtr] := by kernel_rfl
@[simp] theorem tyV144 : zeroV Try.prog 144 = some (.nilPtr) := by kernel_rfl
@[simp] theorem tyP144 : placesT Try.prog 144 = none := by kernel_rfl
@[simp] theorem tyS149 : sizeT Try.prog 149 = some 1 := by kernel_rfl
@[simp] theorem tyB149 : bytesT Try.prog 149 = some 16 := by kernel_rfl
@[simp] theorem tyA149 : aggT Try.prog 149 = some false := by kernel_rfl
@[simp] theorem tyZ149 : zeroT Try.prog 149 = some [.nilIface] := by kernel_rfl
@[simp] theorem tyV149 : zeroV Try.prog 149 = some (.nilIface) := by kernel_rfl
@[simp] theorem tyP149 : placesT Try.prog 149 = none := by kernel_rfl
@[simp] theorem tyS150 : sizeT Try.prog 150 = some 1 := by kernel_rfl
@[simp] theorem tyB150 : bytesT Try.prog 150 = some 16 := by kernel_rfl
@[simp] theorem tyA150 : aggT Try.prog 150 = some false := by kernel_rfl
@[simp] theorem tyZ150 : zeroT Try.prog 150 = some [.nilIface] := by kernel_rfl
@[simp] theorem tyV150 : zeroV Try.prog 150 = some (.nilIface) := by kernel_rfl
@[simp] theorem tyP150 : placesT Try.prog 150 = none := by kernel_rfl
@[simp] theorem tyS151 : sizeT Try.prog 151 = some 2 := by kernel_rfl
@[simp] theorem tyB151 : bytesT Try.prog 151 = some 24 := by kernel_rfl
@[simp] theorem tyA151 : aggT Try.prog 151 = some true := by kernel_rfl
@[simp] theorem tyZ151 : zeroT Try.prog 151 = some [.nilIface, .int .i64 0] := by kernel_rfl
@[simp] theorem tyV151 : zeroV Try.prog 151 = some (.agg [.nilIface, .int .i64 0]) := by kernel_rfl
@[simp] theorem tyP151 : placesT Try.prog 151 = some [(0, 1), (1, 1)] := by kernel_rfl
@[simp] theorem tyF151_0 : fieldT Try.prog 151 0 = some (0, 150) := by kernel_rfl
@[simp] theorem tyF151_1 : fieldT Try.prog 151 1 = some (1, 3) := by kernel_rfl
@[simp] theorem tyS152 : sizeT Try.prog 152 = some 2 := by kernel_rfl
@[simp] theorem tyB152 : bytesT Try.prog 152 = some 24 := by kernel_rfl
@[simp] theorem tyA152 : aggT Try.prog 152 = some true := by kernel_rfl
@[simp] theorem tyZ152 : zeroT Try.prog 152 = some [.nilIface, .int .i64 0] := by kernel_rfl
@[simp] theorem tyV152 : zeroV Try.prog 152 = some (.agg [.nilIface, .int .i64 0]) := by kernel_rfl
@[simp] theorem tyP152 : placesT Try.prog 152 = some [(0, 1), (1, 1)] := by kernel_rfl
@[simp] theorem tyF152_0 : fieldT Try.prog 152 0 = some (0, 150) := by kernel_rfl
@[simp] theorem tyF152_1 : fieldT Try.prog 152 1 = some (1, 3) := by kernel_rfl
@[simp] theorem tyU156 : Try.prog.underlying 156 = some (.pointer 259) := by kernel_rfl
@[simp] theorem tyS156 : sizeT Try.prog 156 = some 1 := by kernel_rfl
@[simp] theorem tyB156 : bytesT Try.prog 156 = some 8 := by kernel_rfl
@[simp] theorem tyA156 : aggT Try.prog 156 = some false := by kernel_rfl
@[simp] theorem tyZ156 : zeroT Try.prog 156 = some [.nilPtr] := by kernel_rfl
@[simp] theorem tyV156 : zeroV Try.prog 156 = some (.nilPtr) := by kernel_rfl
@[simp] theorem tyP156 : placesT Try.prog 156 = none := by kernel_rfl
@[simp] theorem tyU161 : Try.prog.underlying 161 = some (.pointer 263) := by kernel_rfl
@[simp] theorem tyS161 : sizeT Try.prog 161 = some 1 := by kernel_rfl
@[simp] theorem tyB161 : bytesT Try.prog 161 = some 8 := by kernel_rfl
@[simp] theorem tyA161 : aggT Try.prog 161 = some false := by kernel_rfl
@[simp] theorem tyZ161 : zeroT Try.prog 161 = some [.nilPtr] := by kernel_rfl
@[simp] theorem tyV161 : zeroV Try.prog 161 = some (.nilPtr) := by kernel_rfl
@[simp] theorem tyP161 : placesT Try.prog 161 = none := by kernel_rfl
@[simp] theorem tyS165 : sizeT Try.prog 165 = some 4 := by kernel_rfl
@[simp] theorem tyB165 : bytesT Try.prog 165 = some 32 := by kernel_rfl
@[simp] theorem tyA165 : aggT Try.prog 165 = some true := by kernel_rfl
@[simp] theorem tyZ165 : zeroT Try.prog 165 = some [.int .i64 0, .int .i64 0, .int .i64 0, .bool false] := by kernel_rfl
@[simp] theorem tyV165 : zeroV Try.prog 165 = some (.agg [.int .i64 0, .int .i64 0, .int .i64 0, .bool false]) := by kernel_rfl
@[simp] theorem tyP165 : placesT Try.prog 165 = some [(0, 1), (1, 1), (2, 1), (3, 1)] := by kernel_rfl
@[simp] theorem tyF165_0 : fieldT Try.prog 165 0 = some (0, 3) := by kernel_rfl
@[simp] theorem tyF165_1 : fieldT Try.prog 165 1 = some (1, 3) := by kernel_rfl
@[simp] theorem tyF165_2 : fieldT Try.prog 165 2 = some (2, 3) := by kernel_rfl
@[simp] theorem tyF165_3 : fieldT Try.prog 165 3 = some (3, 4) := by kernel_rfl
@[simp] theorem tyU166 : Try.prog.underlying 166 = some (.pointer 271) := by kernel_rfl
@[simp] theorem tyS166 : sizeT Try.prog 166 = some 1 := by kernel_rfl
@[simp] theorem tyB166 : bytesT Try.prog 166 = some 8 := by kernel_rfl
@[simp] theorem tyA166 : aggT Try.prog 166 = some false := by kernel_rfl
@[simp] theorem tyZ166 : zeroT Try.prog 166 = some [.nilPtr] := by kernel_rfl
@[simp] theorem tyV166 : zeroV Try.prog 166 = some (.nilPtr) := by kernel_rfl
@[simp] theorem tyP166 : placesT Try.prog 166 = none := by kernel_rfl
@[simp] theorem tyU180 : Try.prog.underlying 180 = some (.int .u64) := by kernel_rfl
@[simp] theorem tyS180 : sizeT Try.prog 180 = some 1 := by kernel_rfl
@[simp] theorem tyB180 : bytesT Try.prog 180 = some 8 := by kernel_rfl
@[simp] theorem tyA180 : aggT Try.prog 180 = some false := by kernel_rfl
@[simp] theorem tyZ180 : zeroT Try.prog 180 = some [.int .u64 0] := by kernel_rfl
@[simp] theorem tyV180 : zeroV Try.prog 180 = some (.int .u64 0) := by kernel_rfl
@[simp] theorem tyP180 : placesT Try.prog 180 = none := by kernel_rfl
@[simp] theorem tyU181 : Try.prog.underlying 181 = some (.pointer 183) := by kernel_rfl
@[simp] theorem tyS181 : sizeT Try.prog 181 = some 1 := by kernel_rfl
@[simp] theorem tyB181 : bytesT Try.prog 181 = some 8 := by kernel_rfl
@[simp] theorem tyA181 : aggT Try.prog 181 = some false := by kernel_rfl
@[simp] theorem tyZ181 : zeroT Try.prog 181 = some [.nilPtr] := by kernel_rfl
@[simp] theorem tyV181 : zeroV Try.prog 181 = some (.nilPtr) := by kernel_rfl
@[simp] theorem tyP181 : placesT Try.prog 181 = none := by kernel_rfl
@[simp] theorem tyS182 : sizeT Try.prog 182 = some 3 := by kernel_rfl
@[simp] theorem tyB182 : bytesT Try.prog 182 = some 40 := by kernel_rfl
@[simp] theorem tyA182 : aggT Try.prog 182 = some true := by kernel_rfl
@[simp] theorem tyZ182 : zeroT Try.prog 182 = some [.nilSlice, .int .i64 0, .bool false] := by kernel_rfl
@[simp] theorem tyV182 : zeroV Try.prog 182 = some (.agg [.nilSlice, .int .i64 0, .bool false]) := by kernel_rfl
@[simp] theorem tyP182 : placesT Try.prog 182 = some [(0, 1), (1, 1), (2, 1)] := by kernel_rfl
@[simp] theorem tyF182_0 : fieldT Try.prog 182 0 = some (0, 34) := by kernel_rfl
@[simp] theorem tyF182_1 : fieldT Try.prog 182 1 = some (1, 3) := by kernel_rfl
@[simp] theorem tyF182_2 : fieldT Try.prog 182 2 = some (2, 4) := by kernel_rfl
@[simp] theorem tyS183 : sizeT Try.prog 183 = some 3 := by kernel_rfl
@[simp] theorem tyB183 : bytesT Try.prog 183 = some 40 := by kernel_rfl
@[simp] theorem tyA183 : aggT Try.prog 183 = some true := by kernel_rfl
@[simp] theorem tyZ183 : zeroT Try.prog 183 = some [.nilSlice, .int .i64 0, .bool false] := by kernel_rfl
@[simp] theorem tyV183 : zeroV Try.prog 183 = some (.agg [.nilSlice, .int .i64 0, .bool false]) := by kernel_rfl
@[simp] theorem tyP183 : placesT Try.prog 183 = some [(0, 1), (1, 1), (2, 1)] := by kernel_rfl
@[simp] theorem tyF183_0 : fieldT Try.prog 183 0 = some (0, 34) := by kernel_rfl
@[simp] theorem tyF183_1 : fieldT Try.prog 183 1 = some (1, 3) := by kernel_rfl
@[simp] theorem tyF183_2 : fieldT Try.prog 183 2 = some (2, 4) := by kernel_rfl
@[simp] theorem tyU186 : Try.prog.underlying 186 = some (.pointer 188) := by kernel_rfl
@[simp] theorem tyS186 : sizeT Try.prog 186 = some 1 := by kernel_rfl
@[simp] theorem tyB186 : bytesT Try.prog 186 = some 8 := by kernel_rfl
@[simp] theorem tyA186 : aggT Try.prog 186 = some false := by kernel_rfl
@[simp] theorem tyZ186 : zeroT Try.prog 186 = some [.nilPtr] := by kernel_rfl
@[simp] theorem tyV186 : zeroV Try.prog 186 = some (.nilPtr) := by kernel_rfl
@[simp] theorem tyP186 : placesT Try.prog 186 = none := by kernel_rfl
@[simp] theorem tyS187 : sizeT Try.prog 187 = some 3 := by kernel_rfl
@[simp] theorem tyB187 : bytesT Try.prog 187 = some 40 := by kernel_rfl
@[simp] theorem tyA187 : aggT Try.prog 187 = some true := by kernel_rfl
@[simp] theorem tyZ187 : zeroT Try.prog 187 = some [.nilSlice, .int .i64 0, .int .i64 0] := by kernel_rfl
@[simp] theorem tyV187 : zeroV Try.prog 187 = some (.agg [.nilSlice, .int .i64 0, .int .i64 0]) := by kernel_rfl
@[simp] theorem tyP187 : placesT Try.prog 187 = some [(0, 1), (1, 1), (2, 1)] := by kernel_rfl
@[simp] theorem tyF187_0 : fieldT Try.prog 187 0 = some (0, 34) := by kernel_rfl
@[simp] theorem tyF187_1 : fieldT Try.prog 187 1 = some (1, 3) := by kernel_rfl
@[simp] theorem tyF187_2 : fieldT Try.prog 187 2 = some (2, 3) := by kernel_rfl
@[simp] theorem tyS188 : sizeT Try.prog 188 = some 3 := by kernel_rfl
@[simp] theorem tyB188 : bytesT Try.prog 188 = some 40 := by kernel_rfl
@[simp] theorem tyA188 : aggT Try.prog 188 = some true := by kernel_rfl
@[simp] theorem tyZ188 : zeroT Try.prog 188 = some [.nilSlice, .int .i64 0, .int .i64 0] := by kernel_rfl
@[simp] theorem tyV188 : zeroV Try.prog 188 = some (.agg [.nilSlice, .int .i64 0, .int .i64 0]) := by kernel_rfl
@[simp] theorem tyP188 : placesT Try.prog 188 = some [(0, 1), (1, 1), (2, 1)] := by kernel_rfl
@[simp] theorem tyF188_0 : fieldT Try.prog 188 0 = some (0, 34) := by kernel_rfl
@[simp] theorem tyF188_1 : fieldT Try.prog 188 1 = some (1, 3) := by kernel_rfl
@[simp] theorem tyF188_2 : fieldT Try.prog 188 2 = some (2, 3) := by kernel_rfl
@[simp] theorem tyS196 : sizeT Try.prog 196 = some 6 := by kernel_rfl
@[simp] theorem tyB196 : bytesT Try.prog 196 = some 6 := by kernel_rfl
@[simp] theorem tyA196 : aggT Try.prog 196 = some true := by kernel_rfl
@[simp] theorem tyZ196 : zeroT Try.prog 196 = some [.bool false, .bool false, .bool false, .bool false, .bool false, .bool false] := by kernel_rfl
@[simp] theorem tyV196 : zeroV Try.prog 196 = some (.agg [.bool false, .bool false, .bool false, .bool false, .bool false, .bool false]) := by kernel_rfl
@[simp] theorem tyP196 : placesT Try.prog 196 = some [(0, 1), (1, 1), (2, 1), (3, 1), (4, 1), (5, 1)] := by kernel_rfl
@[simp] theorem tyF196_0 : fieldT Try.prog 196 0 = some (0, 4) := by kernel_rfl
@[simp] theorem tyF196_1 : fieldT Try.prog 196 1 = some (1, 4) := by kernel_rfl
@[simp] theorem tyF196_2 : fieldT Try.prog 196 2 = some (2, 4) := by kernel_rfl
@[simp] theorem tyF196_3 : fieldT Try.prog 196 3 = some (3, 4) := by kernel_rfl
@[simp] theorem tyF196_4 : fieldT Try.prog 196 4 = some (4, 4) := by kernel_rfl
@[simp] theorem tyF196_5 : fieldT Try.prog 196 5 = some (5, 4) := by kernel_rfl
@[simp] theorem tyS197 : sizeT Try.prog 197 = some 6 := by kernel_rfl
@[simp] theorem tyB197 : bytesT Try.prog 197 = some 6 := by kernel_rfl
@[simp] theorem tyA197 : aggT Try.prog 197 = some true := by kernel_rfl
@[simp] theorem tyZ197 : zeroT Try.prog 197 = some [.bool false, .bool false, .bool false, .bool false, .bool false, .bool false] := by kernel_rfl
@[simp] theorem tyV197 : zeroV Try.prog 197 = some (.agg [.bool false, .bool false, .bool false, .bool false, .bool false, .bool false]) := by kernel_rfl
@[simp] theorem tyP197 : placesT Try.prog 197 = some [(0, 1), (1, 1), (2, 1), (3, 1), (4, 1), (5, 1)] := by kernel_rfl
@[simp] theorem tyF197_0 : fieldT Try.prog 197 0 = some (0, 4) := by kernel_rfl
@[simp] theorem tyF197_1 : fieldT Try.prog 197 1 = some (1, 4) := by kernel_rfl
@[simp] theorem tyF197_2 : fieldT Try.prog 197 2 = some (2, 4) := by kernel_rfl
@[simp] theorem tyF197_3 : fieldT Try.prog 197 3 = some (3, 4) := by kernel_rfl
@[simp] theorem tyF197_4 : fieldT Try.prog 197 4 = some (4, 4) := by kernel_rfl
@[simp] theorem tyF197_5 : fieldT Try.prog 197 5 = some (5, 4) := by kernel_rfl
@[simp] theorem tyS203 : sizeT Try.prog 203 = some 5 := by kernel_rfl
@[simp] theorem tyB203 : bytesT Try.prog 203 = some 72 := by kernel_rfl
@[simp] theorem tyA203 : aggT Try.prog 203 = some true := by kernel_rfl
@[simp] theorem tyZ203 : zeroT Try.prog 203 = some [.int .i64 0, .int .i64 0, .int .i64 0, .nilSlice, .nilSlice] := by kernel_rfl
@[simp] theorem tyV203 : zeroV Try.prog 203 = some (.agg [.int .i64 0, .int .i64 0, .int .i64 0, .nilSlice, .nilSlice]) := by kernel_rfl
@[simp] theorem tyP203 : placesT Try.prog 203 = some [(0, 1), (1, 1), (2, 1), (3, 1), (4, 1)] := by kernel_rfl
@[simp] theorem tyF203_0 : fieldT Try.prog 203 0 = some (0, 3) := by kernel_rfl
@[simp] theorem tyF203_1 : fieldT Try.prog 203 1 = some (1, 3) := by kernel_rfl
@[simp] theorem tyF203_2 : fieldT Try.prog 203 2 = some (2, 3) := by kernel_rfl
@[simp] theorem tyF203_3 : fieldT Try.prog 203 3 = some (3, 34) := by kernel_rfl
@[simp] theorem tyF203_4 : fieldT Try.prog 203 4 = some (4, 34) := by kernel_rfl
@[simp] theorem tyS204 : sizeT Try.prog 204 = some 5 := by kernel_rfl
@[simp] theorem tyB204 : bytesT Try.prog 204 = some 72 := by kernel_rfl
@[simp] theorem tyA204 : aggT Try.prog 204 = some true := by kernel_rfl
@[simp] theorem tyZ204 : zeroT Try.prog 204 = some [.int .i64 0, .int .i64 0, .int .i64 0, .nilSlice, .nilSlice] := by kernel_rfl
@[simp] theorem tyV204 : zeroV Try.prog 204 = some (.agg [.int .i64 0, .int .i64 0, .int .i64 0, .nilSlice, .nilSlice]) := by kernel_rfl
@[simp] theorem tyP204 : placesT Try.prog 204 = some [(0, 1), (1, 1), (2, 1), (3, 1), (4, 1)] := by kernel_rfl
@[simp] theorem tyF204_0 : fieldT Try.prog 204 0 = some (0, 3) := by kernel_rfl
@[simp] theorem tyF204_1 : fieldT Try.prog 204 1 = some (1, 3) := by kernel_rfl
@[simp] theorem tyF204_2 : fieldT Try.prog 204 2 = some (2, 3) := by kernel_rfl
@[simp] theorem tyF204_3 : fieldT Try.prog 204 3 = some (3, 34) := by kernel_rfl
@[simp] theorem tyF204_4 : fieldT Try.prog 204 4 = some (4, 34) := by kernel_rfl
@[simp] theorem tyU205 : Try.prog.underlying 205 = some (.pointer 293) := by kernel_rfl
@[simp] theorem tyS205 : sizeT Try.prog 205 = some 1 := by kernel_rfl
@[simp] theorem tyB205 : bytesT Try.prog 205 = some 8 := by kernel_rfl
@[simp] theorem tyA205 : aggT Try.prog 205 = some false := by kernel_rfl
@[simp] theorem tyZ205 : zeroT Try.prog 205 = some [.nilPtr] := by kernel_rfl
@[simp] theorem tyV205 : zeroV Try.prog 205 = some (.nilPtr) := by kernel_rfl
@[simp] theorem tyP205 : placesT Try.prog 205 = none := by kernel_rfl
@[simp] theorem tyS208 : sizeT Try.prog 208 = some 5 := by kernel_rfl
@[simp] theorem tyB208 : bytesT Try.prog 208 = some 72 := by kernel_rfl
@[simp] theorem tyA208 : aggT Try.prog 208 = some true := by kernel_rfl
@[simp] theorem tyZ208 : zeroT Try.prog 208 = some [.int .i64 0, .int .i64 0, .int .i64 0, .nilSlice, .nilSlice] := by kernel_rfl
@[simp] theorem tyV208 : zeroV Try.prog 208 = some (.agg [.int .i64 0, .int .i64 0, .int .i64 0, .nilSlice, .nilSlice]) := by kernel_rfl
@[simp] theorem tyP208 : placesT Try.prog 208 = some [(0, 1), (1, 1), (2, 1), (3, 1), (4, 1)] := by kernel_rfl
@[simp] theorem tyF208_0 : fieldT Try.prog 208 0 = some (0, 3) := by kernel_rfl
@[simp] theorem tyF208_1 : fieldT Try.prog 208 1 = some (1, 3) := by kernel_rfl
@[simp] theorem tyF208_2 : fieldT Try.prog 208 2 = some (2, 3) := by kernel_rfl
@[simp] theorem tyF208_3 : fieldT Try.prog 208 3 = some (3, 34) := by kernel_rfl
@[simp] theorem tyF208_4 : fieldT Try.prog 208 4 = some (4, 34) := by kernel_rfl
@[simp] theorem tyU210 : Try.prog.underlying 210 = some (.pointer 215) := by kernel_rfl
@[simp] theorem tyS210 : sizeT Try.prog 210 = some 1 := by kernel_rfl
@[simp] theorem tyB210 : bytesT Try.prog 210 = some 8 := by kernel_rfl
@[simp] theorem tyA210 : aggT Try.prog 210 = some false := by kernel_rfl
@[simp] theorem tyZ210 : zeroT Try.prog 210 = some [.nilPtr] := by kernel_rfl
@[simp] theorem tyV210 : zeroV Try.prog 210 = some (.nilPtr) := by kernel_rfl
@[simp] theorem tyP210 : placesT Try.prog 210 = none := by kernel_rfl
@[simp] theorem tyS211 : sizeT Try.prog 211 = some 2 := by kernel_rfl
@[simp] theorem tyB211 : bytesT Try.prog 211 = some 32 := by kernel_rfl
@[simp] theorem tyA211 : aggT Try.prog 211 = some true := by kernel_rfl
@[simp] theorem tyZ211 : zeroT Try.prog 211 = some [.str ByteArray.empty, .str ByteArray.empty] := by kernel_rfl
@[simp] theorem tyV211 : zeroV Try.prog 211 = some (.agg [.str ByteArray.empty, .str ByteArray.empty]) := by kernel_rfl
@[simp] theorem tyP211 : placesT Try.prog 211 = some [(0, 1), (1, 1)] := by kernel_rfl
@[simp] theorem tyF211_0 : fieldT Try.prog 211 0 = some (0, 9) := by kernel_rfl
@[simp] theorem tyF211_1 : fieldT Try.prog 211 1 = some (1, 9) := by kernel_rfl
@[simp] theorem tyS212 : sizeT Try.prog 212 = some 2 := by kernel_rfl
@[simp] theorem tyB212 : bytesT Try.prog 212 = some 32 := by kernel_rfl
@[simp] theorem tyA212 : aggT Try.prog 212 = some true := by kernel_rfl
@[simp] theorem tyZ212 : zeroT Try.prog 212 = some [.str ByteArray.empty, .str ByteArray.empty] := by kernel_rfl
@[simp] theorem tyV212 : zeroV Try.prog 212 = some (.agg [.str ByteArray.empty, .str ByteArray.empty]) := by kernel_rfl
@[simp] theorem tyP212 : placesT Try.prog 212 = some [(0, 1), (1, 1)] := by kernel_rfl
@[simp] theorem tyF212_0 : fieldT Try.prog 212 0 = some (0, 9) := by kernel_rfl
@[simp] theorem tyF212_1 : fieldT Try.prog 212 1 = some (1, 9) := by kernel_rfl
@[simp] theorem tyU213 : Try.prog.underlying 213 = some (.map 3 212) := by kernel_rfl
@[simp] theorem tyS213 : sizeT Try.prog 213 = some 1 := by kernel_rfl
@[simp] theorem tyB213 : bytesT Try.prog 213 = some 8 := by kernel_rfl
@[simp] theorem tyA213 : aggT Try.prog 213 = some false := by kernel_rfl
@[simp] theorem tyZ213 : zeroT Try.prog 213 = some [.nilMap] := by kernel_rfl
@[simp] theorem tyV213 : zeroV Try.prog 213 = some (.nilMap) := by kernel_rfl
@[simp] theorem tyP213 : placesT Try.prog 213 = none := by kernel_rfl
@[simp] theorem tyS214 : sizeT Try.prog 214 = some 6 := by kernel_rfl
@[simp] theorem tyB214 : bytesT Try.prog 214 = some 64 := by kernel_rfl
@[simp] theorem tyA214 : aggT Try.prog 214 = some true := by kernel_rfl
@[simp] theorem tyZ214 : zeroT Try.prog 214 = some [.int .i64 0, .nilMap, .nilSlice, .int .i64 0, .int .i64 0, .bool false] := by kernel_rfl
@[simp] theorem tyV214 : zeroV Try.prog 214 = some (.agg [.int .i64 0, .nilMap, .nilSlice, .int .i64 0, .int .i64 0, .bool false]) := by kernel_rfl
@[simp] theorem tyP214 : placesT Try.prog 214 = some [(0, 1), (1, 1), (2, 1), (3, 1), (4, 1), (5, 1)] := by kernel_rfl
@[simp] theorem tyF214_0 : fieldT Try.prog 214 0 = some (0, 3) := by kernel_rfl
@[simp] theorem tyF214_1 : fieldT Try.prog 214 1 = some (1, 213) := by kernel_rfl
@[simp] theorem tyF214_2 : fieldT Try.prog 214 2 = some (2, 60) := by kernel_rfl
@[simp] theorem tyF214_3 : fieldT Try.prog 214 3 = some (3, 3) := by kernel_rfl
@[simp] theorem tyF214_4 : fieldT Try.prog 214 4 = some (4, 3) := by kernel_rfl
@[simp] theorem tyF214_5 : fieldT Try.prog 214 5 = some (5, 4) := by kernel_rfl
@[simp] theorem tyS215 : sizeT Try.prog 215 = some 6 := by kernel_rfl
@[simp] theorem tyB215 : bytesT Try.prog 215 = some 64 := by kernel_rfl
@[simp] theorem tyA215 : aggT Try.prog 215 = some true := by kernel_rfl
@[simp] theorem tyZ215 : zeroT Try.prog 215 = some [.int .i64 0, .nilMap, .nilSlice, .int .i64 0, .int .i64 0, .bool false] := by kernel_rfl
@[simp] theorem tyV215 : zeroV Try.prog 215 = some (.agg [.int .i64 0, .nilMap, .nilSlice, .int .i64 0, .int .i64 0, .bool false]) := by kernel_rfl
@[simp] theorem tyP215 : placesT Try.prog 215 = some [(0, 1), (1, 1), (2, 1), (3, 1), (4, 1), (5, 1)] := by kernel_rfl
@[simp] theorem tyF215_0 : fieldT Try.prog 215 0 = some (0, 3) := by kernel_rfl
@[simp] theorem tyF215_1 : fieldT Try.prog 215 1 = some (1, 213) := by kernel_rfl
@[simp] theorem tyF215_2 : fieldT Try.prog 215 2 = some (2, 60) := by kernel_rfl
@[simp] theorem tyF215_3 : fieldT Try.prog 215 3 = some (3, 3) := by kernel_rfl
@[simp] theorem tyF215_4 : fieldT Try.prog 215 4 = some (4, 3) := by kernel_rfl
@[simp] theorem tyF215_5 : fieldT Try.prog 215 5 = some (5, 4) := by kernel_rfl
@[simp] theorem tyS221 : sizeT Try.prog 221 = some 9 := by kernel_rfl
@[simp] theorem tyB221 : bytesT Try.prog 221 = some 32 := by kernel_rfl
@[simp] theorem tyA221 : aggT Try.prog 221 = some true := by kernel_rfl
@[simp] theorem tyZ221 : zeroT Try.prog 221 = some [.bool false, .bool false, .bool false, .bool false, .bool false, .bool false, .int .i64 0, .int .i64 0, .int .i64 0] := by kernel_rfl
@[simp] theorem tyV221 : zeroV Try.prog 221 = some (.agg [.bool false, .bool false, .bool false, .bool false, .bool false, .bool false, .int .i64 0, .int .i64 0, .int .i64 0]) := by kernel_rfl
@[simp] theorem tyP221 : placesT Try.prog 221 = some [(0, 1), (1, 1), (2, 1), (3, 1), (4, 1), (5, 1), (6, 1), (7, 1), (8, 1)] := by kernel_rfl
@[simp] theorem tyF221_0 : fieldT Try.prog 221 0 = some (0, 4) := by kernel_rfl
@[simp] theorem tyF221_1 : fieldT Try.prog 221 1 = some (1, 4) := by kernel_rfl
@[simp] theorem tyF221_2 : fieldT Try.prog 221 2 = some (2, 4) := by kernel_rfl
@[simp] theorem tyF221_3 : fieldT Try.prog 221 3 = some (3, 4) := by kernel_rfl
@[simp] theorem tyF221_4 : fieldT Try.prog 221 4 = some (4, 4) := by kernel_rfl
@[simp] theorem tyF221_5 : fieldT Try.prog 221 5 = some (5, 4) := by kernel_rfl
@[simp] theorem tyF221_6 : fieldT Try.prog 221 6 = some (6, 3) := by kernel_rfl
@[simp] theorem tyF221_7 : fieldT Try.prog 221 7 = some (7, 3) := by kernel_rfl
@[simp] theorem tyF221_8 : fieldT Try.prog 221 8 = some (8, 3) := by kernel_rfl
@[simp] theorem tyS222 : sizeT Try.prog 222 = some 9 := by kernel_rfl
@[simp] theorem tyB222 : bytesT Try.prog 222 = some 32 := by kernel_rfl
@[simp] theorem tyA222 : aggT Try.prog 222 = some true := by kernel_rfl
@[simp] theorem tyZ222 : zeroT Try.prog 222 = some [.bool false, .bool false, .bool false, .bool false, .bool false, .bool false, .int .i64 0, .int .i64 0, .int .i64 0] := by kernel_rfl
@[simp] theorem tyV222 : zeroV Try.prog 222 = some (.agg [.bool false, .bool false, .bool false, .bool false, .bool false, .bool false, .int .i64 0, .int .i64 0, .int .i64 0]) := by kernel_rfl
@[simp] theorem tyP222 : placesT Try.prog 222 = some [(0, 1), (1, 1), (2, 1), (3, 1), (4, 1), (5, 1), (6, 1), (7, 1), (8, 1)] := by kernel_rfl
@[simp] theorem tyF222_0 : fieldT Try.prog 222 0 = some (0, 4) := by kernel_rfl
@[simp] theorem tyF222_1 : fieldT Try.prog 222 1 = some (1, 4) := by kernel_rfl
@[simp] theorem tyF222_2 : fieldT Try.prog 222 2 = some (2, 4) := by kernel_rfl
@[simp] theorem tyF222_3 : fieldT Try.prog 222 3 = some (3, 4) := by kernel_rfl
@[simp] theorem tyF222_4 : fieldT Try.prog 222 4 = some (4, 4) := by kernel_rfl
@[simp] theorem tyF222_5 : fieldT Try.prog 222 5 = some (5, 4) := by kernel_rfl
@[simp] theorem tyF222_6 : fieldT Try.prog 222 6 = some (6, 3) := by kernel_rfl
@[simp] theorem tyF222_7 : fieldT Try.prog 222 7 = some (7, 3) := by kernel_rfl
@[simp] theorem tyF222_8 : fieldT Try.prog 222 8 = some (8, 3) := by kernel_rfl
@[simp] theorem tyU231 : Try.prog.underlying 231 = some (.map 3 34) := by kernel_rfl
@[simp] theorem tyS231 : sizeT Try.prog 231 = some 1 := by kernel_rfl
@[simp] theorem tyB231 : bytesT Try.prog 231 = some 8 := by kernel_rfl
@[simp] theorem tyA231 : aggT Try.prog 231 = some false := by kernel_rfl
@[simp] theorem tyZ231 : zeroT Try.prog 231 = some [.nilMap] := by kernel_rfl
@[simp] theorem tyV231 : zeroV Try.prog 231 = some (.nilMap) := by kernel_rfl
@[simp] theorem tyP231 : placesT Try.prog 231 = none := by kernel_rfl
@[simp] theorem tyU232 : Try.prog.underlying 232 = some (.slice 236) := by kernel_rfl
@[simp] theorem tyS232 : sizeT Try.prog 232 = some 1 := by kernel_rfl
@[simp] theorem tyB232 : bytesT Try.prog 232 = some 24 := by kernel_rfl
@[simp] theorem tyA232 : aggT Try.prog 232 = some false := by kernel_rfl
@[simp] theorem tyZ232 : zeroT Try.prog 232 = some [.nilSlice] := by kernel_rfl
@[simp] theorem tyV232 : zeroV Try.prog 232 = some (.nilSlice) := by kernel_rfl
@[simp] theorem tyE232 : sliceT Try.prog 232 = some 236 := by kernel_rfl
@[simp] theorem tyP232 : placesT Try.prog 232 = none := by kernel_rfl
@[simp] theorem tyS234 : sizeT Try.prog 234 = some 1 := by kernel_rfl
@[simp] theorem tyB234 : bytesT Try.prog 234 = some 8 := by kernel_rfl
@[simp] theorem tyA234 : aggT Try.prog 234 = some false := by kernel_rfl
@[simp] theorem tyZ234 : zeroT Try.prog 234 = some [.nilFunc] := by kernel_rfl
@[simp] theorem tyV234 : zeroV Try.prog 234 = some (.nilFunc) := by kernel_rfl
@[simp] theorem tyP234 : placesT Try.prog 234 = none := by kernel_rfl
@[simp] theorem tyS235 : sizeT Try.prog 235 = some 5 := by kernel_rfl
@[simp] theorem tyB235 : bytesT Try.prog 235 = some 40 := by kernel_rfl
@[simp] theorem tyA235 : aggT Try.prog 235 = some true := by kernel_rfl
@[simp] theorem tyZ235 : zeroT Try.prog 235 = some [.int .i64 0, .nilFunc, .int .i64 0, .int .i64 0, .int .i64 0] := by kernel_rfl
@[simp] theorem tyV235 : zeroV Try.prog 235 = some (.agg [.int .i64 0, .nilFunc, .int .i64 0, .int .i64 0, .int .i64 0]) := by kernel_rfl
@[simp] theorem tyP235 : placesT Try.prog 235 = some [(0, 1), (1, 1), (2, 1), (3, 1), (4, 1)] := by kernel_rfl
@[simp] theorem tyF235_0 : fieldT Try.prog 235 0 = some (0, 3) := by kernel_rfl
@[simp] theorem tyF235_1 : fieldT Try.prog 235 1 = some (1, 234) := by kernel_rfl
@[simp] theorem tyF235_2 : fieldT Try.prog 235 2 = some (2, 3) := by kernel_rfl
@[simp] theorem tyF235_3 : fieldT Try.prog 235 3 = some (3, 3) := by kernel_rfl
@[simp] theorem tyF235_4 : fieldT Try.prog 235 4 = some (4, 3) := by kernel_rfl
@[simp] theorem tyS236 : sizeT Try.prog 236 = some 5 := by kernel_rfl
@[simp] theorem tyB236 : bytesT Try.prog 236 = some 40 := by kernel_rfl
@[simp] theorem tyA236 : aggT Try.prog 236 = some true := by kernel_rfl
@[simp] theorem tyZ236 : zeroT Try.prog 236 = some [.int .i64 0, .nilFunc, .int .i64 0, .int .i64 0, .int .i64 0] := by kernel_rfl
@[simp] theorem tyV236 : zeroV Try.prog 236 = some (.agg [.int .i64 0, .nilFunc, .int .i64 0, .int .i64 0, .int .i64 0]) := by kernel_rfl
@[simp] theorem tyP236 : placesT Try.prog 236 = some [(0, 1), (1, 1), (2, 1), (3, 1), (4, 1)] := by kernel_rfl
@[simp] theorem tyF236_0 : fieldT Try.prog 236 0 = some (0, 3) := by kernel_rfl
@[simp] theorem tyF236_1 : fieldT Try.prog 236 1 = some (1, 234) := by kernel_rfl
@[simp] theorem tyF236_2 : fieldT Try.prog 236 2 = some (2, 3) := by kernel_rfl
@[simp] theorem tyF236_3 : fieldT Try.prog 236 3 = some (3, 3) := by kernel_rfl
@[simp] theorem tyF236_4 : fieldT Try.prog 236 4 = some (4, 3) := by kernel_rfl
@[simp] theorem tyU237 : Try.prog.underlying 237 = some (.pointer 3) := by kernel_rfl
@[simp] theorem tyS237 : sizeT Try.prog 237 = some 1 := by kernel_rfl
@[simp] theorem tyB237 : bytesT Try.prog 237 = some 8 := by kernel_rfl
@[simp] theorem tyA237 : aggT Try.prog 237 = some false := by kernel_rfl
@[simp] theorem tyZ237 : zeroT Try.prog 237 = some [.nilPtr] := by kernel_rfl
@[simp] theorem tyV237 : zeroV Try.prog 237 = some (.nilPtr) := by kernel_rfl
@[simp] theorem tyP237 : placesT Try.prog 237 = none := by kernel_rfl
@[simp] theorem tyU238 : Try.prog.underlying 238 = some (.pointer 120) := by kernel_rfl
@[simp] theorem tyS238 : sizeT Try.prog 238 = some 1 := by kernel_rfl
@[simp] theorem tyB238 : bytesT Try.prog 238 = some 8 := by kernel_rfl
@[simp] theorem tyA238 : aggT Try.prog 238 = some false := by kernel_rfl
@[simp] theorem tyZ238 : zeroT Try.prog 238 = some [.nilPtr] := by kernel_rfl
@[simp] theorem tyV238 : zeroV Try.prog 238 = some (.nilPtr) := by kernel_rfl
@[simp] theorem tyP238 : placesT Try.prog 238 = none := by kernel_rfl
@[simp] theorem tyU242 : Try.prog.underlying 242 = some (.map 3 237) := by kernel_rfl
@[simp] theorem tyS242 : sizeT Try.prog 242 = some 1 := by kernel_rfl
@[simp] theorem tyB242 : bytesT Try.prog 242 = some 8 := by kernel_rfl
@[simp] theorem tyA242 : aggT Try.prog 242 = some false := by kernel_rfl
@[simp] theorem tyZ242 : zeroT Try.prog 242 = some [.nilMap] := by kernel_rfl
@[simp] theorem tyV242 : zeroV Try.prog 242 = some (.nilMap) := by kernel_rfl
@[simp] theorem tyP242 : placesT Try.prog 242 = none := by kernel_rfl
@[simp] theorem tyU243 : Try.prog.underlying 243 = some (.map 3 4) := by kernel_rfl
@[simp] theorem tyS243 : sizeT Try.prog 243 = some 1 := by kernel_rfl
@[simp] theorem tyB243 : bytesT Try.prog 243 = some 8 := by kernel_rfl
@[simp] theorem tyA243 : aggT Try.prog 243 = some false := by kernel_rfl
@[simp] theorem tyZ243 : zeroT Try.prog 243 = some [.nilMap] := by kernel_rfl
@[simp] theorem tyV243 : zeroV Try.prog 243 = some (.nilMap) := by kernel_rfl
@[simp] theorem tyP243 : placesT Try.prog 243 = none := by kernel_rfl
@[simp] theorem tyU250 : Try.prog.underlying 250 = some (.pointer 252) := by kernel_rfl
@[simp] theorem tyS250 : sizeT Try.prog 250 = some 1 := by kernel_rfl
@[simp] theorem tyB250 : bytesT Try.prog 250 = some 8 := by kernel_rfl
@[simp] theorem tyA250 : aggT Try.prog 250 = some false := by kernel_rfl
@[simp] theorem tyZ250 : zeroT Try.prog 250 = some [.nilPtr] := by kernel_rfl
@[simp] theorem tyV250 : zeroV Try.prog 250 = some (.nilPtr) := by kernel_rfl
@[simp] theorem tyP250 : placesT Try.prog 250 = none := by kernel_rfl
@[simp] theorem tyS251 : sizeT Try.prog 251 = some 5 := by kernel_rfl
@[simp] theorem tyB251 : bytesT Try.prog 251 = some 40 := by kernel_rfl
@[simp] theorem tyA251 : aggT Try.prog 251 = some true := by kernel_rfl
@[simp] theorem tyZ251 : zeroT Try.prog 251 = some [.int .i64 0, .int .i64 0, .int .i64 0, .int .i64 0, .int .i64 0] := by kernel_rfl
@[simp] theorem tyV251 : zeroV Try.prog 251 = some (.agg [.int .i64 0, .int .i64 0, .int .i64 0, .int .i64 0, .int .i64 0]) := by kernel_rfl
@[simp] theorem tyP251 : placesT Try.prog 251 = some [(0, 1), (1, 1), (2, 1), (3, 1), (4, 1)] := by kernel_rfl
@[simp] theorem tyF251_0 : fieldT Try.prog 251 0 = some (0, 3) := by kernel_rfl
@[simp] theorem tyF251_1 : fieldT Try.prog 251 1 = some (1, 3) := by kernel_rfl
@[simp] theorem tyF251_2 : fieldT Try.prog 251 2 = some (2, 3) := by kernel_rfl
@[simp] theorem tyF251_3 : fieldT Try.prog 251 3 = some (3, 3) := by kernel_rfl
@[simp] theorem tyF251_4 : fieldT Try.prog 251 4 = some (4, 3) := by kernel_rfl
@[simp] theorem tyS252 : sizeT Try.prog 252 = some 5 := by kernel_rfl
@[simp] theorem tyB252 : bytesT Try.prog 252 = some 40 := by kernel_rfl
@[simp] theorem tyA252 : aggT Try.prog 252 = some true := by kernel_rfl
@[simp] theorem tyZ252 : zeroT Try.prog 252 = some [.int .i64 0, .int .i64 0, .int .i64 0, .int .i64 0, .int .i64 0] := by kernel_rfl
@[simp] theorem tyV252 : zeroV Try.prog 252 = some (.agg [.int .i64 0, .int .i64 0, .int .i64 0, .int .i64 0, .int .i64 0]) := by kernel_rfl
@[simp] theorem tyP252 : placesT Try.prog 252 = some [(0, 1), (1, 1), (2, 1), (3, 1), (4, 1)] := by kernel_rfl
@[simp] theorem tyF252_0 : fieldT Try.prog 252 0 = some (0, 3) := by kernel_rfl
@[simp] theorem tyF252_1 : fieldT Try.prog 252 1 = some (1, 3) := by kernel_rfl
@[simp] theorem tyF252_2 : fieldT Try.prog 252 2 = some (2, 3) := by kernel_rfl
@[simp] theorem tyF252_3 : fieldT Try.prog 252 3 = some (3, 3) := by kernel_rfl
@[simp] theorem tyF252_4 : fieldT Try.prog 252 4 = some (4, 3) := by kernel_rfl
@[simp] theorem tyU253 : Try.prog.underlying 253 = some (.pointer 256) := by kernel_rfl
@[simp] theorem tyS253 : sizeT Try.prog 253 = some 1 := by kernel_rfl
@[simp] theorem tyB253 : bytesT Try.prog 253 = some 8 := by kernel_rfl
@[simp] theorem tyA253 : aggT Try.prog 253 = some false := by kernel_rfl
@[simp] theorem tyZ253 : zeroT Try.prog 253 = some [.nilPtr] := by kernel_rfl
@[simp] theorem tyV253 : zeroV Try.prog 253 = some (.nilPtr) := by kernel_rfl
@[simp] theorem tyP253 : placesT Try.prog 253 = none := by kernel_rfl
@[simp] theorem tyU254 : Try.prog.underlying 254 = some (.slice 359) := by kernel_rfl
@[simp] theorem tyS254 : sizeT Try.prog 254 = some 1 := by kernel_rfl
@[simp] theorem tyB254 : bytesT Try.prog 254 = some 24 := by kernel_rfl
@[simp] theorem tyA254 : aggT Try.prog 254 = some false := by kernel_rfl
@[simp] theorem tyZ254 : zeroT Try.prog 254 = some [.nilSlice] := by kernel_rfl
@[simp] theorem tyV254 : zeroV Try.prog 254 = some (.nilSlice) := by kernel_rfl
@[simp] theorem tyE254 : sliceT Try.prog 254 = some 359 := by kernel_rfl
@[simp] theorem tyP254 : placesT Try.prog 254 = none := by kernel_rfl
@[simp] theorem tyS255 : sizeT Try.prog 255 = some 10 := by kernel_rfl
@[simp] theorem tyB255 : bytesT Try.prog 255 = some 112 := by kernel_rfl
@[simp] theorem tyA255 : aggT Try.prog 255 = some true := by kernel_rfl
@[simp] theorem tyZ255 : zeroT Try.prog 255 = some [.int .i64 0, .int .i64 0, .int .i64 0, .nilSlice, .nilSlice, .int .i64 0, .int .i64 0, .int .i64 0, .int .i64 0, .int .i64 0] := by kernel_rfl
@[simp] theorem tyV255 : zeroV Try.prog 255 = some (.agg [.int .i64 0, .int .i64 0, .int .i64 0, .nilSlice, .nilSlice, .int .i64 0, .int .i64 0, .int .i64 0, .int .i64 0, .int .i64 0]) := by kernel_rfl
@[simp] theorem tyP255 : placesT Try.prog 255 = some [(0, 1), (1, 1), (2, 1), (3, 1), (4, 1), (5, 1), (6, 1), (7, 1), (8, 1), (9, 1)] := by kernel_rfl
@[simp] theorem tyF255_0 : fieldT Try.prog 255 0 = some (0, 3) := by kernel_rfl
@[simp] theorem tyF255_1 : fieldT Try.prog 255 1 = some (1, 3) := by kernel_rfl
@[simp] theorem tyF255_2 : fieldT Try.prog 255 2 = some (2, 3) := by kernel_rfl
@[simp] theorem tyF255_3 : fieldT Try.prog 255 3 = some (3, 254) := by kernel_rfl
@[simp] theorem tyF255_4 : fieldT Try.prog 255 4 = some (4, 60) := by kernel_rfl
@[simp] theorem tyF255_5 : fieldT Try.prog 255 5 = some (5, 3) := by kernel_rfl
@[simp] theorem tyF255_6 : fieldT Try.prog 255 6 = some (6, 3) := by kernel_rfl
@[simp] theorem tyF255_7 : fieldT Try.prog 255 7 = some (7, 3) := by kernel_rfl
@[simp] theorem tyF255_8 : fieldT Try.prog 255 8 = some (8, 3) := by kernel_rfl
@[simp] theorem tyF255_9 : fieldT Try.prog 255 9 = some (9, 3) := by kernel_rfl
@[simp] theorem tyS256 : sizeT Try.prog 256 = some 10 := by kernel_rfl
@[simp] theorem tyB256 : bytesT Try.prog 256 = some 112 := by kernel_rfl
@[simp] theorem tyA256 : aggT Try.prog 256 = some true := by kernel_rfl
@[simp] theorem tyZ256 : zeroT Try.prog 256 = some [.int .i64 0, .int .i64 0, .int .i64 0, .nilSlice, .nilSlice, .int .i64 0, .int .i64 0, .int .i64 0, .int .i64 0, .int .i64 0] := by kernel_rfl
@[simp] theorem tyV256 : zeroV Try.prog 256 = some (.agg [.int .i64 0, .int .i64 0, .int .i64 0, .nilSlice, .nilSlice, .int .i64 0, .int .i64 0, .int .i64 0, .int .i64 0, .int .i64 0]) := by kernel_rfl
@[simp] theorem tyP256 : placesT Try.prog 256 = some [(0, 1), (1, 1), (2, 1), (3, 1), (4, 1), (5, 1), (6, 1), (7, 1), (8, 1), (9, 1)] := by kernel_rfl
@[simp] theorem tyF256_0 : fieldT Try.prog 256 0 = some (0, 3) := by kernel_rfl
@[simp] theorem tyF256_1 : fieldT Try.prog 256 1 = some (1, 3) := by kernel_rfl
@[simp] theorem tyF256_2 : fieldT Try.prog 256 2 = some (2, 3) := by kernel_rfl
@[simp] theorem tyF256_3 : fieldT Try.prog 256 3 = some (3, 254) := by kernel_rfl
@[simp] theorem tyF256_4 : fieldT Try.prog 256 4 = some (4, 60) := by kernel_rfl
@[simp] theorem tyF256_5 : fieldT Try.prog 256 5 = some (5, 3) := by kernel_rfl
@[simp] theorem tyF256_6 : fieldT Try.prog 256 6 = some (6, 3) := by kernel_rfl
@[simp] theorem tyF256_7 : fieldT Try.prog 256 7 = some (7, 3) := by kernel_rfl
@[simp] theorem tyF256_8 : fieldT Try.prog 256 8 = some (8, 3) := by kernel_rfl
@[simp] theorem tyF256_9 : fieldT Try.prog 256 9 = some (9, 3) := by kernel_rfl
@[simp] theorem tyS258 : sizeT Try.prog 258 = some 3 := by kernel_rfl
@[simp] theorem tyB258 : bytesT Try.prog 258 = some 40 := by kernel_rfl
@[simp] theorem tyA258 : aggT Try.prog 258 = some true := by kernel_rfl
@[simp] theorem tyZ258 : zeroT Try.prog 258 = some [.nilSlice, .int .i64 0, .int .i64 0] := by kernel_rfl
@[simp] theorem tyV258 : zeroV Try.prog 258 = some (.agg [.nilSlice, .int .i64 0, .int .i64 0]) := by kernel_rfl
@[simp] theorem tyP258 : placesT Try.prog 258 = some [(0, 1), (1, 1), (2, 1)] := by kernel_rfl
@[simp] theorem tyF258_0 : fieldT Try.prog 258 0 = some (0, 34) := by kernel_rfl
@[simp] theorem tyF258_1 : fieldT Try.prog 258 1 = some (1, 3) := by kernel_rfl
@[simp] theorem tyF258_2 : fieldT Try.prog 258 2 = some (2, 3) := by kernel_rfl
@[simp] theorem tyS259 : sizeT Try.prog 259 = some 3 := by kernel_rfl
@[simp] theorem tyB259 : bytesT Try.prog 259 = some 40 := by kernel_rfl
@[simp] theorem tyA259 : aggT Try.prog 259 = some true := by kernel_rfl
@[simp] theorem tyZ259 : zeroT Try.prog 259 = some [.nilSlice, .int .i64 0, .int .i64 0] := by kernel_rfl
@[simp] theorem tyV259 : zeroV Try.prog 259 = some (.agg [.nilSlice, .int .i64 0, .int .i64 0]) := by kernel_rfl
@[simp] theorem tyP259 : placesT Try.prog 259 = some [(0, 1), (1, 1), (2, 1)] := by kernel_rfl
@[simp] theorem tyF259_0 : fieldT Try.prog 259 0 = some (0, 34) := by kernel_rfl
@[simp] theorem tyF259_1 : fieldT Try.prog 259 1 = some (1, 3) := by kernel_rfl
@[simp] theorem tyF259_2 : fieldT Try.prog 259 2 = some (2, 3) := by kernel_rfl
@[simp] theorem tyU260 : Try.prog.underlying 260 = some (.slice 316) := by kernel_rfl
@[simp] theorem tyS260 : sizeT Try.prog 260 = some 1 := by kernel_rfl
@[simp] theorem tyB260 : bytesT Try.prog 260 = some 24 := by kernel_rfl
@[simp] theorem tyA260 : aggT Try.prog 260 = some false := by kernel_rfl
@[simp] theorem tyZ260 : zeroT Try.prog 260 = some [.nilSlice] := by kernel_rfl
@[simp] theorem tyV260 : zeroV Try.prog 260 = some (.nilSlice) := by kernel_rfl
@[simp] theorem tyE260 : sliceT Try.prog 260 = some 316 := by kernel_rfl
@[simp] theorem tyP260 : placesT Try.prog 260 = none := by kernel_rfl
@[simp] theorem tyU261 : Try.prog.underlying 261 = some (.array 2 3) := by kernel_rfl
@[simp] theorem tyS261 : sizeT Try.prog 261 = some 2 := by kernel_rfl
@[simp] theorem tyB261 : bytesT Try.prog 261 = some 16 := by kernel_rfl
@[simp] theorem tyA261 : aggT Try.prog 261 = some true := by kernel_rfl
@[simp] theorem tyZ261 : zeroT Try.prog 261 = some [.int .i64 0, .int .i64 0] := by kernel_rfl
@[simp] theorem tyV261 : zeroV Try.prog 261 = some (.agg [.int .i64 0, .int .i64 0]) := by kernel_rfl
@[simp] theorem tyP261 : placesT Try.prog 261 = none := by kernel_rfl
@[simp] theorem tyR261 : arrT Try.prog 261 = some (2, 3) := by kernel_rfl
@[simp] theorem tyS262 : sizeT Try.prog 262 = some 19 := by kernel_rfl
@[simp] theorem tyB262 : bytesT Try.prog 262 = some 168 := by kernel_rfl
@[simp] theorem tyA262 : aggT Try.prog 262 = some true := by kernel_rfl
@[simp] theorem tyZ262 : zeroT Try.prog 262 = some [.bool false, .int .i64 0, .int .i64 0, .int .i64 0, .int .i64 0, .int .i64 0, .int .i64 0, .int .i64 0, .int .i64 0, .nilSlice, .int .i64 0, .int .i64 0, .int .i64 0, .int .i64 0, .int .i64 0, .int .i64 0, .int .i64 0, .int .i64 0, .int .i64 0] := by kernel_rfl
@[simp] theorem tyV262 : zeroV Try.prog 262 = some (.agg [.bool false, .int .i64 0, .int .i64 0, .int .i64 0, .int .i64 0, .int .i64 0, .int .i64 0, .int .i64 0, .int .i64 0, .nilSlice, .int .i64 0, .int .i64 0, .int .i64 0, .int .i64 0, .int .i64 0, .int .i64 0, .int .i64 0, .int .i64 0, .int .i64 0]) := by kernel_rfl
@[simp] theorem tyP262 : placesT Try.prog 262 = some [(0, 9), (9, 1), (10, 2), (12, 2), (14, 1), (15, 2), (17, 1), (18, 1)] := by kernel_rfl
@[simp] theorem tyF262_0 : fieldT Try.prog 262 0 = some (0, 49) := by kernel_rfl
@[simp] theorem tyF262_1 : fieldT Try.prog 262 1 = some (9, 260) := by kernel_rfl
@[simp] theorem tyF262_2 : fieldT Try.prog 262 2 = some (10, 261) := by kernel_rfl
@[simp] theorem tyF262_3 : fieldT Try.prog 262 3 = some (12, 261) := by kernel_rfl
@[simp] theorem tyF262_4 : fieldT Try.prog 262 4 = some (14, 3) := by kernel_rfl
@[simp] theorem tyF262_5 : fieldT Try.prog 262 5 = some (15, 261) := by kernel_rfl
@[simp] theorem tyF262_6 : fieldT Try.prog 262 6 = some (17, 3) := by kernel_rfl
@[simp] theorem tyF262_7 : fieldT Try.prog 262 7 = some (18, 3) := by kernel_rfl
@[simp] theorem tyS263 : sizeT Try.prog 263 = some 19 := by kernel_rfl
@[simp] theorem tyB263 : bytesT Try.prog 263 = some 168 := by kernel_rfl
@[simp] theorem tyA263 : aggT Try.prog 263 = some true := by kernel_rfl
@[simp] theorem tyZ263 : zeroT Try.prog 263 = some [.bool false, .int .i64 0, .int .i64 0, .int .i64 0, .int .i64 0, .int .i64 0, .int .i64 0, .int .i64 0, .int .i64 0, .nilSlice, .int .i64 0, .int .i64 0, .int .i64 0, .int .i64 0, .int .i64 0, .int .i64 0, .int .i64 0, .int .i64 0, .int .i64 0] := by kernel_rfl
@[simp] theorem tyV263 : zeroV Try.prog 263 = some (.agg [.bool false, .int .i64 0, .int .i64 0, .int .i64 0, .int .i64 0, .int .i64 0, .int .i64 0, .int .i64 0, .int .i64 0, .nilSlice, .int .i64 0, .int .i64 0, .int .i64 0, .int .i64 0, .int .i64 0, .int .i64 0, .int .i64 0, .int .i64 0, .int .i64 0]) := by kernel_rfl
@[simp] theorem tyP263 : placesT Try.prog 263 = some [(0, 9), (9, 1), (10, 2), (12, 2), (14, 1), (15, 2), (17, 1), (18, 1)] := by kernel_rfl
@[simp] theorem tyF263_0 : fieldT Try.prog 263 0 = some (0, 49) := by kernel_rfl
@[simp] theorem tyF263_1 : fieldT Try.prog 263 1 = some (9, 260) := by kernel_rfl
@[simp] theorem tyF263_2 : fieldT Try.prog 263 2 = some (10, 261) := by kernel_rfl
@[simp] theorem tyF263_3 : fieldT Try.prog 263 3 = some (12, 261) := by kernel_rfl
@[simp] theorem tyF263_4 : fieldT Try.prog 263 4 = some (14, 3) := by kernel_rfl
@[simp] theorem tyF263_5 : fieldT Try.prog 263 5 = some (15, 261) := by kernel_rfl
@[simp] theorem tyF263_6 : fieldT Try.prog 263 6 = some (17, 3) := by kernel_rfl
@[simp] theorem tyF263_7 : fieldT Try.prog 263 7 = some (18, 3) := by kernel_rfl
@[simp] theorem tyU268 : Try.prog.underlying 268 = some (.map 3 273) := by kernel_rfl
@[simp] theorem tyS268 : sizeT Try.prog 268 = some 1 := by kernel_rfl
@[simp] theorem tyB268 : bytesT Try.prog 268 = some 8 := by kernel_rfl
@[simp] theorem tyA268 : aggT Try.prog 268 = some false := by kernel_rfl
@[simp] theorem tyZ268 : zeroT Try.prog 268 = some [.nilMap] := by kernel_rfl
@[simp] theorem tyV268 : zeroV Try.prog 268 = some (.nilMap) := by kernel_rfl
@[simp] theorem tyP268 : placesT Try.prog 268 = none := by kernel_rfl
@[simp] theorem tyU269 : Try.prog.underlying 269 = some (.map 4 3) := by kernel_rfl
@[simp] theorem tyS269 : sizeT Try.prog 269 = some 1 := by kernel_rfl
@[simp] theorem tyB269 : bytesT Try.prog 269 = some 8 := by kernel_rfl
@[simp] theorem tyA269 : aggT Try.prog 269 = some false := by kernel_rfl
@[simp] theorem tyZ269 : zeroT Try.prog 269 = some [.nilMap] := by kernel_rfl
@[simp] theorem tyV269 : zeroV Try.prog 269 = some (.nilMap) := by kernel_rfl
@[simp] theorem tyP269 : placesT Try.prog 269 = none := by kernel_rfl
@[simp] theorem tyS270 : sizeT Try.prog 270 = some 18 := by kernel_rfl
@[simp] theorem tyB270 : bytesT Try.prog 270 = some 144 := by kernel_rfl
@[simp] theorem tyA270 : aggT Try.prog 270 = some true := by kernel_rfl
@[simp] theorem tyZ270 : zeroT Try.prog 270 = some [.bool false, .int .i64 0, .int .i64 0, .int .i64 0, .int .i64 0, .int .i64 0, .int .i64 0, .int .i64 0, .int .i64 0, .nilMap, .nilMap, .nilMap, .nilMap, .int .i64 0, .int .i64 0, .int .i64 0, .int .i64 0, .int .i64 0] := by kernel_rfl
@[simp] theorem tyV270 : zeroV Try.prog 270 = some (.agg [.bool false, .int .i64 0, .int .i64 0, .int .i64 0, .int .i64 0, .int .i64 0, .int .i64 0, .int .i64 0, .int .i64 0, .nilMap, .nilMap, .nilMap, .nilMap, .int .i64 0, .int .i64 0, .int .i64 0, .int .i64 0, .int .i64 0]) := by kernel_rfl
@[simp] theorem tyP270 : placesT Try.prog 270 = some [(0, 9), (9, 1), (10, 1), (11, 1), (12, 1), (13, 1), (14, 1), (15, 1), (16, 1), (17, 1)] := by kernel_rfl
@[simp] theorem tyF270_0 : fieldT Try.prog 270 0 = some (0, 49) := by kernel_rfl
@[simp] theorem tyF270_1 : fieldT Try.prog 270 1 = some (9, 268) := by kernel_rfl
@[simp] theorem tyF270_2 : fieldT Try.prog 270 2 = some (10, 269) := by kernel_rfl
@[simp] theorem tyF270_3 : fieldT Try.prog 270 3 = some (11, 269) := by kernel_rfl
@[simp] theorem tyF270_4 : fieldT Try.prog 270 4 = some (12, 269) := by kernel_rfl
@[simp] theorem tyF270_5 : fieldT Try.prog 270 5 = some (13, 3) := by kernel_rfl
@[simp] theorem tyF270_6 : fieldT Try.prog 270 6 = some (14, 3) := by kernel_rfl
@[simp] theorem tyF270_7 : fieldT Try.prog 270 7 = some (15, 3) := by kernel_rfl
@[simp] theorem tyF270_8 : fieldT Try.prog 270 8 = some (16, 3) := by kernel_rfl
@[simp] theorem tyF270_9 : fieldT Try.prog 270 9 = some (17, 3) := by kernel_rfl
@[simp] theorem tyS271 : sizeT Try.prog 271 = some 18 := by kernel_rfl
@[simp] theorem tyB271 : bytesT Try.prog 271 = some 144 := by kernel_rfl
@[simp] theorem tyA271 : aggT Try.prog 271 = some true := by kernel_rfl
@[simp] theorem tyZ271 : zeroT Try.prog 271 = some [.bool false, .int .i64 0, .int .i64 0, .int .i64 0, .int .i64 0, .int .i64 0, .int .i64 0, .int .i64 0, .int .i64 0, .nilMap, .nilMap, .nilMap, .nilMap, .int .i64 0, .int .i64 0, .int .i64 0, .int .i64 0, .int .i64 0] := by kernel_rfl
@[simp] theorem tyV271 : zeroV Try.prog 271 = some (.agg [.bool false, .int .i64 0, .int .i64 0, .int .i64 0, .int .i64 0, .int .i64 0, .int .i64 0, .int .i64 0, .int .i64 0, .nilMap, .nilMap, .nilMap, .nilMap, .int .i64 0, .int .i64 0, .int .i64 0, .int .i64 0, .int .i64 0]) := by kernel_rfl
@[simp] theorem tyP271 : placesT Try.prog 271 = some [(0, 9), (9, 1), (10, 1), (11, 1), (12, 1), (13, 1), (14, 1), (15, 1), (16, 1), (17, 1)] := by kernel_rfl
@[simp] theorem tyF271_0 : fieldT Try.prog 271 0 = some (0, 49) := by kernel_rfl
@[simp] theorem tyF271_1 : fieldT Try.prog 271 1 = some (9, 268) := by kernel_rfl
@[simp] theorem tyF271_2 : fieldT Try.prog 271 2 = some (10, 269) := by kernel_rfl
@[simp] theorem tyF271_3 : fieldT Try.prog 271 3 = some (11, 269) := by kernel_rfl
@[simp] theorem tyF271_4 : fieldT Try.prog 271 4 = some (12, 269) := by kernel_rfl
@[simp] theorem tyF271_5 : fieldT Try.prog 271 5 = some (13, 3) := by kernel_rfl
@[simp] theorem tyF271_6 : fieldT Try.prog 271 6 = some (14, 3) := by kernel_rfl
@[simp] theorem tyF271_7 : fieldT Try.prog 271 7 = some (15, 3) := by kernel_rfl
@[simp] theorem tyF271_8 : fieldT Try.prog 271 8 = some (16, 3) := by kernel_rfl
@[simp] theorem tyF271_9 : fieldT Try.prog 271 9 = some (17, 3) := by kernel_rfl
@[simp] theorem tyU273 : Try.prog.underlying 273 = some (.pointer 277) := by kernel_rfl
@[simp] theorem tyS273 : sizeT Try.prog 273 = some 1 := by kernel_rfl
@[simp] theorem tyB273 : bytesT Try.prog 273 = some 8 := by kernel_rfl
@[simp] theorem tyA273 : aggT Try.prog 273 = some false := by kernel_rfl
@[simp] theorem tyZ273 : zeroT Try.prog 273 = some [.nilPtr] := by kernel_rfl
@[simp] theorem tyV273 : zeroV Try.prog 273 = some (.nilPtr) := by kernel_rfl
@[simp] theorem tyP273 : placesT Try.prog 273 = none := by kernel_rfl
@[simp] theorem tyS276 : sizeT Try.prog 276 = some 6 := by kernel_rfl
@[simp] theorem tyB276 : bytesT Try.prog 276 = some 48 := by kernel_rfl
@[simp] theorem tyA276 : aggT Try.prog 276 = some true := by kernel_rfl
@[simp] theorem tyZ276 : zeroT Try.prog 276 = some [.int .i64 0, .int .i64 0, .int .i64 0, .int .i64 0, .int .i64 0, .bool false] := by kernel_rfl
@[simp] theorem tyV276 : zeroV Try.prog 276 = some (.agg [.int .i64 0, .int .i64 0, .int .i64 0, .int .i64 0, .int .i64 0, .bool false]) := by kernel_rfl
@[simp] theorem tyP276 : placesT Try.prog 276 = some [(0, 1), (1, 1), (2, 1), (3, 1), (4, 1), (5, 1)] := by kernel_rfl
@[simp] theorem tyF276_0 : fieldT Try.prog 276 0 = some (0, 3) := by kernel_rfl
@[simp] theorem tyF276_1 : fieldT Try.prog 276 1 = some (1, 3) := by kernel_rfl
@[simp] theorem tyF276_2 : fieldT Try.prog 276 2 = some (2, 3) := by kernel_rfl
@[simp] theorem tyF276_3 : fieldT Try.prog 276 3 = some (3, 3) := by kernel_rfl
@[simp] theorem tyF276_4 : fieldT Try.prog 276 4 = some (4, 3) := by kernel_rfl
@[simp] theorem tyF276_5 : fieldT Try.prog 276 5 = some (5, 4) := by kernel_rfl
@[simp] theorem tyS277 : sizeT Try.prog 277 = some 6 := by kernel_rfl
@[simp] theorem tyB277 : bytesT Try.prog 277 = some 48 := by kernel_rfl
@[simp] theorem tyA277 : aggT Try.prog 277 = some true := by kernel_rfl
@[simp] theorem tyZ277 : zeroT Try.prog 277 = some [.int .i64 0, .int .i64 0, .int .i64 0, .int .i64 0, .int .i64 0, .bool false] := by kernel_rfl
@[simp] theorem tyV277 : zeroV Try.prog 277 = some (.agg [.int .i64 0, .int .i64 0, .int .i64 0, .int .i64 0, .int .i64 0, .bool false]) := by kernel_rfl
@[simp] theorem tyP277 : placesT Try.prog 277 = some [(0, 1), (1, 1), (2, 1), (3, 1), (4, 1), (5, 1)] := by kernel_rfl
@[simp] theorem tyF277_0 : fieldT Try.prog 277 0 = some (0, 3) := by kernel_rfl
@[simp] theorem tyF277_1 : fieldT Try.prog 277 1 = some (1, 3) := by kernel_rfl
@[simp] theorem tyF277_2 : fieldT Try.prog 277 2 = some (2, 3) := by kernel_rfl
@[simp] theorem tyF277_3 : fieldT Try.prog 277 3 = some (3, 3) := by kernel_rfl
@[simp] theorem tyF277_4 : fieldT Try.prog 277 4 = some (4, 3) := by kernel_rfl
@[simp] theorem tyF277_5 : fieldT Try.prog 277 5 = some (5, 4) := by kernel_rfl
@[simp] theorem tyU283 : Try.prog.underlying 283 = some (.pointer 72) := by kernel_rfl
@[simp] theorem tyS283 : sizeT Try.prog 283 = some 1 := by kernel_rfl
@[simp] theorem tyB283 : bytesT Try.prog 283 = some 8 := by kernel_rfl
@[simp] theorem tyA283 : aggT Try.prog 283 = some false := by kernel_rfl
@[simp] theorem tyZ283 : zeroT Try.prog 283 = some [.nilPtr] := by kernel_rfl
@[simp] theorem tyV283 : zeroV Try.prog 283 = some (.nilPtr) := by kernel_rfl
@[simp] theorem tyP283 : placesT Try.prog 283 = none := by kernel_rfl
@[simp] theorem tyU288 : Try.prog.underlying 288 = some (.map 3 197) := by kernel_rfl
@[simp] theorem tyS288 : sizeT Try.prog 288 = some 1 := by kernel_rfl
@[simp] theorem tyB288 : bytesT Try.prog 288 = some 8 := by kernel_rfl
@[simp] theorem tyA288 : aggT Try.prog 288 = some false := by kernel_rfl
@[simp] theorem tyZ288 : zeroT Try.prog 288 = some [.nilMap] := by kernel_rfl
@[simp] theorem tyV288 : zeroV Try.prog 288 = some (.nilMap) := by kernel_rfl
@[simp] theorem tyP288 : placesT Try.prog 288 = none := by kernel_rfl
@[simp] theorem tyS289 : sizeT Try.prog 289 = some 4 := by kernel_rfl
@[simp] theorem tyB289 : bytesT Try.prog 289 = some 64 := by kernel_rfl
@[simp] theorem tyA289 : aggT Try.prog 289 = some true := by kernel_rfl
@[simp] theorem tyZ289 : zeroT Try.prog 289 = some [.int .i64 0, .nilSlice, .nilSlice, .bool false] := by kernel_rfl
@[simp] theorem tyV289 : zeroV Try.prog 289 = some (.agg [.int .i64 0, .nilSlice, .nilSlice, .bool false]) := by kernel_rfl
@[simp] theorem tyP289 : placesT Try.prog 289 = some [(0, 1), (1, 1), (2, 1), (3, 1)] := by kernel_rfl
@[simp] theorem tyF289_0 : fieldT Try.prog 289 0 = some (0, 3) := by kernel_rfl
@[simp] theorem tyF289_1 : fieldT Try.prog 289 1 = some (1, 34) := by kernel_rfl
@[simp] theorem tyF289_2 : fieldT Try.prog 289 2 = some (2, 34) := by kernel_rfl
@[simp] theorem tyF289_3 : fieldT Try.prog 289 3 = some (3, 4) := by kernel_rfl
@[simp] theorem tyS290 : sizeT Try.prog 290 = some 4 := by kernel_rfl
@[simp] theorem tyB290 : bytesT Try.prog 290 = some 64 := by kernel_rfl
@[simp] theorem tyA290 : aggT Try.prog 290 = some true := by kernel_rfl
@[simp] theorem tyZ290 : zeroT Try.prog 290 = some [.int .i64 0, .nilSlice, .nilSlice, .bool false] := by kernel_rfl
@[simp] theorem tyV290 : zeroV Try.prog 290 = some (.agg [.int .i64 0, .nilSlice, .nilSlice, .bool false]) := by kernel_rfl
@[simp] theorem tyP290 : placesT Try.prog 290 = some [(0, 1), (1, 1), (2, 1), (3, 1)] := by kernel_rfl
@[simp] theorem tyF290_0 : fieldT Try.prog 290 0 = some (0, 3) := by kernel_rfl
@[simp] theorem tyF290_1 : fieldT Try.prog 290 1 = some (1, 34) := by kernel_rfl
@[simp] theorem tyF290_2 : fieldT Try.prog 290 2 = some (2, 34) := by kernel_rfl
@[simp] theorem tyF290_3 : fieldT Try.prog 290 3 = some (3, 4) := by kernel_rfl
@[simp] theorem tyU291 : Try.prog.underlying 291 = some (.slice 290) := by kernel_rfl
@[simp] theorem tyS291 : sizeT Try.prog 291 = some 1 := by kernel_rfl
@[simp] theorem tyB291 : bytesT Try.prog 291 = some 24 := by kernel_rfl
@[simp] theorem tyA291 : aggT Try.prog 291 = some false := by kernel_rfl
@[simp] theorem tyZ291 : zeroT Try.prog 291 = some [.nilSlice] := by kernel_rfl
@[simp] theorem tyV291 : zeroV Try.prog 291 = some (.nilSlice) := by kernel_rfl
@[simp] theorem tyE291 : sliceT Try.prog 291 = some 290 := by kernel_rfl
@[simp] theorem tyP291 : placesT Try.prog 291 = none := by kernel_rfl
@[simp] theorem tyS292 : sizeT Try.prog 292 = some 5 := by kernel_rfl
@[simp] theorem tyB292 : bytesT Try.prog 292 = some 56 := by kernel_rfl
@[simp] theorem tyA292 : aggT Try.prog 292 = some true := by kernel_rfl
@[simp] theorem tyZ292 : zeroT Try.prog 292 = some [.int .i64 0, .int .i64 0, .int .i64 0, .nilSlice, .bool false] := by kernel_rfl
@[simp] theorem tyV292 : zeroV Try.prog 292 = some (.agg [.int .i64 0, .int .i64 0, .int .i64 0, .nilSlice, .bool false]) := by kernel_rfl
@[simp] theorem tyP292 : placesT Try.prog 292 = some [(0, 1), (1, 1), (2, 1), (3, 1), (4, 1)] := by kernel_rfl
@[simp] theorem tyF292_0 : fieldT Try.prog 292 0 = some (0, 3) := by kernel_rfl
@[simp] theorem tyF292_1 : fieldT Try.prog 292 1 = some (1, 3) := by kernel_rfl
@[simp] theorem tyF292_2 : fieldT Try.prog 292 2 = some (2, 3) := by kernel_rfl
@[simp] theorem tyF292_3 : fieldT Try.prog 292 3 = some (3, 291) := by kernel_rfl
@[simp] theorem tyF292_4 : fieldT Try.prog 292 4 = some (4, 4) := by kernel_rfl
@[simp] theorem tyS293 : sizeT Try.prog 293 = some 5 := by kernel_rfl
@[simp] theorem tyB293 : bytesT Try.prog 293 = some 56 := by kernel_rfl
@[simp] theorem tyA293 : aggT Try.prog 293 = some true := by kernel_rfl
@[simp] theorem tyZ293 : zeroT Try.prog 293 = some [.int .i64 0, .int .i64 0, .int .i64 0, .nilSlice, .bool false] := by kernel_rfl
@[simp] theorem tyV293 : zeroV Try.prog 293 = some (.agg [.int .i64 0, .int .i64 0, .int .i64 0, .nilSlice, .bool false]) := by kernel_rfl
@[simp] theorem tyP293 : placesT Try.prog 293 = some [(0, 1), (1, 1), (2, 1), (3, 1), (4, 1)] := by kernel_rfl
@[simp] theorem tyF293_0 : fieldT Try.prog 293 0 = some (0, 3) := by kernel_rfl
@[simp] theorem tyF293_1 : fieldT Try.prog 293 1 = some (1, 3) := by kernel_rfl
@[simp] theorem tyF293_2 : fieldT Try.prog 293 2 = some (2, 3) := by kernel_rfl
@[simp] theorem tyF293_3 : fieldT Try.prog 293 3 = some (3, 291) := by kernel_rfl
@[simp] theorem tyF293_4 : fieldT Try.prog 293 4 = some (4, 4) := by kernel_rfl
@[simp] theorem tyU298 : Try.prog.underlying 298 = some (.int .u32) := by kernel_rfl
@[simp] theorem tyS298 : sizeT Try.prog 298 = some 1 := by kernel_rfl
@[simp] theorem tyB298 : bytesT Try.prog 298 = some 4 := by kernel_rfl
@[simp] theorem tyA298 : aggT Try.prog 298 = some false := by kernel_rfl
@[simp] theorem tyZ298 : zeroT Try.prog 298 = some [.int .u32 0] := by kernel_rfl
@[simp] theorem tyV298 : zeroV Try.prog 298 = some (.int .u32 0) := by kernel_rfl
@[simp] theorem tyP298 : placesT Try.prog 298 = none := by kernel_rfl
@[simp] theorem tyS299 : sizeT Try.prog 299 = some 4 := by kernel_rfl
@[simp] theorem tyB299 : bytesT Try.prog 299 = some 16 := by kernel_rfl
@[simp] theorem tyA299 : aggT Try.prog 299 = some true := by kernel_rfl
@[simp] theorem tyZ299 : zeroT Try.prog 299 = some [.int .u32 0, .int .u32 0, .int .u32 0, .int .u32 0] := by kernel_rfl
@[simp] theorem tyV299 : zeroV Try.prog 299 = some (.agg [.int .u32 0, .int .u32 0, .int .u32 0, .int .u32 0]) := by kernel_rfl
@[simp] theorem tyP299 : placesT Try.prog 299 = some [(0, 1), (1, 1), (2, 1), (3, 1)] := by kernel_rfl
@[simp] theorem tyF299_0 : fieldT Try.prog 299 0 = some (0, 298) := by kernel_rfl
@[simp] theorem tyF299_1 : fieldT Try.prog 299 1 = some (1, 298) := by kernel_rfl
@[simp] theorem tyF299_2 : fieldT Try.prog 299 2 = some (2, 298) := by kernel_rfl
@[simp] theorem tyF299_3 : fieldT Try.prog 299 3 = some (3, 298) := by kernel_rfl
@[simp] theorem tyS300 : sizeT Try.prog 300 = some 4 := by kernel_rfl
@[simp] theorem tyB300 : bytesT Try.prog 300 = some 16 := by kernel_rfl
@[simp] theorem tyA300 : aggT Try.prog 300 = some true := by kernel_rfl
@[simp] theorem tyZ300 : zeroT Try.prog 300 = some [.int .u32 0, .int .u32 0, .int .u32 0, .int .u32 0] := by kernel_rfl
@[simp] theorem tyV300 : zeroV Try.prog 300 = some (.agg [.int .u32 0, .int .u32 0, .int .u32 0, .int .u32 0]) := by kernel_rfl
@[simp] theorem tyP300 : placesT Try.prog 300 = some [(0, 1), (1, 1), (2, 1), (3, 1)] := by kernel_rfl
@[simp] theorem tyF300_0 : fieldT Try.prog 300 0 = some (0, 298) := by kernel_rfl
@[simp] theorem tyF300_1 : fieldT Try.prog 300 1 = some (1, 298) := by kernel_rfl
@[simp] theorem tyF300_2 : fieldT Try.prog 300 2 = some (2, 298) := by kernel_rfl
@[simp] theorem tyF300_3 : fieldT Try.prog 300 3 = some (3, 298) := by kernel_rfl
@[simp] theorem tyU305 : Try.prog.underlying 305 = some (.int .u64) := by kernel_rfl
@[simp] theorem tyS305 : sizeT Try.prog 305 = some 1 := by kernel_rfl
@[simp] theorem tyB305 : bytesT Try.prog 305 = some 8 := by kernel_rfl
@[simp] theorem tyA305 : aggT Try.prog 305 = some false := by kernel_rfl
@[simp] theorem tyZ305 : zeroT Try.prog 305 = some [.int .u64 0] := by kernel_rfl
@[simp] theorem tyV305 : zeroV Try.prog 305 = some (.int .u64 0) := by kernel_rfl
@[simp] theorem tyP305 : placesT Try.prog 305 = none := by kernel_rfl
@[simp] theorem tyU310 : Try.prog.underlying 310 = some (.array 9 5) := by kernel_rfl
@[simp] theorem tyS310 : sizeT Try.prog 310 = some 9 := by kernel_rfl
@[simp] theorem tyB310 : bytesT Try.prog 310 = some 9 := by kernel_rfl
@[simp] theorem tyA310 : aggT Try.prog 310 = some true := by kernel_rfl
@[simp] theorem tyZ310 : zeroT Try.prog 310 = some [.int .u8 0, .int .u8 0, .int .u8 0, .int .u8 0, .int .u8 0, .int .u8 0, .int .u8 0, .int .u8 0, .int .u8 0] := by kernel_rfl
@[simp] theorem tyV310 : zeroV Try.prog 310 = some (.agg [.int .u8 0, .int .u8 0, .int .u8 0, .int .u8 0, .int .u8 0, .int .u8 0, .int .u8 0, .int .u8 0, .int .u8 0]) := by kernel_rfl
@[simp] theorem tyP310 : placesT Try.prog 310 = none := by kernel_rfl
@[simp] theorem tyR310 : arrT Try.prog 310 = some (9, 5) := by kernel_rfl
@[simp] theorem tyS315 : sizeT Try.prog 315 = some 7 := by kernel_rfl
@[simp] theorem tyB315 : bytesT Try.prog 315 = some 56 := by kernel_rfl
@[simp] theorem tyA315 : aggT Try.prog 315 = some true := by kernel_rfl
@[simp] theorem tyZ315 : zeroT Try.prog 315 = some [.int .i64 0, .int .i64 0, .int .i64 0, .int .i64 0, .int .i64 0, .int .i64 0, .bool false] := by kernel_rfl
@[simp] theorem tyV315 : zeroV Try.prog 315 = some (.agg [.int .i64 0, .int .i64 0, .int .i64 0, .int .i64 0, .int .i64 0, .int .i64 0, .bool false]) := by kernel_rfl
@[simp] theorem tyP315 : placesT Try.prog 315 = some [(0, 1), (1, 1), (2, 1), (3, 1), (4, 1), (5, 1), (6, 1)] := by kernel_rfl
@[simp] theorem tyF315_0 : fieldT Try.prog 315 0 = some (0, 3) := by kernel_rfl
@[simp] theorem tyF315_1 : fieldT Try.prog 315 1 = some (1, 3) := by kernel_rfl
@[simp] theorem tyF315_2 : fieldT Try.prog 315 2 = some (2, 3) := by kernel_rfl
@[simp] theorem tyF315_3 : fieldT Try.prog 315 3 = some (3, 3) := by kernel_rfl
@[simp] theorem tyF315_4 : fieldT Try.prog 315 4 = some (4, 3) := by kernel_rfl
@[simp] theorem tyF315_5 : fieldT Try.prog 315 5 = some (5, 3) := by kernel_rfl
@[simp] theorem tyF315_6 : fieldT Try.prog 315 6 = some (6, 4) := by kernel_rfl
@[simp] theorem tyS316 : sizeT Try.prog 316 = some 7 := by kernel_rfl
@[simp] theorem tyB316 : bytesT Try.prog 316 = some 56 := by kernel_rfl
@[simp] theorem tyA316 : aggT Try.prog 316 = some true := by kernel_rfl
@[simp] theorem tyZ316 : zeroT Try.prog 316 = some [.int .i64 0, .int .i64 0, .int .i64 0, .int .i64 0, .int .i64 0, .int .i64 0, .bool false] := by kernel_rfl
@[simp] theorem tyV316 : zeroV Try.prog 316 = some (.agg [.int .i64 0, .int .i64 0, .int .i64 0, .int .i64 0, .int .i64 0, .int .i64 0, .bool false]) := by kernel_rfl
@[simp] theorem tyP316 : placesT Try.prog 316 = some [(0, 1), (1, 1), (2, 1), (3, 1), (4, 1), (5, 1), (6, 1)] := by kernel_rfl
@[simp] theorem tyF316_0 : fieldT Try.prog 316 0 = some (0, 3) := by kernel_rfl
@[simp] theorem tyF316_1 : fieldT Try.prog 316 1 = some (1, 3) := by kernel_rfl
@[simp] theorem tyF316_2 : fieldT Try.prog 316 2 = some (2, 3) := by kernel_rfl
@[simp] theorem tyF316_3 : fieldT Try.prog 316 3 = some (3, 3) := by kernel_rfl
@[simp] theorem tyF316_4 : fieldT Try.prog 316 4 = some (4, 3) := by kernel_rfl
@[simp] theorem tyF316_5 : fieldT Try.prog 316 5 = some (5, 3) := by kernel_rfl
@[simp] theorem tyF316_6 : fieldT Try.prog 316 6 = some (6, 4) := by kernel_rfl
@[simp] theorem tyS323 : sizeT Try.prog 323 = some 1 := by kernel_rfl
@[simp] theorem tyB323 : bytesT Try.prog 323 = some 8 := by kernel_rfl
@[simp] theorem tyA323 : aggT Try.prog 323 = some false := by kernel_rfl
@[simp] theorem tyZ323 : zeroT Try.prog 323 = some [.nilFunc] := by kernel_rfl
@[simp] theorem tyV323 : zeroV Try.prog 323 = some (.nilFunc) := by kernel_rfl
@[simp] theorem tyP323 : placesT Try.prog 323 = none := by kernel_rfl
@[simp] theorem tyU326 : Try.prog.underlying 326 = some (.int .i64) := by kernel_rfl
@[simp] theorem tyS326 : sizeT Try.prog 326 = some 1 := by kernel_rfl
@[simp] theorem tyB326 : bytesT Try.prog 326 = some 8 := by kernel_rfl
@[simp] theorem tyA326 : aggT Try.prog 326 = some false := by kernel_rfl
@[simp] theorem tyZ326 : zeroT Try.prog 326 = some [.int .i64 0] := by kernel_rfl
@[simp] theorem tyV326 : zeroV Try.prog 326 = some (.int .i64 0) := by kernel_rfl
@[simp] theorem tyP326 : placesT Try.prog 326 = none := by kernel_rfl
@[simp] theorem tyU336 : Try.prog.underlying 336 = some (.map 9 4) := by kernel_rfl
@[simp] theorem tyS336 : sizeT Try.prog 336 = some 1 := by kernel_rfl
@[simp] theorem tyB336 : bytesT Try.prog 336 = some 8 := by kernel_rfl
@[simp] theorem tyA336 : aggT Try.prog 336 = some false := by kernel_rfl
@[simp] theorem tyZ336 : zeroT Try.prog 336 = some [.nilMap] := by kernel_rfl
@[simp] theorem tyV336 : zeroV Try.prog 336 = some (.nilMap) := by kernel_rfl
@[simp] theorem tyP336 : placesT Try.prog 336 = none := by kernel_rfl
@[simp] theorem tyU337 : Try.prog.underlying 337 = some (.int .u64) := by kernel_rfl
@[simp] theorem tyS337 : sizeT Try.prog 337 = some 1 := by kernel_rfl
@[simp] theorem tyB337 : bytesT Try.prog 337 = some 8 := by kernel_rfl
@[simp] theorem tyA337 : aggT Try.prog 337 = some false := by kernel_rfl
@[simp] theorem tyZ337 : zeroT Try.prog 337 = some [.int .u64 0] := by kernel_rfl
@[simp] theorem tyV337 : zeroV Try.prog 337 = some (.int .u64 0) := by kernel_rfl
@[simp] theorem tyP337 : placesT Try.prog 337 = none := by kernel_rfl
@[simp] theorem tyS345 : sizeT Try.prog 345 = some 4 := by kernel_rfl
@[simp] theorem tyB345 : bytesT Try.prog 345 = some 40 := by kernel_rfl
@[simp] theorem tyA345 : aggT Try.prog 345 = some true := by kernel_rfl
@[simp] theorem tyZ345 : zeroT Try.prog 345 = some [.nilPtr, .nilPtr, .nilPtr, .str ByteArray.empty] := by kernel_rfl
@[simp] theorem tyV345 : zeroV Try.prog 345 = some (.agg [.nilPtr, .nilPtr, .nilPtr, .str ByteArray.empty]) := by kernel_rfl
@[simp] theorem tyP345 : placesT Try.prog 345 = some [(0, 1), (1, 1), (2, 1), (3, 1)] := by kernel_rfl
@[simp] theorem tyF345_0 : fieldT Try.prog 345 0 = some (0, 17) := by kernel_rfl
@[simp] theorem tyF345_1 : fieldT Try.prog 345 1 = some (1, 17) := by kernel_rfl
@[simp] theorem tyF345_2 : fieldT Try.prog 345 2 = some (2, 17) := by kernel_rfl
@[simp] theorem tyF345_3 : fieldT Try.prog 345 3 = some (3, 9) := by kernel_rfl
@[simp] theorem tyS346 : sizeT Try.prog 346 = some 4 := by kernel_rfl
@[simp] theorem tyB346 : bytesT Try.prog 346 = some 40 := by kernel_rfl
@[simp] theorem tyA346 : aggT Try.prog 346 = some true := by kernel_rfl
@[simp] theorem tyZ346 : zeroT Try.prog 346 = some [.nilPtr, .nilPtr, .nilPtr, .str ByteArray.empty] := by kernel_rfl
@[simp] theorem tyV346 : zeroV Try.prog 346 = some (.agg [.nilPtr, .nilPtr, .nilPtr, .str ByteArray.empty]) := by kernel_rfl
@[simp] theorem tyP346 : placesT Try.prog 346 = some [(0, 1), (1, 1), (2, 1), (3, 1)] := by kernel_rfl
@[simp] theorem tyF346_0 : fieldT Try.prog 346 0 = some (0, 17) := by kernel_rfl
@[simp] theorem tyF346_1 : fieldT Try.prog 346 1 = some (1, 17) := by kernel_rfl
@[simp] theorem tyF346_2 : fieldT Try.prog 346 2 = some (2, 17) := by kernel_rfl
@[simp] theorem tyF346_3 : fieldT Try.prog 346 3 = some (3, 9) := by kernel_rfl
@[simp] theorem tyU350 : Try.prog.underlying 350 = some (.int .u8) := by kernel_rfl
@[simp] theorem tyS350 : sizeT Try.prog 350 = some 1 := by kernel_rfl
@[simp] theorem tyB350 : bytesT Try.prog 350 = some 1 := by kernel_rfl
@[simp] theorem tyA350 : aggT Try.prog 350 = some false := by kernel_rfl
@[simp] theorem tyZ350 : zeroT Try.prog 350 = some [.int .u8 0] := by kernel_rfl
@[simp] theorem tyV350 : zeroV Try.prog 350 = some (.int .u8 0) := by kernel_rfl
@[simp] theorem tyP350 : placesT Try.prog 350 = none := by kernel_rfl
@[simp] theorem tyU351 : Try.prog.underlying 351 = some (.int .u8) := by kernel_rfl
@[simp] theorem tyS351 : sizeT Try.prog 351 = some 1 := by kernel_rfl
@[simp] theorem tyB351 : bytesT Try.prog 351 = some 1 := by kernel_rfl
@[simp] theorem tyA351 : aggT Try.prog 351 = some false := by kernel_rfl
@[simp] theorem tyZ351 : zeroT Try.prog 351 = some [.int .u8 0] := by kernel_rfl
@[simp] theorem tyV351 : zeroV Try.prog 351 = some (.int .u8 0) := by kernel_rfl
@[simp] theorem tyP351 : placesT Try.prog 351 = none := by kernel_rfl
@[simp] theorem tyS352 : sizeT Try.prog 352 = some 1 := by kernel_rfl
@[simp] theorem tyB352 : bytesT Try.prog 352 = some 8 := by kernel_rfl
@[simp] theorem tyA352 : aggT Try.prog 352 = some false := by kernel_rfl
@[simp] theorem tyZ352 : zeroT Try.prog 352 = some [.nilFunc] := by kernel_rfl
@[simp] theorem tyV352 : zeroV Try.prog 352 = some (.nilFunc) := by kernel_rfl
@[simp] theorem tyP352 : placesT Try.prog 352 = none := by kernel_rfl
@[simp] theorem tyU353 : Try.prog.underlying 353 = some (.pointer 5) := by kernel_rfl
@[simp] theorem tyS353 : sizeT Try.prog 353 = some 1 := by kernel_rfl
@[simp] theorem tyB353 : bytesT Try.prog 353 = some 8 := by kernel_rfl
@[simp] theorem tyA353 : aggT Try.prog 353 = some false := by kernel_rfl
@[simp] theorem tyZ353 : zeroT Try.prog 353 = some [.nilPtr] := by kernel_rfl
@[simp] theorem tyV353 : zeroV Try.prog 353 = some (.nilPtr) := by kernel_rfl
@[simp] theorem tyP353 : placesT Try.prog 353 = none := by kernel_rfl
@[simp] theorem tyU354 : Try.prog.underlying 354 = some (.int .i32) := by kernel_rfl
@[simp] theorem tyS354 : sizeT Try.prog 354 = some 1 := by kernel_rfl
@[simp] theorem tyB354 : bytesT Try.prog 354 = some 4 := by kernel_rfl
@[simp] theorem tyA354 : aggT Try.prog 354 = some false := by kernel_rfl
@[simp] theorem tyZ354 : zeroT Try.prog 354 = some [.int .i32 0] := by kernel_rfl
@[simp] theorem tyV354 : zeroV Try.prog 354 = some (.int .i32 0) := by kernel_rfl
@[simp] theorem tyP354 : placesT Try.prog 354 = none := by kernel_rfl
@[simp] theorem tyU355 : Try.prog.underlying 355 = some (.int .i32) := by kernel_rfl
@[simp] theorem tyS355 : sizeT Try.prog 355 = some 1 := by kernel_rfl
@[simp] theorem tyB355 : bytesT Try.prog 355 = some 4 := by kernel_rfl
@[simp] theorem tyA355 : aggT Try.prog 355 = some false := by kernel_rfl
@[simp] theorem tyZ355 : zeroT Try.prog 355 = some [.int .i32 0] := by kernel_rfl
@[simp] theorem tyV355 : zeroV Try.prog 355 = some (.int .i32 0) := by kernel_rfl
@[simp] theorem tyP355 : placesT Try.prog 355 = none := by kernel_rfl
@[simp] theorem tyS356 : sizeT Try.prog 356 = some 11 := by kernel_rfl
@[simp] theorem tyB356 : bytesT Try.prog 356 = some 48 := by kernel_rfl
@[simp] theorem tyA356 : aggT Try.prog 356 = some true := by kernel_rfl
@[simp] theorem tyZ356 : zeroT Try.prog 356 = some [.int .u64 0, .int .u64 0, .int .u32 0, .int .u8 0, .int .u8 0, .int .u8 0, .int .u8 0, .nilFunc, .nilPtr, .int .i32 0, .int .i32 0] := by kernel_rfl
@[simp] theorem tyV356 : zeroV Try.prog 356 = some (.agg [.int .u64 0, .int .u64 0, .int .u32 0, .int .u8 0, .int .u8 0, .int .u8 0, .int .u8 0, .nilFunc, .nilPtr, .int .i32 0, .int .i32 0]) := by kernel_rfl
@[simp] theorem tyP356 : placesT Try.prog 356 = some [(0, 1), (1, 1), (2, 1), (3, 1), (4, 1), (5, 1), (6, 1), (7, 1), (8, 1), (9, 1), (10, 1)] := by kernel_rfl
@[simp] theorem tyF356_0 : fieldT Try.prog 356 0 = some (0, 12) := by kernel_rfl
@[simp] theorem tyF356_1 : fieldT Try.prog 356 1 = some (1, 12) := by kernel_rfl
@[simp] theorem tyF356_2 : fieldT Try.prog 356 2 = some (2, 298) := by kernel_rfl
@[simp] theorem tyF356_3 : fieldT Try.prog 356 3 = some (3, 350) := by kernel_rfl
@[simp] theorem tyF356_4 : fieldT Try.prog 356 4 = some (4, 5) := by kernel_rfl
@[simp] theorem tyF356_5 : fieldT Try.prog 356 5 = some (5, 5) := by kernel_rfl
@[simp] theorem tyF356_6 : fieldT Try.prog 356 6 = some (6, 351) := by kernel_rfl
@[simp] theorem tyF356_7 : fieldT Try.prog 356 7 = some (7, 352) := by kernel_rfl
@[simp] theorem tyF356_8 : fieldT Try.prog 356 8 = some (8, 353) := by kernel_rfl
@[simp] theorem tyF356_9 : fieldT Try.prog 356 9 = some (9, 354) := by kernel_rfl
@[simp] theorem tyF356_10 : fieldT Try.prog 356 10 = some (10, 355) := by kernel_rfl
@[simp] theorem tyS357 : sizeT Try.prog 357 = some 11 := by kernel_rfl
@[simp] theorem tyB357 : bytesT Try.prog 357 = some 48 := by kernel_rfl
@[simp] theorem tyA357 : aggT Try.prog 357 = some true := by kernel_rfl
@[simp] theorem tyZ357 : zeroT Try.prog 357 = some [.int .u64 0, .int .u64 0, .int .u32 0, .int .u8 0, .int .u8 0, .int .u8 0, .int .u8 0, .nilFunc, .nilPtr, .int .i32 0, .int .i32 0] := by kernel_rfl
@[simp] theorem tyV357 : zeroV Try.prog 357 = some (.agg [.int .u64 0, .int .u64 0, .int .u32 0, .int .u8 0, .int .u8 0, .int .u8 0, .int .u8 0, .nilFunc, .nilPtr, .int .i32 0, .int .i32 0]) := by kernel_rfl
@[simp] theorem tyP357 : placesT Try.prog 357 = some [(0, 1), (1, 1), (2, 1), (3, 1), (4, 1), (5, 1), (6, 1), (7, 1), (8, 1), (9, 1), (10, 1)] := by kernel_rfl
@[simp] theorem tyF357_0 : fieldT Try.prog 357 0 = some (0, 12) := by kernel_rfl
@[simp] theorem tyF357_1 : fieldT Try.prog 357 1 = some (1, 12) := by kernel_rfl
@[simp] theorem tyF357_2 : fieldT Try.prog 357 2 = some (2, 298) := by kernel_rfl
@[simp] theorem tyF357_3 : fieldT Try.prog 357 3 = some (3, 350) := by kernel_rfl
@[simp] theorem tyF357_4 : fieldT Try.prog 357 4 = some (4, 5) := by kernel_rfl
@[simp] theorem tyF357_5 : fieldT Try.prog 357 5 = some (5, 5) := by kernel_rfl
@[simp] theorem tyF357_6 : fieldT Try.prog 357 6 = some (6, 351) := by kernel_rfl
@[simp] theorem tyF357_7 : fieldT Try.prog 357 7 = some (7, 352) := by kernel_rfl
@[simp] theorem tyF357_8 : fieldT Try.prog 357 8 = some (8, 353) := by kernel_rfl
@[simp] theorem tyF357_9 : fieldT Try.prog 357 9 = some (9, 354) := by kernel_rfl
@[simp] theorem tyF357_10 : fieldT Try.prog 357 10 = some (10, 355) := by kernel_rfl
@[simp] theorem tyS358 : sizeT Try.prog 358 = some 2 := by kernel_rfl
@[simp] theorem tyB358 : bytesT Try.prog 358 = some 16 := by kernel_rfl
@[simp] theorem tyA358 : aggT Try.prog 358 = some true := by kernel_rfl
@[simp] theorem tyZ358 : zeroT Try.prog 358 = some [.int .i64 0, .int .i64 0] := by kernel_rfl
@[simp] theorem tyV358 : zeroV Try.prog 358 = some (.agg [.int .i64 0, .int .i64 0]) := by kernel_rfl
@[simp] theorem tyP358 : placesT Try.prog 358 = some [(0, 1), (1, 1)] := by kernel_rfl
@[simp] theorem tyF358_0 : fieldT Try.prog 358 0 = some (0, 3) := by kernel_rfl
@[simp] theorem tyF358_1 : fieldT Try.prog 358 1 = some (1, 3) := by kernel_rfl
@[simp] theorem tyS359 : sizeT Try.prog 359 = some 2 := by kernel_rfl
@[simp] theorem tyB359 : bytesT Try.prog 359 = some 16 := by kernel_rfl
@[simp] theorem tyA359 : aggT Try.prog 359 = some true := by kernel_rfl
@[simp] theorem tyZ359 : zeroT Try.prog 359 = some [.int .i64 0, .int .i64 0] := by kernel_rfl
@[simp] theorem tyV359 : zeroV Try.prog 359 = some (.agg [.int .i64 0, .int .i64 0]) := by kernel_rfl
@[simp] theorem tyP359 : placesT Try.prog 359 = some [(0, 1), (1, 1)] := by kernel_rfl
@[simp] theorem tyF359_0 : fieldT Try.prog 359 0 = some (0, 3) := by kernel_rfl
@[simp] theorem tyF359_1 : fieldT Try.prog 359 1 = some (1, 3) := by kernel_rfl
@[simp] theorem tyS363 : sizeT Try.prog 363 = some 1 := by kernel_rfl
@[simp] theorem tyB363 : bytesT Try.prog 363 = some 16 := by kernel_rfl
@[simp] theorem tyA363 : aggT Try.prog 363 = some false := by kernel_rfl
@[simp] theorem tyZ363 : zeroT Try.prog 363 = some [.nilIface] := by kernel_rfl
@[simp] theorem tyV363 : zeroV Try.prog 363 = some (.nilIface) := by kernel_rfl
@[simp] theorem tyP363 : placesT Try.prog 363 = none := by kernel_rfl
@[simp] theorem tyS364 : sizeT Try.prog 364 = some 1 := by kernel_rfl
@[simp] theorem tyB364 : bytesT Try.prog 364 = some 16 := by kernel_rfl
@[simp] theorem tyA364 : aggT Try.prog 364 = some false := by kernel_rfl
@[simp] theorem tyZ364 : zeroT Try.prog 364 = some [.nilIface] := by kernel_rfl
@[simp] theorem tyV364 : zeroV Try.prog 364 = some (.nilIface) := by kernel_rfl
@[simp] theorem tyP364 : placesT Try.prog 364 = none := by kernel_rfl
@[simp] theorem tyM250_acked : mthA Try.prog 250 "loop.example/g00012/impl.acked" = some 320 := by kernel_rfl
@[simp] theorem tyM250_lost : mthA Try.prog 250 "loop.example/g00012/impl.lost" = some 321 := by kernel_rfl
@[simp] theorem tyM250_tells : mthA Try.prog 250 "loop.example/g00012/impl.tells" = some 322 := by kernel_rfl
@[simp] theorem tyM253_acked : mthA Try.prog 253 "loop.example/g00012/impl.acked" = some 323 := by kernel_rfl
@[simp] theorem tyM253_lost : mthA Try.prog 253 "loop.example/g00012/impl.lost" = some 325 := by kernel_rfl
@[simp] theorem tyM253_tells : mthA Try.prog 253 "loop.example/g00012/impl.tells" = some 326 := by kernel_rfl
/-! 3: laws.FnExactCcRun -/
theorem ok3 : goodFn Try.f3 = true := by kernel_rfl
/-! 4: laws.FnWindow -/
theorem ok4 : goodFn Try.f4 = true := by kernel_rfl
theorem lp4_16378 (call : CallF) (n : Nat) (τ : Tm) (H : AH) : evCode Try.prog call n (lp Try.prog 4 16378) τ H = evN Try.prog call n 4 32756 (sub (Try.f4.body.getD .skip) 200 32756) τ H := lp_at Try.func4 16378 (by decide) 14 (by decide) (by kernel_rfl) call n τ H
@[simp] theorem dr4_2096420 : dr Try.prog 4 2096420 = .seq [] := (dr_eq Try.func4 2096420).trans (by kernel_rfl)
@[simp] theorem dr4_33542780 : dr Try.prog 4 33542780 = .seq [] := (dr_eq Try.func4 33542780).trans (by kernel_rfl)
/-! 5: laws.FnExactFlowRun -/
theorem ok5 : goodFn Try.f5 = true := by kernel_rfl
/-! 6: laws.FnFlowBooks -/
theorem ok6 : goodFn Try.f6 = true := by kernel_rfl
theorem lp6_131066 (call : CallF) (n : Nat) (τ : Tm) (H : AH) : evCode Try.prog call n (lp Try.prog 6 131066) τ H = evN Try.prog call n 6 262132 (sub (Try.f6.body.getD .skip) 200 262132) τ H := lp_at Try.func6 131066 (by decide) 17 (by decide) (by kernel_rfl) call n τ H
@[simp] theorem dr6_16776484 : dr Try.prog 6 16776484 = .seq [] := (dr_eq Try.func6 16776484).trans (by kernel_rfl)
@[simp] theorem dr6_2147390420 : dr Try.prog 6 2147390420 = .seq [(31, 0)] := (dr_eq Try.func6 2147390420).trans (by kernel_rfl)
@[simp] theorem dr6_1073695226 : dr Try.prog 6 1073695226 = .seq [] := (dr_eq Try.func6 1073695226).trans (by kernel_rfl)
@[simp] theorem dr6_2147390460 : dr Try.prog 6 2147390460 = .seq [] := (dr_eq Try.func6 2147390460).trans (by kernel_rfl)
theorem lp6_4294780926 (call : CallF) (n : Nat) (τ : Tm) (H : AH) : evCode Try.prog call n (lp Try.prog 6 4294780926) τ H = evN Try.prog call n 6 8589561852 (sub (Try.f6.body.getD .skip) 200 8589561852) τ H := lp_at Try.func6 4294780926 (by decide) 32 (by decide) (by kernel_rfl) call n τ H
@[simp] theorem dr6_274865979280 : dr Try.prog 6 274865979280 = .seq [] := (dr_eq Try.func6 274865979280).trans (by kernel_rfl)
/-! 7: laws.FnCredits -/
theorem ok7 : goodFn Try.f7 = true := by kernel_rfl
theorem lp7_65530 (call : CallF) (n : Nat) (τ : Tm) (H : AH) : evCode Try.prog call n (lp Try.prog 7 65530) τ H = evN Try.prog call n 7 131060 (sub (Try.f7.body.getD .skip) 200 131060) τ H := lp_at Try.func7 65530 (by decide) 16 (by decide) (by kernel_rfl) call n τ H
theorem lp7_8589189118 (call : CallF) (n : Nat) (τ : Tm) (H : AH) : evCode Try.prog call n (lp Try.prog 7 8589189118) τ H = evN Try.prog call n 7 17178378236 (sub (Try.f7.body.getD .skip) 200 17178378236) τ H := lp_at Try.func7 8589189118 (by decide) 33 (by decide) (by kernel_rfl) call n τ H
/-! 8: laws.FnExactReadFrame -/
theorem ok8 : goodFn Try.f8 = true := by kernel_rfl
/-! 9: laws.FnFrames -/
theorem ok9 : goodFn Try.f9 = true := by kernel_rfl
theorem lp9_250 (call : CallF) (n : Nat) (τ : Tm) (H : AH) : evCode Try.prog call n (lp Try.prog 9 250) τ H = evN Try.prog call n 9 500 (sub (Try.f9.body.getD .skip) 200 500) τ H := lp_at Try.func9 250 (by decide) 8 (by decide) (by kernel_rfl) call n τ H
@[simp] theorem dr9_2050556 : dr Try.prog 9 2050556 = .seq [(4, 0)] := (dr_eq Try.func9 2050556).trans (by kernel_rfl)
theorem lp9_4090 (call : CallF) (n : Nat) (τ : Tm) (H : AH) : evCode Try.prog call n (lp Try.prog 9 4090) τ H = evN Try.prog call n 9 8180 (sub (Try.f9.body.getD .skip) 200 8180) τ H := lp_at Try.func9 4090 (by decide) 12 (by decide) (by kernel_rfl) call n τ H
@[simp] theorem dr9_130888 : dr Try.prog 9 130888 = .seq [] := (dr_eq Try.func9 130888).trans (by kernel_rfl)
/-! 10: laws.FnRanges -/
theorem ok10 : goodFn Try.f10 = true := by kernel_rfl
theorem lp10_250 (call : CallF) (n : Nat) (τ : Tm) (H : AH) : evCode Try.prog call n (lp Try.prog 10 250) τ H = evN Try.prog call n 10 500 (sub (Try.f10.body.getD .skip) 200 500) τ H := lp_at Try.func10 250 (by decide) 8 (by decide) (by kernel_rfl) call n τ H
theorem lp10_2050558 (call : CallF) (n : Nat) (τ : Tm) (H : AH) : evCode Try.prog call n (lp Try.prog 10 2050558) τ H = evN Try.prog call n 10 4101116 (sub (Try.f10.body.getD .skip) 200 4101116) τ H := lp_at Try.func10 2050558 (by decide) 21 (by decide) (by kernel_rfl) call n τ H
theorem lp10_4090 (call : CallF) (n : Nat) (τ : Tm) (H : AH) : evCode Try.prog call n (lp Try.prog 10 4090) τ H = evN Try.prog call n 10 8180 (sub (Try.f10.body.getD .skip) 200 8180) τ H := lp_at Try.func10 4090 (by decide) 12 (by decide) (by kernel_rfl) call n τ H
@[simp] theorem dr10_523556 : dr Try.prog 10 523556 = .seq [(6, 0)] := (dr_eq Try.func10 523556).trans (by kernel_rfl)
@[simp] theorem dr10_262142 : dr Try.prog 10 262142 = .seq [(33, 26)] := (dr_eq Try.func10 262142).trans (by kernel_rfl)
/-! 11: laws.FnExactIdsRun -/
theorem ok11 : goodFn Try.f11 = true := by kernel_rfl
/-! 12: laws.FnIds -/
theorem ok12 : goodFn Try.f12 = true := by kernel_rfl
theorem lp12_4090 (call : CallF) (n : Nat) (τ : Tm) (H : AH) : evCode Try.prog call n (lp Try.prog 12 4090) τ H = evN Try.prog call n 12 8180 (sub (Try.f12.body.getD .skip) 200 8180) τ H := lp_at Try.func12 4090 (by decide) 12 (by decide) (by kernel_rfl) call n τ H
@[simp] theorem dr12_523556 : dr Try.prog 12 523556 = .seq [] := (dr_eq Try.func12 523556).trans (by kernel_rfl)
theorem lp12_2094234 (call : CallF) (n : Nat) (τ : Tm) (H : AH) : evCode Try.prog call n (lp Try.prog 12 2094234) τ H = evN Try.prog call n 12 4188468 (sub (Try.f12.body.getD .skip) 200 4188468) τ H := lp_at Try.func12 2094234 (by decide) 21 (by decide) (by kernel_rfl) call n τ H
theorem lp12_536123978 (call : CallF) (n : Nat) (τ : Tm) (H : AH) : evCode Try.prog call n (lp Try.prog 12 536123978) τ H = evN Try.prog call n 12 1072247956 (sub (Try.f12.body.getD .skip) 200 1072247956) τ H := lp_at Try.func12 536123978 (by decide) 29 (by decide) (by kernel_rfl) call n τ H
@[simp] theorem dr12_17155967304 : dr Try.prog 12 17155967304 = .seq [] := (dr_eq Try.func12 17155967304).trans (by kernel_rfl)
theorem lp12_2094238 (call : CallF) (n : Nat) (τ : Tm) (H : AH) : evCode Try.prog call n (lp Try.prog 12 2094238) τ H = evN Try.prog call n 12 4188476 (sub (Try.f12.body.getD .skip) 200 4188476) τ H := lp_at Try.func12 2094238 (by decide) 21 (by decide) (by kernel_rfl) call n τ H
@[simp] theorem dr12_67015624 : dr Try.prog 12 67015624 = .seq [] := (dr_eq Try.func12 67015624).trans (by kernel_rfl)
/-! 13: laws.FnExactReadHello -/
theorem ok13 : goodFn Try.f13 = true := by kernel_rfl
/-! 14: laws.FnHellos -/
theorem ok14 : goodFn Try.f14 = true := by kernel_rfl
@[simp] theorem dr14_16382 : dr Try.prog 14 16382 = .flt ⟨[13], [[], [], [], [], [], [], [], [], [], [], [], [], [], [], [13], [], []], [], [(4, 0, []), (5, 0, []), (6, 0, [])]⟩ := (dr_eq Try.func14 16382).trans (by kernel_rfl)
theorem lp14_262138 (call : CallF) (n : Nat) (τ : Tm) (H : AH) : evCode Try.prog call n (lp Try.prog 14 262138) τ H = evN Try.prog call n 14 524276 (sub (Try.f14.body.getD .skip) 200 524276) τ H := lp_at Try.func14 262138 (by decide) 18 (by decide) (by kernel_rfl) call n τ H
@[simp] theorem dr14_8388424 : dr Try.prog 14 8388424 = .seq [] := (dr_eq Try.func14 8388424).trans (by kernel_rfl)
/-! 15: laws.szCcOpS -/
theorem ok15 : goodFn Try.f15 = true := by kernel_rfl
/-! 16: spec.CcRun -/
theorem ok16 : goodFn Try.f16 = true := by kernel_rfl
theorem lp16_506 (call : CallF) (n : Nat) (τ : Tm) (H : AH) : evCode Try.prog call n (lp Try.prog 16 506) τ H = evN Try.prog call n 16 1012 (sub (Try.f16.body.getD .skip) 200 1012) τ H := lp_at Try.func16 506 (by decide) 9 (by decide) (by kernel_rfl) call n τ H
/-! 17: laws.toCcOpS -/
theorem ok17 : goodFn Try.f17 = true := by kernel_rfl
theorem lp17_58 (call : CallF) (n : Nat) (τ : Tm) (H : AH) : evCode Try.prog call n (lp Try.prog 17 58) τ H = evN Try.prog call n 17 116 (sub (Try.f17.body.getD .skip) 200 116) τ H := lp_at Try.func17 58 (by decide) 6 (by decide) (by kernel_rfl) call n τ H
/-! 18: impl.CcRun -/
theorem ok18 : goodFn Try.f18 = true := by kernel_rfl
theorem lp18_506 (call : CallF) (n : Nat) (τ : Tm) (H : AH) : evCode Try.prog call n (lp Try.prog 18 506) τ H = evN Try.prog call n 18 1012 (sub (Try.f18.body.getD .skip) 200 1012) τ H := lp_at Try.func18 506 (by decide) 9 (by decide) (by kernel_rfl) call n τ H
/-! 19: laws.eqCcObsS -/
theorem ok19 : goodFn Try.f19 = true := by kernel_rfl
theorem lp19_58 (call : CallF) (n : Nat) (τ : Tm) (H : AH) : evCode Try.prog call n (lp Try.prog 19 58) τ H = evN Try.prog call n 19 116 (sub (Try.f19.body.getD .skip) 200 116) τ H := lp_at Try.func19 58 (by decide) 6 (by decide) (by kernel_rfl) call n τ H
@[simp] theorem dr19_1864 : dr Try.prog 19 1864 = .seq [] := (dr_eq Try.func19 1864).trans (by kernel_rfl)
/-! 20: laws.eqCcOpS -/
theorem ok20 : goodFn Try.f20 = true := by kernel_rfl
theorem lp20_58 (call : CallF) (n : Nat) (τ : Tm) (H : AH) : evCode Try.prog call n (lp Try.prog 20 58) τ H = evN Try.prog call n 20 116 (sub (Try.f20.body.getD .skip) 200 116) τ H := lp_at Try.func20 58 (by decide) 6 (by decide) (by kernel_rfl) call n τ H
@[simp] theorem dr20_1864 : dr Try.prog 20 1864 = .seq [] := (dr_eq Try.func20 1864).trans (by kernel_rfl)
/-! 21: laws.markCcOpS -/
theorem ok21 : goodFn Try.f21 = true := by kernel_rfl
theorem lp21_26 (call : CallF) (n : Nat) (τ : Tm) (H : AH) : evCode Try.prog call n (lp Try.prog 21 26) τ H = evN Try.prog call n 21 52 (sub (Try.f21.body.getD .skip) 200 52) τ H := lp_at Try.func21 26 (by decide) 5 (by decide) (by kernel_rfl) call n τ H
/-! 22: laws.markCcObsS -/
theorem ok22 : goodFn Try.f22 = true := by kernel_rfl
theorem lp22_26 (call : CallF) (n : Nat) (τ : Tm) (H : AH) : evCode Try.prog call n (lp Try.prog 22 26) τ H = evN Try.prog call n 22 52 (sub (Try.f22.body.getD .skip) 200 52) τ H := lp_at Try.func22 26 (by decide) 5 (by decide) (by kernel_rfl) call n τ H
/-! 23: laws.heldCcObsS -/
theorem ok23 : goodFn Try.f23 = true := by kernel_rfl
theorem lp23_26 (call : CallF) (n : Nat) (τ : Tm) (H : AH) : evCode Try.prog call n (lp Try.prog 23 26) τ H = evN Try.prog call n 23 52 (sub (Try.f23.body.getD .skip) 200 52) τ H := lp_at Try.func23 26 (by decide) 5 (by decide) (by kernel_rfl) call n τ H
/-! 24: spec.DrawCcRun -/
theorem ok24 : goodFn Try.f24 = true := by kernel_rfl
theorem lp24_8186 (call : CallF) (n : Nat) (τ : Tm) (H : AH) : evCode Try.prog call n (lp Try.prog 24 8186) τ H = evN Try.prog call n 24 16372 (sub (Try.f24.body.getD .skip) 200 16372) τ H := lp_at Try.func24 8186 (by decide) 13 (by decide) (by kernel_rfl) call n τ H
@[simp] theorem dr24_523922 : dr Try.prog 24 523922 = .flt ⟨[0, 14], [[], [], [], [0], [0], [], [], [], [], [], [], [], [], [0], [], [0, 14]], [], [(4, 8, [0]), (4, 12, [0])]⟩ := (dr_eq Try.func24 523922).trans (by kernel_rfl)
/-! 25: laws.szFlowOpS -/
theorem ok25 : goodFn Try.f25 = true := by kernel_rfl
/-! 26: spec.FlowRun -/
theorem ok26 : goodFn Try.f26 = true := by kernel_rfl
theorem lp26_506 (call : CallF) (n : Nat) (τ : Tm) (H : AH) : evCode Try.prog call n (lp Try.prog 26 506) τ H = evN Try.prog call n 26 1012 (sub (Try.f26.body.getD .skip) 200 1012) τ H := lp_at Try.func26 506 (by decide) 9 (by decide) (by kernel_rfl) call n τ H
/-! 27: laws.toFlowSetup -/
theorem ok27 : goodFn Try.f27 = true := by kernel_rfl
/-! 28: laws.toFlowOpS -/
theorem ok28 : goodFn Try.f28 = true := by kernel_rfl
theorem lp28_58 (call : CallF) (n : Nat) (τ : Tm) (H : AH) : evCode Try.prog call n (lp Try.prog 28 58) τ H = evN Try.prog call n 28 116 (sub (Try.f28.body.getD .skip) 200 116) τ H := lp_at Try.func28 58 (by decide) 6 (by decide) (by kernel_rfl) call n τ H
/-! 29: impl.FlowRun -/
theorem ok29 : goodFn Try.f29 = true := by kernel_rfl
theorem lp29_506 (call : CallF) (n : Nat) (τ : Tm) (H : AH) : evCode Try.prog call n (lp Try.prog 29 506) τ H = evN Try.prog call n 29 1012 (sub (Try.f29.body.getD .skip) 200 1012) τ H := lp_at Try.func29 506 (by decide) 9 (by decide) (by kernel_rfl) call n τ H
/-! 30: laws.eqFlowObsS -/
theorem ok30 : goodFn Try.f30 = true := by kernel_rfl
theorem lp30_58 (call : CallF) (n : Nat) (τ : Tm) (H : AH) : evCode Try.prog call n (lp Try.prog 30 58) τ H = evN Try.prog call n 30 116 (sub (Try.f30.body.getD .skip) 200 116) τ H := lp_at Try.func30 58 (by decide) 6 (by decide) (by kernel_rfl) call n τ H
@[simp] theorem dr30_1864 : dr Try.prog 30 1864 = .seq [] := (dr_eq Try.func30 1864).trans (by kernel_rfl)
/-! 31: laws.eqFlowOpS -/
theorem ok31 : goodFn Try.f31 = true := by kernel_rfl
theorem lp31_58 (call : CallF) (n : Nat) (τ : Tm) (H : AH) : evCode Try.prog call n (lp Try.prog 31 58) τ H = evN Try.prog call n 31 116 (sub (Try.f31.body.getD .skip) 200 116) τ H := lp_at Try.func31 58 (by decide) 6 (by decide) (by kernel_rfl) call n τ H
@[simp] theorem dr31_1864 : dr Try.prog 31 1864 = .seq [] := (dr_eq Try.func31 1864).trans (by kernel_rfl)
/-! 32: laws.markFlowOpS -/
theorem ok32 : goodFn Try.f32 = true := by kernel_rfl
theorem lp32_26 (call : CallF) (n : Nat) (τ : Tm) (H : AH) : evCode Try.prog call n (lp Try.prog 32 26) τ H = evN Try.prog call n 32 52 (sub (Try.f32.body.getD .skip) 200 52) τ H := lp_at Try.func32 26 (by decide) 5 (by decide) (by kernel_rfl) call n τ H
/-! 33: laws.markFlowObsS -/
theorem ok33 : goodFn Try.f33 = true := by kernel_rfl
theorem lp33_26 (call : CallF) (n : Nat) (τ : Tm) (H : AH) : evCode Try.prog call n (lp Try.prog 33 26) τ H = evN Try.prog call n 33 52 (sub (Try.f33.body.getD .skip) 200 52) τ H := lp_at Try.func33 26 (by decide) 5 (by decide) (by kernel_rfl) call n τ H
/-! 34: laws.heldFlowObsS -/
theorem ok34 : goodFn Try.f34 = true := by kernel_rfl
theorem lp34_26 (call : CallF) (n : Nat) (τ : Tm) (H : AH) : evCode Try.prog call n (lp Try.prog 34 26) τ H = evN Try.prog call n 34 52 (sub (Try.f34.body.getD .skip) 200 52) τ H := lp_at Try.func34 26 (by decide) 5 (by decide) (by kernel_rfl) call n τ H
/-! 35: spec.DrawFlowRun -/
theorem ok35 : goodFn Try.f35 = true := by kernel_rfl
theorem lp35_250 (call : CallF) (n : Nat) (τ : Tm) (H : AH) : evCode Try.prog call n (lp Try.prog 35 250) τ H = evN Try.prog call n 35 500 (sub (Try.f35.body.getD .skip) 200 500) τ H := lp_at Try.func35 250 (by decide) 8 (by decide) (by kernel_rfl) call n τ H
@[simp] theorem dr35_8008 : dr Try.prog 35 8008 = .flt ⟨[0, 12], [[], [], [], [0], [0], [], [], [], [], [], [], [0], [], [0, 12]], [], [(4, 7, [0]), (4, 9, [0]), (4, 11, [0])]⟩ := (dr_eq Try.func35 8008).trans (by kernel_rfl)
/-! 36: impl.IdParts -/
theorem ok36 : goodFn Try.f36 = true := by kernel_rfl
/-! 37: impl.IdOf -/
theorem ok37 : goodFn Try.f37 = true := by kernel_rfl
/-! 38: laws.sameFrame -/
theorem ok38 : goodFn Try.f38 = true := by kernel_rfl
/-! 39: spec.ReadFrame -/
theorem ok39 : goodFn Try.f39 = true := by kernel_rfl
@[simp] theorem dr39_8190 : dr Try.prog 39 8190 = .seq [(4, 6)] := (dr_eq Try.func39 8190).trans (by kernel_rfl)
/-! 40: laws.toByteS -/
theorem ok40 : goodFn Try.f40 = true := by kernel_rfl
theorem lp40_58 (call : CallF) (n : Nat) (τ : Tm) (H : AH) : evCode Try.prog call n (lp Try.prog 40 58) τ H = evN Try.prog call n 40 116 (sub (Try.f40.body.getD .skip) 200 116) τ H := lp_at Try.func40 58 (by decide) 6 (by decide) (by kernel_rfl) call n τ H
/-! 41: impl.ReadFrame -/
theorem ok41 : goodFn Try.f41 = true := by kernel_rfl
@[simp] theorem dr41_1012 : dr Try.prog 41 1012 = .seq [(4, 6)] := (dr_eq Try.func41 1012).trans (by kernel_rfl)
@[simp] theorem dr41_254 : dr Try.prog 41 254 = .seq [(4, 6)] := (dr_eq Try.func41 254).trans (by kernel_rfl)
/-! 42: laws.eqFrame -/
theorem ok42 : goodFn Try.f42 = true := by kernel_rfl
/-! 43: laws.eqByteS -/
theorem ok43 : goodFn Try.f43 = true := by kernel_rfl
theorem lp43_58 (call : CallF) (n : Nat) (τ : Tm) (H : AH) : evCode Try.prog call n (lp Try.prog 43 58) τ H = evN Try.prog call n 43 116 (sub (Try.f43.body.getD .skip) 200 116) τ H := lp_at Try.func43 58 (by decide) 6 (by decide) (by kernel_rfl) call n τ H
@[simp] theorem dr43_1864 : dr Try.prog 43 1864 = .seq [] := (dr_eq Try.func43 1864).trans (by kernel_rfl)
/-! 44: laws.markByteS -/
theorem ok44 : goodFn Try.f44 = true := by kernel_rfl
theorem lp44_26 (call : CallF) (n : Nat) (τ : Tm) (H : AH) : evCode Try.prog call n (lp Try.prog 44 26) τ H = evN Try.prog call n 44 52 (sub (Try.f44.body.getD .skip) 200 52) τ H := lp_at Try.func44 26 (by decide) 5 (by decide) (by kernel_rfl) call n τ H
/-! 45: laws.markFrame -/
theorem ok45 : goodFn Try.f45 = true := by kernel_rfl
/-! 46: laws.heldFrame -/
theorem ok46 : goodFn Try.f46 = true := by kernel_rfl
/-! 47: spec.DrawFrameBytes -/
theorem ok47 : goodFn Try.f47 = true := by kernel_rfl
/-! 48: impl.FrameBytes -/
theorem ok48 : goodFn Try.f48 = true := by kernel_rfl
/-! 49: spec.FrameBytes -/
theorem ok49 : goodFn Try.f49 = true := by kernel_rfl
@[simp] theorem dr49_7870 : dr Try.prog 49 7870 = .seq [(5, 0), (8, 0), (8, 4)] := (dr_eq Try.func49 7870).trans (by kernel_rfl)
@[simp] theorem dr49_31486 : dr Try.prog 49 31486 = .seq [(5, 0)] := (dr_eq Try.func49 31486).trans (by kernel_rfl)
@[simp] theorem dr49_2015230 : dr Try.prog 49 2015230 = .seq [(5, 0)] := (dr_eq Try.func49 2015230).trans (by kernel_rfl)
@[simp] theorem dr49_1031798746 : dr Try.prog 49 1031798746 = .seq [(5, 0), (8, 0), (8, 4)] := (dr_eq Try.func49 1031798746).trans (by kernel_rfl)
@[simp] theorem dr49_257949692 : dr Try.prog 49 257949692 = .flt ⟨[11], [[], [], [], [], [], [], [], [], [], [], [], [], [11], []], [], [(5, 0, []), (8, 0, []), (8, 4, []), (9, 0, []), (9, 4, []), (10, 0, []), (10, 4, [])]⟩ := (dr_eq Try.func49 257949692).trans (by kernel_rfl)
@[simp] theorem dr49_257949693 : dr Try.prog 49 257949693 = .seq [(5, 0)] := (dr_eq Try.func49 257949693).trans (by kernel_rfl)
@[simp] theorem dr49_2063597566 : dr Try.prog 49 2063597566 = .seq [(5, 0), (8, 0), (8, 4)] := (dr_eq Try.func49 2063597566).trans (by kernel_rfl)
/-! 50: impl.FrameOK -/
theorem ok50 : goodFn Try.f50 = true := by kernel_rfl
/-! 51: impl.FrameFits -/
theorem ok51 : goodFn Try.f51 = true := by kernel_rfl
/-! 52: impl.Asks -/
theorem ok52 : goodFn Try.f52 = true := by kernel_rfl
/-! 53: impl.ReadFrames -/
theorem ok53 : goodFn Try.f53 = true := by kernel_rfl
theorem lp53_252 (call : CallF) (n : Nat) (τ : Tm) (H : AH) : evCode Try.prog call n (lp Try.prog 53 252) τ H = evN Try.prog call n 53 504 (sub (Try.f53.body.getD .skip) 200 504) τ H := lp_at Try.func53 252 (by decide) 8 (by decide) (by kernel_rfl) call n τ H
@[simp] theorem dr53_129204 : dr Try.prog 53 129204 = .seq [] := (dr_eq Try.func53 129204).trans (by kernel_rfl)
/-! 54: laws.copied -/
theorem ok54 : goodFn Try.f54 = true := by kernel_rfl
/-! 55: impl.RangesAdd -/
theorem ok55 : goodFn Try.f55 = true := by kernel_rfl
/-! 56: spec.RangesAdd -/
theorem ok56 : goodFn Try.f56 = true := by kernel_rfl
theorem lp56_250 (call : CallF) (n : Nat) (τ : Tm) (H : AH) : evCode Try.prog call n (lp Try.prog 56 250) τ H = evN Try.prog call n 56 500 (sub (Try.f56.body.getD .skip) 200 500) τ H := lp_at Try.func56 250 (by decide) 8 (by decide) (by kernel_rfl) call n τ H
/-! 57: laws.sameRanges -/
theorem ok57 : goodFn Try.f57 = true := by kernel_rfl
theorem lp57_58 (call : CallF) (n : Nat) (τ : Tm) (H : AH) : evCode Try.prog call n (lp Try.prog 57 58) τ H = evN Try.prog call n 57 116 (sub (Try.f57.body.getD .skip) 200 116) τ H := lp_at Try.func57 58 (by decide) 6 (by decide) (by kernel_rfl) call n τ H
@[simp] theorem dr57_1864 : dr Try.prog 57 1864 = .seq [] := (dr_eq Try.func57 1864).trans (by kernel_rfl)
/-! 58: spec.RangesOK -/
theorem ok58 : goodFn Try.f58 = true := by kernel_rfl
/-! 59: impl.RangesHas -/
theorem ok59 : goodFn Try.f59 = true := by kernel_rfl
/-! 60: impl.RangesCount -/
theorem ok60 : goodFn Try.f60 = true := by kernel_rfl
theorem lp60_122 (call : CallF) (n : Nat) (τ : Tm) (H : AH) : evCode Try.prog call n (lp Try.prog 60 122) τ H = evN Try.prog call n 60 244 (sub (Try.f60.body.getD .skip) 200 244) τ H := lp_at Try.func60 122 (by decide) 7 (by decide) (by kernel_rfl) call n τ H
/-! 61: impl.AckFrame -/
theorem ok61 : goodFn Try.f61 = true := by kernel_rfl
/-! 62: impl.AckedBy -/
theorem ok62 : goodFn Try.f62 = true := by kernel_rfl
theorem lp62_250 (call : CallF) (n : Nat) (τ : Tm) (H : AH) : evCode Try.prog call n (lp Try.prog 62 250) τ H = evN Try.prog call n 62 500 (sub (Try.f62.body.getD .skip) 200 500) τ H := lp_at Try.func62 250 (by decide) 8 (by decide) (by kernel_rfl) call n τ H
/-! 63: impl.RangesFrom -/
theorem ok63 : goodFn Try.f63 = true := by kernel_rfl
theorem lp63_122 (call : CallF) (n : Nat) (τ : Tm) (H : AH) : evCode Try.prog call n (lp Try.prog 63 122) τ H = evN Try.prog call n 63 244 (sub (Try.f63.body.getD .skip) 200 244) τ H := lp_at Try.func63 122 (by decide) 7 (by decide) (by kernel_rfl) call n τ H
/-! 64: laws.sameInts -/
theorem ok64 : goodFn Try.f64 = true := by kernel_rfl
theorem lp64_58 (call : CallF) (n : Nat) (τ : Tm) (H : AH) : evCode Try.prog call n (lp Try.prog 64 58) τ H = evN Try.prog call n 64 116 (sub (Try.f64.body.getD .skip) 200 116) τ H := lp_at Try.func64 58 (by decide) 6 (by decide) (by kernel_rfl) call n τ H
@[simp] theorem dr64_1864 : dr Try.prog 64 1864 = .seq [] := (dr_eq Try.func64 1864).trans (by kernel_rfl)
/-! 65: laws.szIdOpS -/
theorem ok65 : goodFn Try.f65 = true := by kernel_rfl
theorem lp65_122 (call : CallF) (n : Nat) (τ : Tm) (H : AH) : evCode Try.prog call n (lp Try.prog 65 122) τ H = evN Try.prog call n 65 244 (sub (Try.f65.body.getD .skip) 200 244) τ H := lp_at Try.func65 122 (by decide) 7 (by decide) (by kernel_rfl) call n τ H
/-! 66: spec.IdsRun -/
theorem ok66 : goodFn Try.f66 = true := by kernel_rfl
theorem lp66_506 (call : CallF) (n : Nat) (τ : Tm) (H : AH) : evCode Try.prog call n (lp Try.prog 66 506) τ H = evN Try.prog call n 66 1012 (sub (Try.f66.body.getD .skip) 200 1012) τ H := lp_at Try.func66 506 (by decide) 9 (by decide) (by kernel_rfl) call n τ H
/-! 67: laws.toIdOpS -/
theorem ok67 : goodFn Try.f67 = true := by kernel_rfl
theorem lp67_58 (call : CallF) (n : Nat) (τ : Tm) (H : AH) : evCode Try.prog call n (lp Try.prog 67 58) τ H = evN Try.prog call n 67 116 (sub (Try.f67.body.getD .skip) 200 116) τ H := lp_at Try.func67 58 (by decide) 6 (by decide) (by kernel_rfl) call n τ H
/-! 68: impl.IdsRun -/
theorem ok68 : goodFn Try.f68 = true := by kernel_rfl
theorem lp68_506 (call : CallF) (n : Nat) (τ : Tm) (H : AH) : evCode Try.prog call n (lp Try.prog 68 506) τ H = evN Try.prog call n 68 1012 (sub (Try.f68.body.getD .skip) 200 1012) τ H := lp_at Try.func68 506 (by decide) 9 (by decide) (by kernel_rfl) call n τ H
@[simp] theorem dr68_1037114 : dr Try.prog 68 1037114 = .flt ⟨[19], [[], [], [], [], [], [], [], [], [], [], [], [], [], [], [], [], [], [], [], [], [], [], [], [], [19], [19]], [], [(7, 22, []), (8, 22, []), (12, 22, []), (12, 24, []), (16, 22, []), (16, 24, []), (17, 22, []), (17, 24, [])]⟩ := (dr_eq Try.func68 1037114).trans (by kernel_rfl)
/-! 69: laws.eqIdObsS -/
theorem ok69 : goodFn Try.f69 = true := by kernel_rfl
theorem lp69_58 (call : CallF) (n : Nat) (τ : Tm) (H : AH) : evCode Try.prog call n (lp Try.prog 69 58) τ H = evN Try.prog call n 69 116 (sub (Try.f69.body.getD .skip) 200 116) τ H := lp_at Try.func69 58 (by decide) 6 (by decide) (by kernel_rfl) call n τ H
@[simp] theorem dr69_1864 : dr Try.prog 69 1864 = .seq [] := (dr_eq Try.func69 1864).trans (by kernel_rfl)
/-! 70: laws.eqIdOpS -/
theorem ok70 : goodFn Try.f70 = true := by kernel_rfl
theorem lp70_58 (call : CallF) (n : Nat) (τ : Tm) (H : AH) : evCode Try.prog call n (lp Try.prog 70 58) τ H = evN Try.prog call n 70 116 (sub (Try.f70.body.getD .skip) 200 116) τ H := lp_at Try.func70 58 (by decide) 6 (by decide) (by kernel_rfl) call n τ H
@[simp] theorem dr70_1864 : dr Try.prog 70 1864 = .seq [] := (dr_eq Try.func70 1864).trans (by kernel_rfl)
/-! 71: laws.markIdOpS -/
theorem ok71 : goodFn Try.f71 = true := by kernel_rfl
theorem lp71_26 (call : CallF) (n : Nat) (τ : Tm) (H : AH) : evCode Try.prog call n (lp Try.prog 71 26) τ H = evN Try.prog call n 71 52 (sub (Try.f71.body.getD .skip) 200 52) τ H := lp_at Try.func71 26 (by decide) 5 (by decide) (by kernel_rfl) call n τ H
/-! 72: laws.markIdObsS -/
theorem ok72 : goodFn Try.f72 = true := by kernel_rfl
theorem lp72_26 (call : CallF) (n : Nat) (τ : Tm) (H : AH) : evCode Try.prog call n (lp Try.prog 72 26) τ H = evN Try.prog call n 72 52 (sub (Try.f72.body.getD .skip) 200 52) τ H := lp_at Try.func72 26 (by decide) 5 (by decide) (by kernel_rfl) call n τ H
/-! 73: laws.heldIdObsS -/
theorem ok73 : goodFn Try.f73 = true := by kernel_rfl
theorem lp73_26 (call : CallF) (n : Nat) (τ : Tm) (H : AH) : evCode Try.prog call n (lp Try.prog 73 26) τ H = evN Try.prog call n 73 52 (sub (Try.f73.body.getD .skip) 200 52) τ H := lp_at Try.func73 26 (by decide) 5 (by decide) (by kernel_rfl) call n τ H
/-! 74: spec.DrawIdsRun -/
theorem ok74 : goodFn Try.f74 = true := by kernel_rfl
theorem lp74_1018 (call : CallF) (n : Nat) (τ : Tm) (H : AH) : evCode Try.prog call n (lp Try.prog 74 1018) τ H = evN Try.prog call n 74 2036 (sub (Try.f74.body.getD .skip) 200 2036) τ H := lp_at Try.func74 1018 (by decide) 10 (by decide) (by kernel_rfl) call n τ H
/-! 75: spec.FrameOK -/
theorem ok75 : goodFn Try.f75 = true := by kernel_rfl
/-! 76: spec.ReadHello -/
theorem ok76 : goodFn Try.f76 = true := by kernel_rfl
@[simp] theorem dr76_1022 : dr Try.prog 76 1022 = .flt ⟨[7], [[], [], [], [], [], [], [], [], [7]], [], [(2, 6, []), (3, 6, [])]⟩ := (dr_eq Try.func76 1022).trans (by kernel_rfl)
theorem lp76_32746 (call : CallF) (n : Nat) (τ : Tm) (H : AH) : evCode Try.prog call n (lp Try.prog 76 32746) τ H = evN Try.prog call n 76 65492 (sub (Try.f76.body.getD .skip) 200 65492) τ H := lp_at Try.func76 32746 (by decide) 15 (by decide) (by kernel_rfl) call n τ H
@[simp] theorem dr76_523940 : dr Try.prog 76 523940 = .seq [(1, 4), (1, 5)] := (dr_eq Try.func76 523940).trans (by kernel_rfl)
theorem lp76_16378 (call : CallF) (n : Nat) (τ : Tm) (H : AH) : evCode Try.prog call n (lp Try.prog 76 16378) τ H = evN Try.prog call n 76 32756 (sub (Try.f76.body.getD .skip) 200 32756) τ H := lp_at Try.func76 16378 (by decide) 14 (by decide) (by kernel_rfl) call n τ H
@[simp] theorem dr76_262052 : dr Try.prog 76 262052 = .seq [(1, 4), (1, 6)] := (dr_eq Try.func76 262052).trans (by kernel_rfl)
@[simp] theorem dr76_262142 : dr Try.prog 76 262142 = .seq [(4, 6)] := (dr_eq Try.func76 262142).trans (by kernel_rfl)
/-! 77: impl.ReadHello -/
theorem ok77 : goodFn Try.f77 = true := by kernel_rfl
theorem lp77_16362 (call : CallF) (n : Nat) (τ : Tm) (H : AH) : evCode Try.prog call n (lp Try.prog 77 16362) τ H = evN Try.prog call n 77 32724 (sub (Try.f77.body.getD .skip) 200 32724) τ H := lp_at Try.func77 16362 (by decide) 14 (by decide) (by kernel_rfl) call n τ H
@[simp] theorem dr77_261796 : dr Try.prog 77 261796 = .seq [(1, 4), (1, 5), (1, 6)] := (dr_eq Try.func77 261796).trans (by kernel_rfl)
theorem lp77_8186 (call : CallF) (n : Nat) (τ : Tm) (H : AH) : evCode Try.prog call n (lp Try.prog 77 8186) τ H = evN Try.prog call n 77 16372 (sub (Try.f77.body.getD .skip) 200 16372) τ H := lp_at Try.func77 8186 (by decide) 13 (by decide) (by kernel_rfl) call n τ H
@[simp] theorem dr77_130980 : dr Try.prog 77 130980 = .seq [(1, 4), (1, 6)] := (dr_eq Try.func77 130980).trans (by kernel_rfl)
/-! 78: laws.eqHello -/
theorem ok78 : goodFn Try.f78 = true := by kernel_rfl
/-! 79: laws.markHello -/
theorem ok79 : goodFn Try.f79 = true := by kernel_rfl
/-! 80: laws.heldHello -/
theorem ok80 : goodFn Try.f80 = true := by kernel_rfl
/-! 81: spec.DrawParamsOK -/
theorem ok81 : goodFn Try.f81 = true := by kernel_rfl
/-! 82: impl.ParamsBytes -/
theorem ok82 : goodFn Try.f82 = true := by kernel_rfl
theorem lp82_122 (call : CallF) (n : Nat) (τ : Tm) (H : AH) : evCode Try.prog call n (lp Try.prog 82 122) τ H = evN Try.prog call n 82 244 (sub (Try.f82.body.getD .skip) 200 244) τ H := lp_at Try.func82 122 (by decide) 7 (by decide) (by kernel_rfl) call n τ H
@[simp] theorem dr82_7833 : dr Try.prog 82 7833 = .seq [(2, 6), (2, 9)] := (dr_eq Try.func82 7833).trans (by kernel_rfl)
theorem lp82_2042 (call : CallF) (n : Nat) (τ : Tm) (H : AH) : evCode Try.prog call n (lp Try.prog 82 2042) τ H = evN Try.prog call n 82 4084 (sub (Try.f82.body.getD .skip) 200 4084) τ H := lp_at Try.func82 2042 (by decide) 11 (by decide) (by kernel_rfl) call n τ H
theorem lp82_16378 (call : CallF) (n : Nat) (τ : Tm) (H : AH) : evCode Try.prog call n (lp Try.prog 82 16378) τ H = evN Try.prog call n 82 32756 (sub (Try.f82.body.getD .skip) 200 32756) τ H := lp_at Try.func82 16378 (by decide) 14 (by decide) (by kernel_rfl) call n τ H
@[simp] theorem dr82_1048217 : dr Try.prog 82 1048217 = .seq [(5, 0)] := (dr_eq Try.func82 1048217).trans (by kernel_rfl)
/-! 83: spec.ParamsBytes -/
theorem ok83 : goodFn Try.f83 = true := by kernel_rfl
/-! 84: impl.ParamsOK -/
theorem ok84 : goodFn Try.f84 = true := by kernel_rfl
theorem lp84_26 (call : CallF) (n : Nat) (τ : Tm) (H : AH) : evCode Try.prog call n (lp Try.prog 84 26) τ H = evN Try.prog call n 84 52 (sub (Try.f84.body.getD .skip) 200 52) τ H := lp_at Try.func84 26 (by decide) 5 (by decide) (by kernel_rfl) call n τ H
/-! 85: laws.at -/
theorem ok85 : goodFn Try.f85 = true := by kernel_rfl
@[simp] theorem dr85_30 : dr Try.prog 85 30 = .seq [] := (dr_eq Try.func85 30).trans (by kernel_rfl)
/-! 86: impl.ReadParams -/
theorem ok86 : goodFn Try.f86 = true := by kernel_rfl
theorem lp86_250 (call : CallF) (n : Nat) (τ : Tm) (H : AH) : evCode Try.prog call n (lp Try.prog 86 250) τ H = evN Try.prog call n 86 500 (sub (Try.f86.body.getD .skip) 200 500) τ H := lp_at Try.func86 250 (by decide) 8 (by decide) (by kernel_rfl) call n τ H
@[simp] theorem dr86_32050 : dr Try.prog 86 32050 = .seq [(2, 6)] := (dr_eq Try.func86 32050).trans (by kernel_rfl)
theorem lp86_1018 (call : CallF) (n : Nat) (τ : Tm) (H : AH) : evCode Try.prog call n (lp Try.prog 86 1018) τ H = evN Try.prog call n 86 2036 (sub (Try.f86.body.getD .skip) 200 2036) τ H := lp_at Try.func86 1018 (by decide) 10 (by decide) (by kernel_rfl) call n τ H
@[simp] theorem dr86_521396 : dr Try.prog 86 521396 = .seq [(4, 6)] := (dr_eq Try.func86 521396).trans (by kernel_rfl)
/-! 87: laws.sameParams -/
theorem ok87 : goodFn Try.f87 = true := by kernel_rfl
/-! 88: spec.DrawHelloBytes -/
theorem ok88 : goodFn Try.f88 = true := by kernel_rfl
/-! 89: impl.HelloBytes -/
theorem ok89 : goodFn Try.f89 = true := by kernel_rfl
theorem lp89_982 (call : CallF) (n : Nat) (τ : Tm) (H : AH) : evCode Try.prog call n (lp Try.prog 89 982) τ H = evN Try.prog call n 89 1964 (sub (Try.f89.body.getD .skip) 200 1964) τ H := lp_at Try.func89 982 (by decide) 10 (by decide) (by kernel_rfl) call n τ H
theorem lp89_506 (call : CallF) (n : Nat) (τ : Tm) (H : AH) : evCode Try.prog call n (lp Try.prog 89 506) τ H = evN Try.prog call n 89 1012 (sub (Try.f89.body.getD .skip) 200 1012) τ H := lp_at Try.func89 506 (by decide) 9 (by decide) (by kernel_rfl) call n τ H
/-! 90: spec.HelloBytes -/
theorem ok90 : goodFn Try.f90 = true := by kernel_rfl
theorem lp90_982 (call : CallF) (n : Nat) (τ : Tm) (H : AH) : evCode Try.prog call n (lp Try.prog 90 982) τ H = evN Try.prog call n 90 1964 (sub (Try.f90.body.getD .skip) 200 1964) τ H := lp_at Try.func90 982 (by decide) 10 (by decide) (by kernel_rfl) call n τ H
theorem lp90_506 (call : CallF) (n : Nat) (τ : Tm) (H : AH) : evCode Try.prog call n (lp Try.prog 90 506) τ H = evN Try.prog call n 90 1012 (sub (Try.f90.body.getD .skip) 200 1012) τ H := lp_at Try.func90 506 (by decide) 9 (by decide) (by kernel_rfl) call n τ H
@[simp] theorem dr90_1022 : dr Try.prog 90 1022 = .flt ⟨[3], [[], [], [], [], [], [], [], [3], [], [], [], []], [], [(1, 7, []), (2, 7, [])]⟩ := (dr_eq Try.func90 1022).trans (by kernel_rfl)
/-! 91: laws.same -/
theorem ok91 : goodFn Try.f91 = true := by kernel_rfl
/-! 92: spec.l10New -/
theorem ok92 : goodFn Try.f92 = true := by kernel_rfl
/-! 93: spec.l10Cc).do -/
theorem ok93 : goodFn Try.f93 = true := by kernel_rfl
@[simp] theorem dr93_60 : dr Try.prog 93 60 = .seq [] := (dr_eq Try.func93 60).trans (by kernel_rfl)
@[simp] theorem dr93_1002 : dr Try.prog 93 1002 = .seq [] := (dr_eq Try.func93 1002).trans (by kernel_rfl)
@[simp] theorem dr93_8028 : dr Try.prog 93 8028 = .seq [] := (dr_eq Try.func93 8028).trans (by kernel_rfl)
@[simp] theorem dr93_32124 : dr Try.prog 93 32124 = .seq [] := (dr_eq Try.func93 32124).trans (by kernel_rfl)
@[simp] theorem dr93_16063 : dr Try.prog 93 16063 = .seq [] := (dr_eq Try.func93 16063).trans (by kernel_rfl)
/-! 94: laws.toCcOp -/
theorem ok94 : goodFn Try.f94 = true := by kernel_rfl
/-! 95: impl.newCongestion -/
theorem ok95 : goodFn Try.f95 = true := by kernel_rfl
/-! 96: impl.congestion).do -/
theorem ok96 : goodFn Try.f96 = true := by kernel_rfl
@[simp] theorem dr96_980 : dr Try.prog 96 980 = .seq [] := (dr_eq Try.func96 980).trans (by kernel_rfl)
@[simp] theorem dr96_124 : dr Try.prog 96 124 = .seq [] := (dr_eq Try.func96 124).trans (by kernel_rfl)
@[simp] theorem dr96_126 : dr Try.prog 96 126 = .seq [] := (dr_eq Try.func96 126).trans (by kernel_rfl)
@[simp] theorem dr96_1018 : dr Try.prog 96 1018 = .seq [] := (dr_eq Try.func96 1018).trans (by kernel_rfl)
@[simp] theorem dr96_1019 : dr Try.prog 96 1019 = .seq [] := (dr_eq Try.func96 1019).trans (by kernel_rfl)
/-! 97: laws.eqCcObs -/
theorem ok97 : goodFn Try.f97 = true := by kernel_rfl
/-! 98: laws.eqCcOp -/
theorem ok98 : goodFn Try.f98 = true := by kernel_rfl
/-! 99: spec.l01Source -/
theorem ok99 : goodFn Try.f99 = true := by kernel_rfl
/-! 100: spec.l01Src).next -/
theorem ok100 : goodFn Try.f100 = true := by kernel_rfl
/-! 101: spec.l01Src).chance -/
theorem ok101 : goodFn Try.f101 = true := by kernel_rfl
/-! 102: spec.l01Src).size -/
theorem ok102 : goodFn Try.f102 = true := by kernel_rfl
/-! 103: spec.l09Odd -/
theorem ok103 : goodFn Try.f103 = true := by kernel_rfl
/-! 104: spec.l08SetupOK -/
theorem ok104 : goodFn Try.f104 = true := by kernel_rfl
/-! 105: spec.l08New -/
theorem ok105 : goodFn Try.f105 = true := by kernel_rfl
@[simp] theorem dr105_14 : dr Try.prog 105 14 = .seq [] := (dr_eq Try.func105 14).trans (by kernel_rfl)
@[simp] theorem dr105_30 : dr Try.prog 105 30 = .seq [] := (dr_eq Try.func105 30).trans (by kernel_rfl)
@[simp] theorem dr105_62 : dr Try.prog 105 62 = .seq [] := (dr_eq Try.func105 62).trans (by kernel_rfl)
@[simp] theorem dr105_126 : dr Try.prog 105 126 = .seq [] := (dr_eq Try.func105 126).trans (by kernel_rfl)
/-! 106: spec.l08Flow).do -/
theorem ok106 : goodFn Try.f106 = true := by kernel_rfl
/-! 107: laws.toFlowOp -/
theorem ok107 : goodFn Try.f107 = true := by kernel_rfl
/-! 108: impl.setupOK -/
theorem ok108 : goodFn Try.f108 = true := by kernel_rfl
/-! 109: impl.newFlow -/
theorem ok109 : goodFn Try.f109 = true := by kernel_rfl
/-! 110: impl.flow).open -/
theorem ok110 : goodFn Try.f110 = true := by kernel_rfl
/-! 111: impl.flow).send -/
theorem ok111 : goodFn Try.f111 = true := by kernel_rfl
/-! 112: impl.flow).arrive -/
theorem ok112 : goodFn Try.f112 = true := by kernel_rfl
@[simp] theorem dr112_252 : dr Try.prog 112 252 = .seq [] := (dr_eq Try.func112 252).trans (by kernel_rfl)
/-! 113: impl.flow).read -/
theorem ok113 : goodFn Try.f113 = true := by kernel_rfl
@[simp] theorem dr113_60 : dr Try.prog 113 60 = .seq [] := (dr_eq Try.func113 60).trans (by kernel_rfl)
@[simp] theorem dr113_1020 : dr Try.prog 113 1020 = .seq [] := (dr_eq Try.func113 1020).trans (by kernel_rfl)
@[simp] theorem dr113_2044 : dr Try.prog 113 2044 = .seq [] := (dr_eq Try.func113 2044).trans (by kernel_rfl)
/-! 114: impl.flow).end -/
theorem ok114 : goodFn Try.f114 = true := by kernel_rfl
/-! 115: impl.flow).raise -/
theorem ok115 : goodFn Try.f115 = true := by kernel_rfl
@[simp] theorem dr115_1002 : dr Try.prog 115 1002 = .seq [] := (dr_eq Try.func115 1002).trans (by kernel_rfl)
@[simp] theorem dr115_16059 : dr Try.prog 115 16059 = .seq [] := (dr_eq Try.func115 16059).trans (by kernel_rfl)
@[simp] theorem dr115_4015 : dr Try.prog 115 4015 = .seq [] := (dr_eq Try.func115 4015).trans (by kernel_rfl)
/-! 116: laws.eqFlowObs -/
theorem ok116 : goodFn Try.f116 = true := by kernel_rfl
/-! 117: laws.eqFlowOp -/
theorem ok117 : goodFn Try.f117 = true := by kernel_rfl
/-! 118: laws.markFrameS -/
theorem ok118 : goodFn Try.f118 = true := by kernel_rfl
theorem lp118_26 (call : CallF) (n : Nat) (τ : Tm) (H : AH) : evCode Try.prog call n (lp Try.prog 118 26) τ H = evN Try.prog call n 118 52 (sub (Try.f118.body.getD .skip) 200 52) τ H := lp_at Try.func118 26 (by decide) 5 (by decide) (by kernel_rfl) call n τ H
/-! 119: laws.heldFrameS -/
theorem ok119 : goodFn Try.f119 = true := by kernel_rfl
theorem lp119_26 (call : CallF) (n : Nat) (τ : Tm) (H : AH) : evCode Try.prog call n (lp Try.prog 119 26) τ H = evN Try.prog call n 119 52 (sub (Try.f119.body.getD .skip) 200 52) τ H := lp_at Try.func119 26 (by decide) 5 (by decide) (by kernel_rfl) call n τ H
/-! 120: spec.l08DrawSetup -/
theorem ok120 : goodFn Try.f120 = true := by kernel_rfl
/-! 121: spec.l01Src).number -/
theorem ok121 : goodFn Try.f121 = true := by kernel_rfl
/-! 122: spec.l04Reader).fixed -/
theorem ok122 : goodFn Try.f122 = true := by kernel_rfl
/-! 123: spec.l05Mark -/
theorem ok123 : goodFn Try.f123 = true := by kernel_rfl
/-! 124: spec.l05Fields -/
theorem ok124 : goodFn Try.f124 = true := by kernel_rfl
theorem lp124_938 (call : CallF) (n : Nat) (τ : Tm) (H : AH) : evCode Try.prog call n (lp Try.prog 124 938) τ H = evN Try.prog call n 124 1876 (sub (Try.f124.body.getD .skip) 200 1876) τ H := lp_at Try.func124 938 (by decide) 10 (by decide) (by kernel_rfl) call n τ H
@[simp] theorem dr124_7504 : dr Try.prog 124 7504 = .seq [] := (dr_eq Try.func124 7504).trans (by kernel_rfl)
/-! 125: impl.tooLong -/
theorem ok125 : goodFn Try.f125 = true := by kernel_rfl
/-! 126: impl.scanner).frame -/
theorem ok126 : goodFn Try.f126 = true := by kernel_rfl
theorem lp126_4010 (call : CallF) (n : Nat) (τ : Tm) (H : AH) : evCode Try.prog call n (lp Try.prog 126 4010) τ H = evN Try.prog call n 126 8020 (sub (Try.f126.body.getD .skip) 200 8020) τ H := lp_at Try.func126 4010 (by decide) 12 (by decide) (by kernel_rfl) call n τ H
@[simp] theorem dr126_32080 : dr Try.prog 126 32080 = .seq [] := (dr_eq Try.func126 32080).trans (by kernel_rfl)
/-! 127: laws.eqRangeS -/
theorem ok127 : goodFn Try.f127 = true := by kernel_rfl
theorem lp127_58 (call : CallF) (n : Nat) (τ : Tm) (H : AH) : evCode Try.prog call n (lp Try.prog 127 58) τ H = evN Try.prog call n 127 116 (sub (Try.f127.body.getD .skip) 200 116) τ H := lp_at Try.func127 58 (by decide) 6 (by decide) (by kernel_rfl) call n τ H
@[simp] theorem dr127_1864 : dr Try.prog 127 1864 = .seq [] := (dr_eq Try.func127 1864).trans (by kernel_rfl)
/-! 128: laws.markRangeS -/
theorem ok128 : goodFn Try.f128 = true := by kernel_rfl
theorem lp128_26 (call : CallF) (n : Nat) (τ : Tm) (H : AH) : evCode Try.prog call n (lp Try.prog 128 26) τ H = evN Try.prog call n 128 52 (sub (Try.f128.body.getD .skip) 200 52) τ H := lp_at Try.func128 26 (by decide) 5 (by decide) (by kernel_rfl) call n τ H
/-! 129: laws.heldByteS -/
theorem ok129 : goodFn Try.f129 = true := by kernel_rfl
theorem lp129_26 (call : CallF) (n : Nat) (τ : Tm) (H : AH) : evCode Try.prog call n (lp Try.prog 129 26) τ H = evN Try.prog call n 129 52 (sub (Try.f129.body.getD .skip) 200 52) τ H := lp_at Try.func129 26 (by decide) 5 (by decide) (by kernel_rfl) call n τ H
/-! 130: laws.heldRangeS -/
theorem ok130 : goodFn Try.f130 = true := by kernel_rfl
theorem lp130_26 (call : CallF) (n : Nat) (τ : Tm) (H : AH) : evCode Try.prog call n (lp Try.prog 130 26) τ H = evN Try.prog call n 130 52 (sub (Try.f130.body.getD .skip) 200 52) τ H := lp_at Try.func130 26 (by decide) 5 (by decide) (by kernel_rfl) call n τ H
/-! 131: spec.l05DrawFrame -/
theorem ok131 : goodFn Try.f131 = true := by kernel_rfl
@[simp] theorem dr131_510 : dr Try.prog 131 510 = .seq [(2, 12)] := (dr_eq Try.func131 510).trans (by kernel_rfl)
/-! 132: spec.l05Odd -/
theorem ok132 : goodFn Try.f132 = true := by kernel_rfl
@[simp] theorem dr132_7077882 : dr Try.prog 132 7077882 = .seq [(1, 7), (1, 9)] := (dr_eq Try.func132 7077882).trans (by kernel_rfl)
@[simp] theorem dr132_28311546 : dr Try.prog 132 28311546 = .seq [(1, 7), (1, 9)] := (dr_eq Try.func132 28311546).trans (by kernel_rfl)
theorem lp132_226492406 (call : CallF) (n : Nat) (τ : Tm) (H : AH) : evCode Try.prog call n (lp Try.prog 132 226492406) τ H = evN Try.prog call n 132 452984812 (sub (Try.f132.body.getD .skip) 200 452984812) τ H := lp_at Try.func132 226492406 (by decide) 28 (by decide) (by kernel_rfl) call n τ H
/-! 133: impl.frameBytes -/
theorem ok133 : goodFn Try.f133 = true := by kernel_rfl
theorem lp133_30174 (call : CallF) (n : Nat) (τ : Tm) (H : AH) : evCode Try.prog call n (lp Try.prog 133 30174) τ H = evN Try.prog call n 133 60348 (sub (Try.f133.body.getD .skip) 200 60348) τ H := lp_at Try.func133 30174 (by decide) 15 (by decide) (by kernel_rfl) call n τ H
@[simp] theorem dr133_965577 : dr Try.prog 133 965577 = .seq [] := (dr_eq Try.func133 965577).trans (by kernel_rfl)
@[simp] theorem dr133_60414 : dr Try.prog 133 60414 = .seq [(5, 0)] := (dr_eq Try.func133 60414).trans (by kernel_rfl)
@[simp] theorem dr133_7733244 : dr Try.prog 133 7733244 = .seq [] := (dr_eq Try.func133 7733244).trans (by kernel_rfl)
@[simp] theorem dr133_123731964 : dr Try.prog 133 123731964 = .flt ⟨[5, 11], [[], [], [], [], [], [], [5], [], [], [], [], [], [11], []], [], [(8, 0, []), (9, 0, []), (10, 0, [])]⟩ := (dr_eq Try.func133 123731964).trans (by kernel_rfl)
@[simp] theorem dr133_123731965 : dr Try.prog 133 123731965 = .seq [(5, 0)] := (dr_eq Try.func133 123731965).trans (by kernel_rfl)
@[simp] theorem dr133_989855742 : dr Try.prog 133 989855742 = .seq [(8, 0), (8, 6)] := (dr_eq Try.func133 989855742).trans (by kernel_rfl)
@[simp] theorem dr133_3959422974 : dr Try.prog 133 3959422974 = .seq [(5, 0)] := (dr_eq Try.func133 3959422974).trans (by kernel_rfl)
/-! 134: spec.l05AckBytes -/
theorem ok134 : goodFn Try.f134 = true := by kernel_rfl
@[simp] theorem dr134_126 : dr Try.prog 134 126 = .seq [] := (dr_eq Try.func134 126).trans (by kernel_rfl)
theorem lp134_1018 (call : CallF) (n : Nat) (τ : Tm) (H : AH) : evCode Try.prog call n (lp Try.prog 134 1018) τ H = evN Try.prog call n 134 2036 (sub (Try.f134.body.getD .skip) 200 2036) τ H := lp_at Try.func134 1018 (by decide) 10 (by decide) (by kernel_rfl) call n τ H
@[simp] theorem dr134_32584 : dr Try.prog 134 32584 = .seq [] := (dr_eq Try.func134 32584).trans (by kernel_rfl)
@[simp] theorem dr134_32585 : dr Try.prog 134 32585 = .seq [] := (dr_eq Try.func134 32585).trans (by kernel_rfl)
/-! 135: spec.l05N -/
theorem ok135 : goodFn Try.f135 = true := by kernel_rfl
/-! 136: spec.l05Counted -/
theorem ok136 : goodFn Try.f136 = true := by kernel_rfl
/-! 137: impl.shapeOf -/
theorem ok137 : goodFn Try.f137 = true := by kernel_rfl
/-! 138: impl.inVar -/
theorem ok138 : goodFn Try.f138 = true := by kernel_rfl
/-! 139: impl.rangesOK -/
theorem ok139 : goodFn Try.f139 = true := by kernel_rfl
theorem lp139_58 (call : CallF) (n : Nat) (τ : Tm) (H : AH) : evCode Try.prog call n (lp Try.prog 139 58) τ H = evN Try.prog call n 139 116 (sub (Try.f139.body.getD .skip) 200 116) τ H := lp_at Try.func139 58 (by decide) 6 (by decide) (by kernel_rfl) call n τ H
@[simp] theorem dr139_7474 : dr Try.prog 139 7474 = .seq [] := (dr_eq Try.func139 7474).trans (by kernel_rfl)
/-! 140: impl.rangesAdd -/
theorem ok140 : goodFn Try.f140 = true := by kernel_rfl
theorem lp140_250 (call : CallF) (n : Nat) (τ : Tm) (H : AH) : evCode Try.prog call n (lp Try.prog 140 250) τ H = evN Try.prog call n 140 500 (sub (Try.f140.body.getD .skip) 200 500) τ H := lp_at Try.func140 250 (by decide) 8 (by decide) (by kernel_rfl) call n τ H
/-! 141: spec.l05RangesOK -/
theorem ok141 : goodFn Try.f141 = true := by kernel_rfl
theorem lp141_58 (call : CallF) (n : Nat) (τ : Tm) (H : AH) : evCode Try.prog call n (lp Try.prog 141 58) τ H = evN Try.prog call n 141 116 (sub (Try.f141.body.getD .skip) 200 116) τ H := lp_at Try.func141 58 (by decide) 6 (by decide) (by kernel_rfl) call n τ H
@[simp] theorem dr141_3730 : dr Try.prog 141 3730 = .seq [] := (dr_eq Try.func141 3730).trans (by kernel_rfl)
/-! 142: spec.l05Var -/
theorem ok142 : goodFn Try.f142 = true := by kernel_rfl
/-! 143: spec.l06Join -/
theorem ok143 : goodFn Try.f143 = true := by kernel_rfl
theorem lp143_58 (call : CallF) (n : Nat) (τ : Tm) (H : AH) : evCode Try.prog call n (lp Try.prog 143 58) τ H = evN Try.prog call n 143 116 (sub (Try.f143.body.getD .skip) 200 116) τ H := lp_at Try.func143 58 (by decide) 6 (by decide) (by kernel_rfl) call n τ H
@[simp] theorem dr143_3730 : dr Try.prog 143 3730 = .seq [] := (dr_eq Try.func143 3730).trans (by kernel_rfl)
@[simp] theorem dr143_7462 : dr Try.prog 143 7462 = .seq [] := (dr_eq Try.func143 7462).trans (by kernel_rfl)
/-! 144: impl.rangesHas -/
theorem ok144 : goodFn Try.f144 = true := by kernel_rfl
theorem lp144_26 (call : CallF) (n : Nat) (τ : Tm) (H : AH) : evCode Try.prog call n (lp Try.prog 144 26) τ H = evN Try.prog call n 144 52 (sub (Try.f144.body.getD .skip) 200 52) τ H := lp_at Try.func144 26 (by decide) 5 (by decide) (by kernel_rfl) call n τ H
/-! 145: laws.szIdOp -/
theorem ok145 : goodFn Try.f145 = true := by kernel_rfl
/-! 146: spec.l11NewIds -/
theorem ok146 : goodFn Try.f146 = true := by kernel_rfl
/-! 147: spec.l11Ids).do -/
theorem ok147 : goodFn Try.f147 = true := by kernel_rfl
/-! 148: laws.toIdOp -/
theorem ok148 : goodFn Try.f148 = true := by kernel_rfl
/-! 149: impl.idKeeper).issued -/
theorem ok149 : goodFn Try.f149 = true := by kernel_rfl
@[simp] theorem dr149_60 : dr Try.prog 149 60 = .seq [(3, 11), (5, 11), (6, 11)] := (dr_eq Try.func149 60).trans (by kernel_rfl)
theorem lp149_250 (call : CallF) (n : Nat) (τ : Tm) (H : AH) : evCode Try.prog call n (lp Try.prog 149 250) τ H = evN Try.prog call n 149 500 (sub (Try.f149.body.getD .skip) 200 500) τ H := lp_at Try.func149 250 (by decide) 8 (by decide) (by kernel_rfl) call n τ H
@[simp] theorem dr149_126 : dr Try.prog 149 126 = .seq [] := (dr_eq Try.func149 126).trans (by kernel_rfl)
@[simp] theorem dr149_508 : dr Try.prog 149 508 = .seq [] := (dr_eq Try.func149 508).trans (by kernel_rfl)
@[simp] theorem dr149_510 : dr Try.prog 149 510 = .seq [(4, 8)] := (dr_eq Try.func149 510).trans (by kernel_rfl)
@[simp] theorem dr149_8188 : dr Try.prog 149 8188 = .seq [] := (dr_eq Try.func149 8188).trans (by kernel_rfl)
theorem lp149_131028 (call : CallF) (n : Nat) (τ : Tm) (H : AH) : evCode Try.prog call n (lp Try.prog 149 131028) τ H = evN Try.prog call n 149 262056 (sub (Try.f149.body.getD .skip) 200 262056) τ H := lp_at Try.func149 131028 (by decide) 17 (by decide) (by kernel_rfl) call n τ H
@[simp] theorem dr149_1048224 : dr Try.prog 149 1048224 = .seq [] := (dr_eq Try.func149 1048224).trans (by kernel_rfl)
@[simp] theorem dr149_131030 : dr Try.prog 149 131030 = .seq [] := (dr_eq Try.func149 131030).trans (by kernel_rfl)
@[simp] theorem dr149_16380 : dr Try.prog 149 16380 = .seq [] := (dr_eq Try.func149 16380).trans (by kernel_rfl)
/-! 150: impl.idKeeper).next -/
theorem ok150 : goodFn Try.f150 = true := by kernel_rfl
@[simp] theorem dr150_30 : dr Try.prog 150 30 = .seq [(0, 7)] := (dr_eq Try.func150 30).trans (by kernel_rfl)
@[simp] theorem dr150_62 : dr Try.prog 150 62 = .seq [] := (dr_eq Try.func150 62).trans (by kernel_rfl)
/-! 151: laws.eqIdObs -/
theorem ok151 : goodFn Try.f151 = true := by kernel_rfl
/-! 152: laws.eqIdOp -/
theorem ok152 : goodFn Try.f152 = true := by kernel_rfl
/-! 153: spec.l03Copy -/
theorem ok153 : goodFn Try.f153 = true := by kernel_rfl
/-! 154: spec.l03Digest -/
theorem ok154 : goodFn Try.f154 = true := by kernel_rfl
@[simp] theorem dr154_14 : dr Try.prog 154 14 = .seq [(0, 4)] := (dr_eq Try.func154 14).trans (by kernel_rfl)
@[simp] theorem dr154_126 : dr Try.prog 154 126 = .seq [(0, 4)] := (dr_eq Try.func154 126).trans (by kernel_rfl)
theorem lp154_1018 (call : CallF) (n : Nat) (τ : Tm) (H : AH) : evCode Try.prog call n (lp Try.prog 154 1018) τ H = evN Try.prog call n 154 2036 (sub (Try.f154.body.getD .skip) 200 2036) τ H := lp_at Try.func154 1018 (by decide) 10 (by decide) (by kernel_rfl) call n τ H
/-! 155: spec.l01Src).bytes -/
theorem ok155 : goodFn Try.f155 = true := by kernel_rfl
theorem lp155_58 (call : CallF) (n : Nat) (τ : Tm) (H : AH) : evCode Try.prog call n (lp Try.prog 155 58) τ H = evN Try.prog call n 155 116 (sub (Try.f155.body.getD .skip) 200 116) τ H := lp_at Try.func155 58 (by decide) 6 (by decide) (by kernel_rfl) call n τ H
/-! 156: spec.l05Kind -/
theorem ok156 : goodFn Try.f156 = true := by kernel_rfl
/-! 157: spec.l04Reader).take -/
theorem ok157 : goodFn Try.f157 = true := by kernel_rfl
@[simp] theorem dr157_12 : dr Try.prog 157 12 = .seq [] := (dr_eq Try.func157 12).trans (by kernel_rfl)
@[simp] theorem dr157_30 : dr Try.prog 157 30 = .seq [] := (dr_eq Try.func157 30).trans (by kernel_rfl)
/-! 158: spec.l04Reader).counted -/
theorem ok158 : goodFn Try.f158 = true := by kernel_rfl
/-! 159: spec.l04Reader).rest -/
theorem ok159 : goodFn Try.f159 = true := by kernel_rfl
@[simp] theorem dr159_6 : dr Try.prog 159 6 = .seq [] := (dr_eq Try.func159 6).trans (by kernel_rfl)
/-! 160: spec.ReadParams -/
theorem ok160 : goodFn Try.f160 = true := by kernel_rfl
theorem lp160_252 (call : CallF) (n : Nat) (τ : Tm) (H : AH) : evCode Try.prog call n (lp Try.prog 160 252) τ H = evN Try.prog call n 160 504 (sub (Try.f160.body.getD .skip) 200 504) τ H := lp_at Try.func160 252 (by decide) 8 (by decide) (by kernel_rfl) call n τ H
/-! 161: spec.l12HelloOK -/
theorem ok161 : goodFn Try.f161 = true := by kernel_rfl
theorem lp161_250 (call : CallF) (n : Nat) (τ : Tm) (H : AH) : evCode Try.prog call n (lp Try.prog 161 250) τ H = evN Try.prog call n 161 500 (sub (Try.f161.body.getD .skip) 200 500) τ H := lp_at Try.func161 250 (by decide) 8 (by decide) (by kernel_rfl) call n τ H
@[simp] theorem dr161_8008 : dr Try.prog 161 8008 = .seq [] := (dr_eq Try.func161 8008).trans (by kernel_rfl)
/-! 162: impl.unfixed -/
theorem ok162 : goodFn Try.f162 = true := by kernel_rfl
theorem lp162_58 (call : CallF) (n : Nat) (τ : Tm) (H : AH) : evCode Try.prog call n (lp Try.prog 162 58) τ H = evN Try.prog call n 162 116 (sub (Try.f162.body.getD .skip) 200 116) τ H := lp_at Try.func162 58 (by decide) 6 (by decide) (by kernel_rfl) call n τ H
/-! 163: impl.copied -/
theorem ok163 : goodFn Try.f163 = true := by kernel_rfl
/-! 164: impl.scanner).take -/
theorem ok164 : goodFn Try.f164 = true := by kernel_rfl
@[simp] theorem dr164_28 : dr Try.prog 164 28 = .seq [] := (dr_eq Try.func164 28).trans (by kernel_rfl)
@[simp] theorem dr164_30 : dr Try.prog 164 30 = .seq [] := (dr_eq Try.func164 30).trans (by kernel_rfl)
/-! 165: impl.scanner).octet -/
theorem ok165 : goodFn Try.f165 = true := by kernel_rfl
/-! 166: impl.scanner).counted -/
theorem ok166 : goodFn Try.f166 = true := by kernel_rfl
/-! 167: impl.scanner).rest -/
theorem ok167 : goodFn Try.f167 = true := by kernel_rfl
@[simp] theorem dr167_6 : dr Try.prog 167 6 = .seq [] := (dr_eq Try.func167 6).trans (by kernel_rfl)
/-! 168: impl.helloOK -/
theorem ok168 : goodFn Try.f168 = true := by kernel_rfl
/-! 169: laws.eqIntS -/
theorem ok169 : goodFn Try.f169 = true := by kernel_rfl
theorem lp169_58 (call : CallF) (n : Nat) (τ : Tm) (H : AH) : evCode Try.prog call n (lp Try.prog 169 58) τ H = evN Try.prog call n 169 116 (sub (Try.f169.body.getD .skip) 200 116) τ H := lp_at Try.func169 58 (by decide) 6 (by decide) (by kernel_rfl) call n τ H
@[simp] theorem dr169_1864 : dr Try.prog 169 1864 = .seq [] := (dr_eq Try.func169 1864).trans (by kernel_rfl)
/-! 170: laws.eqStringS -/
theorem ok170 : goodFn Try.f170 = true := by kernel_rfl
theorem lp170_58 (call : CallF) (n : Nat) (τ : Tm) (H : AH) : evCode Try.prog call n (lp Try.prog 170 58) τ H = evN Try.prog call n 170 116 (sub (Try.f170.body.getD .skip) 200 116) τ H := lp_at Try.func170 58 (by decide) 6 (by decide) (by kernel_rfl) call n τ H
@[simp] theorem dr170_1864 : dr Try.prog 170 1864 = .seq [] := (dr_eq Try.func170 1864).trans (by kernel_rfl)
/-! 171: laws.eqParams -/
theorem ok171 : goodFn Try.f171 = true := by kernel_rfl
/-! 172: laws.markIntS -/
theorem ok172 : goodFn Try.f172 = true := by kernel_rfl
theorem lp172_26 (call : CallF) (n : Nat) (τ : Tm) (H : AH) : evCode Try.prog call n (lp Try.prog 172 26) τ H = evN Try.prog call n 172 52 (sub (Try.f172.body.getD .skip) 200 52) τ H := lp_at Try.func172 26 (by decide) 5 (by decide) (by kernel_rfl) call n τ H
/-! 173: laws.markStringS -/
theorem ok173 : goodFn Try.f173 = true := by kernel_rfl
theorem lp173_26 (call : CallF) (n : Nat) (τ : Tm) (H : AH) : evCode Try.prog call n (lp Try.prog 173 26) τ H = evN Try.prog call n 173 52 (sub (Try.f173.body.getD .skip) 200 52) τ H := lp_at Try.func173 26 (by decide) 5 (by decide) (by kernel_rfl) call n τ H
/-! 174: laws.markParams -/
theorem ok174 : goodFn Try.f174 = true := by kernel_rfl
/-! 175: laws.heldIntS -/
theorem ok175 : goodFn Try.f175 = true := by kernel_rfl
theorem lp175_26 (call : CallF) (n : Nat) (τ : Tm) (H : AH) : evCode Try.prog call n (lp Try.prog 175 26) τ H = evN Try.prog call n 175 52 (sub (Try.f175.body.getD .skip) 200 52) τ H := lp_at Try.func175 26 (by decide) 5 (by decide) (by kernel_rfl) call n τ H
/-! 176: laws.heldStringS -/
theorem ok176 : goodFn Try.f176 = true := by kernel_rfl
theorem lp176_26 (call : CallF) (n : Nat) (τ : Tm) (H : AH) : evCode Try.prog call n (lp Try.prog 176 26) τ H = evN Try.prog call n 176 52 (sub (Try.f176.body.getD .skip) 200 52) τ H := lp_at Try.func176 26 (by decide) 5 (by decide) (by kernel_rfl) call n τ H
@[simp] theorem dr176_1680 : dr Try.prog 176 1680 = .seq [(3, 6)] := (dr_eq Try.func176 1680).trans (by kernel_rfl)
/-! 177: laws.heldParams -/
theorem ok177 : goodFn Try.f177 = true := by kernel_rfl
/-! 178: spec.l12DrawBoth -/
theorem ok178 : goodFn Try.f178 = true := by kernel_rfl
/-! 179: impl.paramNumbers -/
theorem ok179 : goodFn Try.f179 = true := by kernel_rfl
/-! 180: impl.addVar -/
theorem ok180 : goodFn Try.f180 = true := by kernel_rfl
@[simp] theorem dr180_126 : dr Try.prog 180 126 = .seq [] := (dr_eq Try.func180 126).trans (by kernel_rfl)
/-! 181: slices.Sort[[]int,int] -/
theorem ok181 : goodFn Try.f181 = true := by kernel_rfl
/-! 182: impl.addCounted -/
theorem ok182 : goodFn Try.f182 = true := by kernel_rfl
/-! 183: spec.ParamsOK -/
theorem ok183 : goodFn Try.f183 = true := by kernel_rfl
/-! 184: spec.l12Entry -/
theorem ok184 : goodFn Try.f184 = true := by kernel_rfl
/-! 185: spec.l12Number -/
theorem ok185 : goodFn Try.f185 = true := by kernel_rfl
/-! 186: impl.scanner).number -/
theorem ok186 : goodFn Try.f186 = true := by kernel_rfl
@[simp] theorem dr186_14 : dr Try.prog 186 14 = .seq [] := (dr_eq Try.func186 14).trans (by kernel_rfl)
/-! 187: impl.GetVar -/
theorem ok187 : goodFn Try.f187 = true := by kernel_rfl
@[simp] theorem dr187_254 : dr Try.prog 187 254 = .seq [] := (dr_eq Try.func187 254).trans (by kernel_rfl)
/-! 188: spec.l12BentHello -/
theorem ok188 : goodFn Try.f188 = true := by kernel_rfl
@[simp] theorem dr188_6910 : dr Try.prog 188 6910 = .flt ⟨[2], [[], [], [], [], [], [2], [2], [2], [], [], []], [], [(1, 5, []), (1, 8, [])]⟩ := (dr_eq Try.func188 6910).trans (by kernel_rfl)
@[simp] theorem dr188_110590 : dr Try.prog 188 110590 = .flt ⟨[2], [[], [], [], [], [], [2], [2], [2], [], [], []], [], [(1, 5, []), (1, 8, [])]⟩ := (dr_eq Try.func188 110590).trans (by kernel_rfl)
/-! 189: spec.l12DrawHello -/
theorem ok189 : goodFn Try.f189 = true := by kernel_rfl
theorem lp189_250 (call : CallF) (n : Nat) (τ : Tm) (H : AH) : evCode Try.prog call n (lp Try.prog 189 250) τ H = evN Try.prog call n 189 500 (sub (Try.f189.body.getD .skip) 200 500) τ H := lp_at Try.func189 250 (by decide) 8 (by decide) (by kernel_rfl) call n τ H
/-! 190: impl.fixed -/
theorem ok190 : goodFn Try.f190 = true := by kernel_rfl
theorem lp190_26 (call : CallF) (n : Nat) (τ : Tm) (H : AH) : evCode Try.prog call n (lp Try.prog 190 26) τ H = evN Try.prog call n 190 52 (sub (Try.f190.body.getD .skip) 200 52) τ H := lp_at Try.func190 26 (by decide) 5 (by decide) (by kernel_rfl) call n τ H
/-! 191: spec.l01Digits -/
theorem ok191 : goodFn Try.f191 = true := by kernel_rfl
/-! 192: spec.l09Time -/
theorem ok192 : goodFn Try.f192 = true := by kernel_rfl
/-! 193: spec.l10Cc).ackLoss -/
theorem ok193 : goodFn Try.f193 = true := by kernel_rfl
@[simp] theorem dr193_12 : dr Try.prog 193 12 = .seq [] := (dr_eq Try.func193 12).trans (by kernel_rfl)
@[simp] theorem dr193_28 : dr Try.prog 193 28 = .seq [] := (dr_eq Try.func193 28).trans (by kernel_rfl)
@[simp] theorem dr193_117 : dr Try.prog 193 117 = .seq [] := (dr_eq Try.func193 117).trans (by kernel_rfl)
@[simp] theorem dr193_238 : dr Try.prog 193 238 = .seq [] := (dr_eq Try.func193 238).trans (by kernel_rfl)
theorem lp193_478 (call : CallF) (n : Nat) (τ : Tm) (H : AH) : evCode Try.prog call n (lp Try.prog 193 478) τ H = evN Try.prog call n 193 956 (sub (Try.f193.body.getD .skip) 200 956) τ H := lp_at Try.func193 478 (by decide) 9 (by decide) (by kernel_rfl) call n τ H
@[simp] theorem dr193_3824 : dr Try.prog 193 3824 = .seq [] := (dr_eq Try.func193 3824).trans (by kernel_rfl)
@[simp] theorem dr193_7652 : dr Try.prog 193 7652 = .seq [] := (dr_eq Try.func193 7652).trans (by kernel_rfl)
/-! 194: spec.l10Cc).ackModel -/
theorem ok194 : goodFn Try.f194 = true := by kernel_rfl
theorem lp194_58 (call : CallF) (n : Nat) (τ : Tm) (H : AH) : evCode Try.prog call n (lp Try.prog 194 58) τ H = evN Try.prog call n 194 116 (sub (Try.f194.body.getD .skip) 200 116) τ H := lp_at Try.func194 58 (by decide) 6 (by decide) (by kernel_rfl) call n τ H
@[simp] theorem dr194_1864 : dr Try.prog 194 1864 = .seq [] := (dr_eq Try.func194 1864).trans (by kernel_rfl)
@[simp] theorem dr194_30 : dr Try.prog 194 30 = .seq [(4, 8)] := (dr_eq Try.func194 30).trans (by kernel_rfl)
@[simp] theorem dr194_62 : dr Try.prog 194 62 = .seq [(4, 8)] := (dr_eq Try.func194 62).trans (by kernel_rfl)
@[simp] theorem dr194_126 : dr Try.prog 194 126 = .seq [(4, 16)] := (dr_eq Try.func194 126).trans (by kernel_rfl)
@[simp] theorem dr194_508 : dr Try.prog 194 508 = .seq [] := (dr_eq Try.func194 508).trans (by kernel_rfl)
@[simp] theorem dr194_261982 : dr Try.prog 194 261982 = .seq [] := (dr_eq Try.func194 261982).trans (by kernel_rfl)
/-! 195: spec.l10Cc).lost -/
theorem ok195 : goodFn Try.f195 = true := by kernel_rfl
@[simp] theorem dr195_12 : dr Try.prog 195 12 = .seq [] := (dr_eq Try.func195 12).trans (by kernel_rfl)
/-! 196: impl.inTime -/
theorem ok196 : goodFn Try.f196 = true := by kernel_rfl
/-! 197: impl.congestion).may -/
theorem ok197 : goodFn Try.f197 = true := by kernel_rfl
@[simp] theorem dr197_6 : dr Try.prog 197 6 = .seq [(3, 8)] := (dr_eq Try.func197 6).trans (by kernel_rfl)
/-! 198: spec.l01Src).byte -/
theorem ok198 : goodFn Try.f198 = true := by kernel_rfl
@[simp] theorem dr198_28 : dr Try.prog 198 28 = .seq [] := (dr_eq Try.func198 28).trans (by kernel_rfl)
@[simp] theorem dr198_116 : dr Try.prog 198 116 = .seq [] := (dr_eq Try.func198 116).trans (by kernel_rfl)
@[simp] theorem dr198_234 : dr Try.prog 198 234 = .seq [] := (dr_eq Try.func198 234).trans (by kernel_rfl)
@[simp] theorem dr198_60 : dr Try.prog 198 60 = .seq [] := (dr_eq Try.func198 60).trans (by kernel_rfl)
/-! 199: spec.l08Flow).open -/
theorem ok199 : goodFn Try.f199 = true := by kernel_rfl
@[simp] theorem dr199_28 : dr Try.prog 199 28 = .seq [] := (dr_eq Try.func199 28).trans (by kernel_rfl)
@[simp] theorem dr199_30 : dr Try.prog 199 30 = .seq [] := (dr_eq Try.func199 30).trans (by kernel_rfl)
@[simp] theorem dr199_62 : dr Try.prog 199 62 = .seq [] := (dr_eq Try.func199 62).trans (by kernel_rfl)
/-! 200: spec.l08Flow).send -/
theorem ok200 : goodFn Try.f200 = true := by kernel_rfl
theorem lp200_506 (call : CallF) (n : Nat) (τ : Tm) (H : AH) : evCode Try.prog call n (lp Try.prog 200 506) τ H = evN Try.prog call n 200 1012 (sub (Try.f200.body.getD .skip) 200 1012) τ H := lp_at Try.func200 506 (by decide) 9 (by decide) (by kernel_rfl) call n τ H
@[simp] theorem dr200_254 : dr Try.prog 200 254 = .seq [] := (dr_eq Try.func200 254).trans (by kernel_rfl)
@[simp] theorem dr200_510 : dr Try.prog 200 510 = .seq [] := (dr_eq Try.func200 510).trans (by kernel_rfl)
/-! 201: spec.l08Flow).arrive -/
theorem ok201 : goodFn Try.f201 = true := by kernel_rfl
@[simp] theorem dr201_488 : dr Try.prog 201 488 = .seq [] := (dr_eq Try.func201 488).trans (by kernel_rfl)
theorem lp201_982 (call : CallF) (n : Nat) (τ : Tm) (H : AH) : evCode Try.prog call n (lp Try.prog 201 982) τ H = evN Try.prog call n 201 1964 (sub (Try.f201.body.getD .skip) 200 1964) τ H := lp_at Try.func201 982 (by decide) 10 (by decide) (by kernel_rfl) call n τ H
theorem lp201_2042 (call : CallF) (n : Nat) (τ : Tm) (H : AH) : evCode Try.prog call n (lp Try.prog 201 2042) τ H = evN Try.prog call n 201 4084 (sub (Try.f201.body.getD .skip) 200 4084) τ H := lp_at Try.func201 2042 (by decide) 11 (by decide) (by kernel_rfl) call n τ H
/-! 202: spec.l08Flow).readMore -/
theorem ok202 : goodFn Try.f202 = true := by kernel_rfl
@[simp] theorem dr202_60 : dr Try.prog 202 60 = .seq [] := (dr_eq Try.func202 60).trans (by kernel_rfl)
@[simp] theorem dr202_62 : dr Try.prog 202 62 = .seq [] := (dr_eq Try.func202 62).trans (by kernel_rfl)
@[simp] theorem dr202_510 : dr Try.prog 202 510 = .seq [] := (dr_eq Try.func202 510).trans (by kernel_rfl)
@[simp] theorem dr202_4094 : dr Try.prog 202 4094 = .seq [] := (dr_eq Try.func202 4094).trans (by kernel_rfl)
/-! 203: spec.l08Flow).over -/
theorem ok203 : goodFn Try.f203 = true := by kernel_rfl
@[simp] theorem dr203_510 : dr Try.prog 203 510 = .seq [] := (dr_eq Try.func203 510).trans (by kernel_rfl)
/-! 204: spec.l08Flow).told -/
theorem ok204 : goodFn Try.f204 = true := by kernel_rfl
@[simp] theorem dr204_234 : dr Try.prog 204 234 = .seq [] := (dr_eq Try.func204 234).trans (by kernel_rfl)
@[simp] theorem dr204_3771 : dr Try.prog 204 3771 = .seq [] := (dr_eq Try.func204 3771).trans (by kernel_rfl)
@[simp] theorem dr204_7549 : dr Try.prog 204 7549 = .seq [] := (dr_eq Try.func204 7549).trans (by kernel_rfl)
/-! 205: impl.setupOK$1 -/
theorem ok205 : goodFn Try.f205 = true := by kernel_rfl
/-! 206: impl.flow).add -/
theorem ok206 : goodFn Try.f206 = true := by kernel_rfl
@[simp] theorem dr206_6 : dr Try.prog 206 6 = .seq [(3, 17)] := (dr_eq Try.func206 6).trans (by kernel_rfl)
/-! 207: impl.flow).sending -/
theorem ok207 : goodFn Try.f207 = true := by kernel_rfl
/-! 208: impl.flow).room -/
theorem ok208 : goodFn Try.f208 = true := by kernel_rfl
@[simp] theorem dr208_6 : dr Try.prog 208 6 = .seq [] := (dr_eq Try.func208 6).trans (by kernel_rfl)
/-! 209: impl.flow).let -/
theorem ok209 : goodFn Try.f209 = true := by kernel_rfl
theorem lp209_506 (call : CallF) (n : Nat) (τ : Tm) (H : AH) : evCode Try.prog call n (lp Try.prog 209 506) τ H = evN Try.prog call n 209 1012 (sub (Try.f209.body.getD .skip) 200 1012) τ H := lp_at Try.func209 506 (by decide) 9 (by decide) (by kernel_rfl) call n τ H
/-! 210: impl.flow).getting -/
theorem ok210 : goodFn Try.f210 = true := by kernel_rfl
/-! 211: impl.CreditNext -/
theorem ok211 : goodFn Try.f211 = true := by kernel_rfl
/-! 212: impl.flow).ours -/
theorem ok212 : goodFn Try.f212 = true := by kernel_rfl
/-! 213: laws.eqFrameS -/
theorem ok213 : goodFn Try.f213 = true := by kernel_rfl
theorem lp213_58 (call : CallF) (n : Nat) (τ : Tm) (H : AH) : evCode Try.prog call n (lp Try.prog 213 58) τ H = evN Try.prog call n 213 116 (sub (Try.f213.body.getD .skip) 200 116) τ H := lp_at Try.func213 58 (by decide) 6 (by decide) (by kernel_rfl) call n τ H
@[simp] theorem dr213_1864 : dr Try.prog 213 1864 = .seq [] := (dr_eq Try.func213 1864).trans (by kernel_rfl)
/-! 214: spec.l01Value -/
theorem ok214 : goodFn Try.f214 = true := by kernel_rfl
theorem lp214_58 (call : CallF) (n : Nat) (τ : Tm) (H : AH) : evCode Try.prog call n (lp Try.prog 214 58) τ H = evN Try.prog call n 214 116 (sub (Try.f214.body.getD .skip) 200 116) τ H := lp_at Try.func214 58 (by decide) 6 (by decide) (by kernel_rfl) call n τ H
/-! 215: spec.l05ReadAck -/
theorem ok215 : goodFn Try.f215 = true := by kernel_rfl
theorem lp215_2042 (call : CallF) (n : Nat) (τ : Tm) (H : AH) : evCode Try.prog call n (lp Try.prog 215 2042) τ H = evN Try.prog call n 215 4084 (sub (Try.f215.body.getD .skip) 200 4084) τ H := lp_at Try.func215 2042 (by decide) 11 (by decide) (by kernel_rfl) call n τ H
@[simp] theorem dr215_261410 : dr Try.prog 215 261410 = .seq [(5, 8)] := (dr_eq Try.func215 261410).trans (by kernel_rfl)
theorem lp215_4090 (call : CallF) (n : Nat) (τ : Tm) (H : AH) : evCode Try.prog call n (lp Try.prog 215 4090) τ H = evN Try.prog call n 215 8180 (sub (Try.f215.body.getD .skip) 200 8180) τ H := lp_at Try.func215 4090 (by decide) 12 (by decide) (by kernel_rfl) call n τ H
@[simp] theorem dr215_65444 : dr Try.prog 215 65444 = .seq [(1, 7)] := (dr_eq Try.func215 65444).trans (by kernel_rfl)
/-! 216: spec.l04Reader).variable -/
theorem ok216 : goodFn Try.f216 = true := by kernel_rfl
@[simp] theorem dr216_14 : dr Try.prog 216 14 = .seq [] := (dr_eq Try.func216 14).trans (by kernel_rfl)
/-! 217: spec.l05ReadStream -/
theorem ok217 : goodFn Try.f217 = true := by kernel_rfl
/-! 218: spec.l04Reader).counted49 -/
theorem ok218 : goodFn Try.f218 = true := by kernel_rfl
/-! 219: impl.scanner).ack -/
theorem ok219 : goodFn Try.f219 = true := by kernel_rfl
theorem lp219_2042 (call : CallF) (n : Nat) (τ : Tm) (H : AH) : evCode Try.prog call n (lp Try.prog 219 2042) τ H = evN Try.prog call n 219 4084 (sub (Try.f219.body.getD .skip) 200 4084) τ H := lp_at Try.func219 2042 (by decide) 11 (by decide) (by kernel_rfl) call n τ H
theorem lp219_4094 (call : CallF) (n : Nat) (τ : Tm) (H : AH) : evCode Try.prog call n (lp Try.prog 219 4094) τ H = evN Try.prog call n 219 8188 (sub (Try.f219.body.getD .skip) 200 8188) τ H := lp_at Try.func219 4094 (by decide) 12 (by decide) (by kernel_rfl) call n τ H
@[simp] theorem dr219_65508 : dr Try.prog 219 65508 = .seq [(4, 10)] := (dr_eq Try.func219 65508).trans (by kernel_rfl)
/-! 220: impl.scanner).fail -/
theorem ok220 : goodFn Try.f220 = true := by kernel_rfl
/-! 221: laws.eqRange -/
theorem ok221 : goodFn Try.f221 = true := by kernel_rfl
/-! 222: spec.l01Src).good -/
theorem ok222 : goodFn Try.f222 = true := by kernel_rfl
/-! 223: spec.l05DrawRanges -/
theorem ok223 : goodFn Try.f223 = true := by kernel_rfl
theorem lp223_122 (call : CallF) (n : Nat) (τ : Tm) (H : AH) : evCode Try.prog call n (lp Try.prog 223 122) τ H = evN Try.prog call n 223 244 (sub (Try.f223.body.getD .skip) 200 244) τ H := lp_at Try.func223 122 (by decide) 7 (by decide) (by kernel_rfl) call n τ H
@[simp] theorem dr223_7827 : dr Try.prog 223 7827 = .seq [(1, 5), (1, 7)] := (dr_eq Try.func223 7827).trans (by kernel_rfl)
/-! 224: impl.addVars -/
theorem ok224 : goodFn Try.f224 = true := by kernel_rfl
theorem lp224_26 (call : CallF) (n : Nat) (τ : Tm) (H : AH) : evCode Try.prog call n (lp Try.prog 224 26) τ H = evN Try.prog call n 224 52 (sub (Try.f224.body.getD .skip) 200 52) τ H := lp_at Try.func224 26 (by decide) 5 (by decide) (by kernel_rfl) call n τ H
/-! 225: spec.PutVar -/
theorem ok225 : goodFn Try.f225 = true := by kernel_rfl
theorem lp225_506 (call : CallF) (n : Nat) (τ : Tm) (H : AH) : evCode Try.prog call n (lp Try.prog 225 506) τ H = evN Try.prog call n 225 1012 (sub (Try.f225.body.getD .skip) 200 1012) τ H := lp_at Try.func225 506 (by decide) 9 (by decide) (by kernel_rfl) call n τ H
/-! 226: laws.szByteS -/
theorem ok226 : goodFn Try.f226 = true := by kernel_rfl
/-! 227: spec.l11Ids).issue -/
theorem ok227 : goodFn Try.f227 = true := by kernel_rfl
theorem lp227_58 (call : CallF) (n : Nat) (τ : Tm) (H : AH) : evCode Try.prog call n (lp Try.prog 227 58) τ H = evN Try.prog call n 227 116 (sub (Try.f227.body.getD .skip) 200 116) τ H := lp_at Try.func227 58 (by decide) 6 (by decide) (by kernel_rfl) call n τ H
@[simp] theorem dr227_1864 : dr Try.prog 227 1864 = .seq [] := (dr_eq Try.func227 1864).trans (by kernel_rfl)
@[simp] theorem dr227_7460 : dr Try.prog 227 7460 = .seq [] := (dr_eq Try.func227 7460).trans (by kernel_rfl)
@[simp] theorem dr227_59688 : dr Try.prog 227 59688 = .seq [] := (dr_eq Try.func227 59688).trans (by kernel_rfl)
@[simp] theorem dr227_62 : dr Try.prog 227 62 = .seq [(4, 10), (4, 13), (4, 22), (6, 10), (6, 13), (11, 0), (14, 0), (14, 10), (18, 0), (18, 10)] := (dr_eq Try.func227 62).trans (by kernel_rfl)
@[simp] theorem dr227_252 : dr Try.prog 227 252 = .seq [] := (dr_eq Try.func227 252).trans (by kernel_rfl)
@[simp] theorem dr227_506 : dr Try.prog 227 506 = .seq [(1, 5), (1, 6)] := (dr_eq Try.func227 506).trans (by kernel_rfl)
@[simp] theorem dr227_508 : dr Try.prog 227 508 = .seq [] := (dr_eq Try.func227 508).trans (by kernel_rfl)
@[simp] theorem dr227_4074 : dr Try.prog 227 4074 = .seq [(1, 6)] := (dr_eq Try.func227 4074).trans (by kernel_rfl)
@[simp] theorem dr227_4075 : dr Try.prog 227 4075 = .seq [(4, 11), (8, 11)] := (dr_eq Try.func227 4075).trans (by kernel_rfl)
@[simp] theorem dr227_1020 : dr Try.prog 227 1020 = .seq [(5, 0)] := (dr_eq Try.func227 1020).trans (by kernel_rfl)
/-! 228: spec.l11Ids).next -/
theorem ok228 : goodFn Try.f228 = true := by kernel_rfl
theorem lp228_58 (call : CallF) (n : Nat) (τ : Tm) (H : AH) : evCode Try.prog call n (lp Try.prog 228 58) τ H = evN Try.prog call n 228 116 (sub (Try.f228.body.getD .skip) 200 116) τ H := lp_at Try.func228 58 (by decide) 6 (by decide) (by kernel_rfl) call n τ H
@[simp] theorem dr228_1864 : dr Try.prog 228 1864 = .seq [] := (dr_eq Try.func228 1864).trans (by kernel_rfl)
@[simp] theorem dr228_62 : dr Try.prog 228 62 = .seq [(4, 7)] := (dr_eq Try.func228 62).trans (by kernel_rfl)
/-! 229: spec.l11Ids).using -/
theorem ok229 : goodFn Try.f229 = true := by kernel_rfl
theorem lp229_26 (call : CallF) (n : Nat) (τ : Tm) (H : AH) : evCode Try.prog call n (lp Try.prog 229 26) τ H = evN Try.prog call n 229 52 (sub (Try.f229.body.getD .skip) 200 52) τ H := lp_at Try.func229 26 (by decide) 5 (by decide) (by kernel_rfl) call n τ H
@[simp] theorem dr229_840 : dr Try.prog 229 840 = .seq [] := (dr_eq Try.func229 840).trans (by kernel_rfl)
/-! 230: spec.l11Ids).count -/
theorem ok230 : goodFn Try.f230 = true := by kernel_rfl
theorem lp230_58 (call : CallF) (n : Nat) (τ : Tm) (H : AH) : evCode Try.prog call n (lp Try.prog 230 58) τ H = evN Try.prog call n 230 116 (sub (Try.f230.body.getD .skip) 200 116) τ H := lp_at Try.func230 58 (by decide) 6 (by decide) (by kernel_rfl) call n τ H
/-! 231: impl.idKeeper).fail -/
theorem ok231 : goodFn Try.f231 = true := by kernel_rfl
/-! 232: slices.Contains[[]int,int] -/
theorem ok232 : goodFn Try.f232 = true := by kernel_rfl
/-! 233: slices.DeleteFunc[[]int,int] -/
theorem ok233 : goodFn Try.f233 = true := by kernel_rfl
theorem lp233_122 (call : CallF) (n : Nat) (τ : Tm) (H : AH) : evCode Try.prog call n (lp Try.prog 233 122) τ H = evN Try.prog call n 233 244 (sub (Try.f233.body.getD .skip) 200 244) τ H := lp_at Try.func233 122 (by decide) 7 (by decide) (by kernel_rfl) call n τ H
/-! 234: impl.idKeeper).next$1 -/
theorem ok234 : goodFn Try.f234 = true := by kernel_rfl
/-! 235: spec.l03Stir -/
theorem ok235 : goodFn Try.f235 = true := by kernel_rfl
theorem lp235_26 (call : CallF) (n : Nat) (τ : Tm) (H : AH) : evCode Try.prog call n (lp Try.prog 235 26) τ H = evN Try.prog call n 235 52 (sub (Try.f235.body.getD .skip) 200 52) τ H := lp_at Try.func235 26 (by decide) 5 (by decide) (by kernel_rfl) call n τ H
@[simp] theorem dr235_840 : dr Try.prog 235 840 = .seq [] := (dr_eq Try.func235 840).trans (by kernel_rfl)
/-! 236: spec.l12Known -/
theorem ok236 : goodFn Try.f236 = true := by kernel_rfl
/-! 237: spec.l12Put -/
theorem ok237 : goodFn Try.f237 = true := by kernel_rfl
/-! 238: spec.l04VersionOK -/
theorem ok238 : goodFn Try.f238 = true := by kernel_rfl
/-! 239: spec.l12NamesOK -/
theorem ok239 : goodFn Try.f239 = true := by kernel_rfl
theorem lp239_58 (call : CallF) (n : Nat) (τ : Tm) (H : AH) : evCode Try.prog call n (lp Try.prog 239 58) τ H = evN Try.prog call n 239 116 (sub (Try.f239.body.getD .skip) 200 116) τ H := lp_at Try.func239 58 (by decide) 6 (by decide) (by kernel_rfl) call n τ H
theorem lp239_7462 (call : CallF) (n : Nat) (τ : Tm) (H : AH) : evCode Try.prog call n (lp Try.prog 239 7462) τ H = evN Try.prog call n 239 14924 (sub (Try.f239.body.getD .skip) 200 14924) τ H := lp_at Try.func239 7462 (by decide) 13 (by decide) (by kernel_rfl) call n τ H
@[simp] theorem dr239_238792 : dr Try.prog 239 238792 = .seq [] := (dr_eq Try.func239 238792).trans (by kernel_rfl)
/-! 240: spec.ChooseVersion -/
theorem ok240 : goodFn Try.f240 = true := by kernel_rfl
theorem lp240_58 (call : CallF) (n : Nat) (τ : Tm) (H : AH) : evCode Try.prog call n (lp Try.prog 240 58) τ H = evN Try.prog call n 240 116 (sub (Try.f240.body.getD .skip) 200 116) τ H := lp_at Try.func240 58 (by decide) 6 (by decide) (by kernel_rfl) call n τ H
theorem lp240_3730 (call : CallF) (n : Nat) (τ : Tm) (H : AH) : evCode Try.prog call n (lp Try.prog 240 3730) τ H = evN Try.prog call n 240 7460 (sub (Try.f240.body.getD .skip) 200 7460) τ H := lp_at Try.func240 3730 (by decide) 12 (by decide) (by kernel_rfl) call n τ H
@[simp] theorem dr240_119368 : dr Try.prog 240 119368 = .seq [] := (dr_eq Try.func240 119368).trans (by kernel_rfl)
/-! 241: impl.versionsOK -/
theorem ok241 : goodFn Try.f241 = true := by kernel_rfl
/-! 242: impl.namesOK -/
theorem ok242 : goodFn Try.f242 = true := by kernel_rfl
/-! 243: impl.versionOK -/
theorem ok243 : goodFn Try.f243 = true := by kernel_rfl
/-! 244: laws.markText -/
theorem ok244 : goodFn Try.f244 = true := by kernel_rfl
theorem lp244_60 (call : CallF) (n : Nat) (τ : Tm) (H : AH) : evCode Try.prog call n (lp Try.prog 244 60) τ H = evN Try.prog call n 244 120 (sub (Try.f244.body.getD .skip) 200 120) τ H := lp_at Try.func244 60 (by decide) 6 (by decide) (by kernel_rfl) call n τ H
/-! 245: spec.l12Bent -/
theorem ok245 : goodFn Try.f245 = true := by kernel_rfl
/-! 246: spec.l12DrawParams -/
theorem ok246 : goodFn Try.f246 = true := by kernel_rfl
/-! 247: impl.paramNumbers$1 -/
theorem ok247 : goodFn Try.f247 = true := by kernel_rfl
/-! 248: impl.paramNumbers$2 -/
theorem ok248 : goodFn Try.f248 = true := by kernel_rfl
/-! 249: impl.paramNumbers$3 -/
theorem ok249 : goodFn Try.f249 = true := by kernel_rfl
/-! 250: impl.paramNumbers$4 -/
theorem ok250 : goodFn Try.f250 = true := by kernel_rfl
/-! 251: impl.paramNumbers$5 -/
theorem ok251 : goodFn Try.f251 = true := by kernel_rfl
/-! 252: impl.paramNumbers$6 -/
theorem ok252 : goodFn Try.f252 = true := by kernel_rfl
/-! 253: impl.paramNumbers$7 -/
theorem ok253 : goodFn Try.f253 = true := by kernel_rfl
/-! 254: impl.paramNumbers$8 -/
theorem ok254 : goodFn Try.f254 = true := by kernel_rfl
/-! 255: impl.paramNumbers$9 -/
theorem ok255 : goodFn Try.f255 = true := by kernel_rfl
/-! 256: impl.VarLen -/
theorem ok256 : goodFn Try.f256 = true := by kernel_rfl
/-! 257: slices.pdqsortOrdered[int] -/
theorem ok257 : goodFn Try.f257 = true := by kernel_rfl
theorem lp257_14 (call : CallF) (n : Nat) (τ : Tm) (H : AH) : evCode Try.prog call n (lp Try.prog 257 14) τ H = evN Try.prog call n 257 28 (sub (Try.f257.body.getD .skip) 200 28) τ H := lp_at Try.func257 14 (by decide) 4 (by decide) (by kernel_rfl) call n τ H
@[simp] theorem dr257_29180 : dr Try.prog 257 29180 = .seq [] := (dr_eq Try.func257 29180).trans (by kernel_rfl)
/-! 258: bits.Len -/
theorem ok258 : goodFn Try.f258 = true := by kernel_rfl
/-! 259: spec.l12DrawNames -/
theorem ok259 : goodFn Try.f259 = true := by kernel_rfl
theorem lp259_250 (call : CallF) (n : Nat) (τ : Tm) (H : AH) : evCode Try.prog call n (lp Try.prog 259 250) τ H = evN Try.prog call n 259 500 (sub (Try.f259.body.getD .skip) 200 500) τ H := lp_at Try.func259 250 (by decide) 8 (by decide) (by kernel_rfl) call n τ H
/-! 260: spec.l10Cc).bandwidth -/
theorem ok260 : goodFn Try.f260 = true := by kernel_rfl
theorem lp260_58 (call : CallF) (n : Nat) (τ : Tm) (H : AH) : evCode Try.prog call n (lp Try.prog 260 58) τ H = evN Try.prog call n 260 116 (sub (Try.f260.body.getD .skip) 200 116) τ H := lp_at Try.func260 58 (by decide) 6 (by decide) (by kernel_rfl) call n τ H
/-! 261: spec.l10Cc).product -/
theorem ok261 : goodFn Try.f261 = true := by kernel_rfl
@[simp] theorem dr261_28 : dr Try.prog 261 28 = .seq [] := (dr_eq Try.func261 28).trans (by kernel_rfl)
/-! 262: impl.congestion).window -/
theorem ok262 : goodFn Try.f262 = true := by kernel_rfl
/-! 263: spec.l08Way -/
theorem ok263 : goodFn Try.f263 = true := by kernel_rfl
/-! 264: spec.IdOf -/
theorem ok264 : goodFn Try.f264 = true := by kernel_rfl
/-! 265: spec.l08Flow).put -/
theorem ok265 : goodFn Try.f265 = true := by kernel_rfl
@[simp] theorem dr265_1 : dr Try.prog 265 1 = .seq [(4, 18)] := (dr_eq Try.func265 1).trans (by kernel_rfl)
/-! 266: spec.l08Flow).sends -/
theorem ok266 : goodFn Try.f266 = true := by kernel_rfl
/-! 267: spec.IdParts -/
theorem ok267 : goodFn Try.f267 = true := by kernel_rfl
/-! 268: spec.l08Flow).at -/
theorem ok268 : goodFn Try.f268 = true := by kernel_rfl
theorem lp268_26 (call : CallF) (n : Nat) (τ : Tm) (H : AH) : evCode Try.prog call n (lp Try.prog 268 26) τ H = evN Try.prog call n 268 52 (sub (Try.f268.body.getD .skip) 200 52) τ H := lp_at Try.func268 26 (by decide) 5 (by decide) (by kernel_rfl) call n τ H
/-! 269: spec.l08Flow).gets -/
theorem ok269 : goodFn Try.f269 = true := by kernel_rfl
/-! 270: spec.CreditNext -/
theorem ok270 : goodFn Try.f270 = true := by kernel_rfl
/-! 271: spec.GetVar -/
theorem ok271 : goodFn Try.f271 = true := by kernel_rfl
theorem lp271_506 (call : CallF) (n : Nat) (τ : Tm) (H : AH) : evCode Try.prog call n (lp Try.prog 271 506) τ H = evN Try.prog call n 271 1012 (sub (Try.f271.body.getD .skip) 200 1012) τ H := lp_at Try.func271 506 (by decide) 9 (by decide) (by kernel_rfl) call n τ H
theorem lp271_4090 (call : CallF) (n : Nat) (τ : Tm) (H : AH) : evCode Try.prog call n (lp Try.prog 271 4090) τ H = evN Try.prog call n 271 8180 (sub (Try.f271.body.getD .skip) 200 8180) τ H := lp_at Try.func271 4090 (by decide) 12 (by decide) (by kernel_rfl) call n τ H
/-! 272: spec.VarLen -/
theorem ok272 : goodFn Try.f272 = true := by kernel_rfl
/-! 273: spec.l11Retire -/
theorem ok273 : goodFn Try.f273 = true := by kernel_rfl
/-! 274: spec.l11Ids).below -/
theorem ok274 : goodFn Try.f274 = true := by kernel_rfl
theorem lp274_58 (call : CallF) (n : Nat) (τ : Tm) (H : AH) : evCode Try.prog call n (lp Try.prog 274 58) τ H = evN Try.prog call n 274 116 (sub (Try.f274.body.getD .skip) 200 116) τ H := lp_at Try.func274 58 (by decide) 6 (by decide) (by kernel_rfl) call n τ H
/-! 275: spec.l11Ids).least -/
theorem ok275 : goodFn Try.f275 = true := by kernel_rfl
theorem lp275_58 (call : CallF) (n : Nat) (τ : Tm) (H : AH) : evCode Try.prog call n (lp Try.prog 275 58) τ H = evN Try.prog call n 275 116 (sub (Try.f275.body.getD .skip) 200 116) τ H := lp_at Try.func275 58 (by decide) 6 (by decide) (by kernel_rfl) call n τ H
@[simp] theorem dr275_1864 : dr Try.prog 275 1864 = .seq [] := (dr_eq Try.func275 1864).trans (by kernel_rfl)
/-! 276: slices.Index[[]int,int] -/
theorem ok276 : goodFn Try.f276 = true := by kernel_rfl
theorem lp276_26 (call : CallF) (n : Nat) (τ : Tm) (H : AH) : evCode Try.prog call n (lp Try.prog 276 26) τ H = evN Try.prog call n 276 52 (sub (Try.f276.body.getD .skip) 200 52) τ H := lp_at Try.func276 26 (by decide) 5 (by decide) (by kernel_rfl) call n τ H
/-! 277: slices.IndexFunc[[]int,int] -/
theorem ok277 : goodFn Try.f277 = true := by kernel_rfl
theorem lp277_26 (call : CallF) (n : Nat) (τ : Tm) (H : AH) : evCode Try.prog call n (lp Try.prog 277 26) τ H = evN Try.prog call n 277 52 (sub (Try.f277.body.getD .skip) 200 52) τ H := lp_at Try.func277 26 (by decide) 5 (by decide) (by kernel_rfl) call n τ H
/-! 278: spec.l03Rot -/
theorem ok278 : goodFn Try.f278 = true := by kernel_rfl
/-! 279: slices.ContainsFunc[[]int,int] -/
theorem ok279 : goodFn Try.f279 = true := by kernel_rfl
/-! 280: impl.versionsOK$1 -/
theorem ok280 : goodFn Try.f280 = true := by kernel_rfl
/-! 281: impl.unlike[int] -/
theorem ok281 : goodFn Try.f281 = true := by kernel_rfl
theorem lp281_58 (call : CallF) (n : Nat) (τ : Tm) (H : AH) : evCode Try.prog call n (lp Try.prog 281 58) τ H = evN Try.prog call n 281 116 (sub (Try.f281.body.getD .skip) 200 116) τ H := lp_at Try.func281 58 (by decide) 6 (by decide) (by kernel_rfl) call n τ H
/-! 282: slices.ContainsFunc[[]string,string] -/
theorem ok282 : goodFn Try.f282 = true := by kernel_rfl
/-! 283: impl.namesOK$1 -/
theorem ok283 : goodFn Try.f283 = true := by kernel_rfl
/-! 284: impl.unlike[string] -/
theorem ok284 : goodFn Try.f284 = true := by kernel_rfl
theorem lp284_58 (call : CallF) (n : Nat) (τ : Tm) (H : AH) : evCode Try.prog call n (lp Try.prog 284 58) τ H = evN Try.prog call n 284 116 (sub (Try.f284.body.getD .skip) 200 116) τ H := lp_at Try.func284 58 (by decide) 6 (by decide) (by kernel_rfl) call n τ H
/-! 285: spec.l01Src).cid -/
theorem ok285 : goodFn Try.f285 = true := by kernel_rfl
/-! 286: slices.insertionSortOrdered[int] -/
theorem ok286 : goodFn Try.f286 = true := by kernel_rfl
theorem lp286_6 (call : CallF) (n : Nat) (τ : Tm) (H : AH) : evCode Try.prog call n (lp Try.prog 286 6) τ H = evN Try.prog call n 286 12 (sub (Try.f286.body.getD .skip) 200 12) τ H := lp_at Try.func286 6 (by decide) 3 (by decide) (by kernel_rfl) call n τ H
theorem lp286_402 (call : CallF) (n : Nat) (τ : Tm) (H : AH) : evCode Try.prog call n (lp Try.prog 286 402) τ H = evN Try.prog call n 286 804 (sub (Try.f286.body.getD .skip) 200 804) τ H := lp_at Try.func286 402 (by decide) 9 (by decide) (by kernel_rfl) call n τ H
@[simp] theorem dr286_3216 : dr Try.prog 286 3216 = .seq [] := (dr_eq Try.func286 3216).trans (by kernel_rfl)
@[simp] theorem dr286_6436 : dr Try.prog 286 6436 = .seq [] := (dr_eq Try.func286 6436).trans (by kernel_rfl)
/-! 287: slices.heapSortOrdered[int] -/
theorem ok287 : goodFn Try.f287 = true := by kernel_rfl
theorem lp287_122 (call : CallF) (n : Nat) (τ : Tm) (H : AH) : evCode Try.prog call n (lp Try.prog 287 122) τ H = evN Try.prog call n 287 244 (sub (Try.f287.body.getD .skip) 200 244) τ H := lp_at Try.func287 122 (by decide) 7 (by decide) (by kernel_rfl) call n τ H
theorem lp287_126 (call : CallF) (n : Nat) (τ : Tm) (H : AH) : evCode Try.prog call n (lp Try.prog 287 126) τ H = evN Try.prog call n 287 252 (sub (Try.f287.body.getD .skip) 200 252) τ H := lp_at Try.func287 126 (by decide) 7 (by decide) (by kernel_rfl) call n τ H
@[simp] theorem dr287_4040 : dr Try.prog 287 4040 = .seq [] := (dr_eq Try.func287 4040).trans (by kernel_rfl)
/-! 288: slices.breakPatternsOrdered[int] -/
theorem ok288 : goodFn Try.f288 = true := by kernel_rfl
theorem lp288_238 (call : CallF) (n : Nat) (τ : Tm) (H : AH) : evCode Try.prog call n (lp Try.prog 288 238) τ H = evN Try.prog call n 288 476 (sub (Try.f288.body.getD .skip) 200 476) τ H := lp_at Try.func288 238 (by decide) 8 (by decide) (by kernel_rfl) call n τ H
@[simp] theorem dr288_15251 : dr Try.prog 288 15251 = .seq [] := (dr_eq Try.func288 15251).trans (by kernel_rfl)
/-! 289: slices.choosePivotOrdered[int] -/
theorem ok289 : goodFn Try.f289 = true := by kernel_rfl
/-! 290: slices.reverseRangeOrdered[int] -/
theorem ok290 : goodFn Try.f290 = true := by kernel_rfl
theorem lp290_14 (call : CallF) (n : Nat) (τ : Tm) (H : AH) : evCode Try.prog call n (lp Try.prog 290 14) τ H = evN Try.prog call n 290 28 (sub (Try.f290.body.getD .skip) 200 28) τ H := lp_at Try.func290 14 (by decide) 4 (by decide) (by kernel_rfl) call n τ H
@[simp] theorem dr290_228 : dr Try.prog 290 228 = .seq [] := (dr_eq Try.func290 228).trans (by kernel_rfl)
/-! 291: slices.partialInsertionSortOrdered[int] -/
theorem ok291 : goodFn Try.f291 = true := by kernel_rfl
theorem lp291_58 (call : CallF) (n : Nat) (τ : Tm) (H : AH) : evCode Try.prog call n (lp Try.prog 291 58) τ H = evN Try.prog call n 291 116 (sub (Try.f291.body.getD .skip) 200 116) τ H := lp_at Try.func291 58 (by decide) 6 (by decide) (by kernel_rfl) call n τ H
theorem lp291_3728 (call : CallF) (n : Nat) (τ : Tm) (H : AH) : evCode Try.prog call n (lp Try.prog 291 3728) τ H = evN Try.prog call n 291 7456 (sub (Try.f291.body.getD .skip) 200 7456) τ H := lp_at Try.func291 3728 (by decide) 12 (by decide) (by kernel_rfl) call n τ H
@[simp] theorem dr291_29824 : dr Try.prog 291 29824 = .seq [] := (dr_eq Try.func291 29824).trans (by kernel_rfl)
@[simp] theorem dr291_14926 : dr Try.prog 291 14926 = .seq [] := (dr_eq Try.func291 14926).trans (by kernel_rfl)
theorem lp291_477674 (call : CallF) (n : Nat) (τ : Tm) (H : AH) : evCode Try.prog call n (lp Try.prog 291 477674) τ H = evN Try.prog call n 291 955348 (sub (Try.f291.body.getD .skip) 200 955348) τ H := lp_at Try.func291 477674 (by decide) 19 (by decide) (by kernel_rfl) call n τ H
@[simp] theorem dr291_30571152 : dr Try.prog 291 30571152 = .seq [] := (dr_eq Try.func291 30571152).trans (by kernel_rfl)
@[simp] theorem dr291_15285577 : dr Try.prog 291 15285577 = .seq [] := (dr_eq Try.func291 15285577).trans (by kernel_rfl)
theorem lp291_477690 (call : CallF) (n : Nat) (τ : Tm) (H : AH) : evCode Try.prog call n (lp Try.prog 291 477690) τ H = evN Try.prog call n 291 955380 (sub (Try.f291.body.getD .skip) 200 955380) τ H := lp_at Try.func291 477690 (by decide) 19 (by decide) (by kernel_rfl) call n τ H
@[simp] theorem dr291_30572176 : dr Try.prog 291 30572176 = .seq [] := (dr_eq Try.func291 30572176).trans (by kernel_rfl)
@[simp] theorem dr291_15286089 : dr Try.prog 291 15286089 = .seq [] := (dr_eq Try.func291 15286089).trans (by kernel_rfl)
/-! 293: slices.partitionEqualOrdered[int] -/
theorem ok293 : goodFn Try.f293 = true := by kernel_rfl
@[simp] theorem dr293_6 : dr Try.prog 293 6 = .seq [] := (dr_eq Try.func293 6).trans (by kernel_rfl)
theorem lp293_60 (call : CallF) (n : Nat) (τ : Tm) (H : AH) : evCode Try.prog call n (lp Try.prog 293 60) τ H = evN Try.prog call n 293 120 (sub (Try.f293.body.getD .skip) 200 120) τ H := lp_at Try.func293 60 (by decide) 6 (by decide) (by kernel_rfl) call n τ H
theorem lp293_960 (call : CallF) (n : Nat) (τ : Tm) (H : AH) : evCode Try.prog call n (lp Try.prog 293 960) τ H = evN Try.prog call n 293 1920 (sub (Try.f293.body.getD .skip) 200 1920) τ H := lp_at Try.func293 960 (by decide) 10 (by decide) (by kernel_rfl) call n τ H
@[simp] theorem dr293_7680 : dr Try.prog 293 7680 = .seq [] := (dr_eq Try.func293 7680).trans (by kernel_rfl)
theorem lp293_1924 (call : CallF) (n : Nat) (τ : Tm) (H : AH) : evCode Try.prog call n (lp Try.prog 293 1924) τ H = evN Try.prog call n 293 3848 (sub (Try.f293.body.getD .skip) 200 3848) τ H := lp_at Try.func293 1924 (by decide) 11 (by decide) (by kernel_rfl) call n τ H
@[simp] theorem dr293_15392 : dr Try.prog 293 15392 = .seq [] := (dr_eq Try.func293 15392).trans (by kernel_rfl)
@[simp] theorem dr293_3854 : dr Try.prog 293 3854 = .seq [] := (dr_eq Try.func293 3854).trans (by kernel_rfl)
/-! 294: slices.partitionOrdered[int] -/
theorem ok294 : goodFn Try.f294 = true := by kernel_rfl
@[simp] theorem dr294_6 : dr Try.prog 294 6 = .seq [] := (dr_eq Try.func294 6).trans (by kernel_rfl)
theorem lp294_60 (call : CallF) (n : Nat) (τ : Tm) (H : AH) : evCode Try.prog call n (lp Try.prog 294 60) τ H = evN Try.prog call n 294 120 (sub (Try.f294.body.getD .skip) 200 120) τ H := lp_at Try.func294 60 (by decide) 6 (by decide) (by kernel_rfl) call n τ H
@[simp] theorem dr294_480 : dr Try.prog 294 480 = .seq [] := (dr_eq Try.func294 480).trans (by kernel_rfl)
theorem lp294_124 (call : CallF) (n : Nat) (τ : Tm) (H : AH) : evCode Try.prog call n (lp Try.prog 294 124) τ H = evN Try.prog call n 294 248 (sub (Try.f294.body.getD .skip) 200 248) τ H := lp_at Try.func294 124 (by decide) 7 (by decide) (by kernel_rfl) call n τ H
@[simp] theorem dr294_992 : dr Try.prog 294 992 = .seq [] := (dr_eq Try.func294 992).trans (by kernel_rfl)
@[simp] theorem dr294_1012 : dr Try.prog 294 1012 = .seq [] := (dr_eq Try.func294 1012).trans (by kernel_rfl)
@[simp] theorem dr294_254 : dr Try.prog 294 254 = .seq [] := (dr_eq Try.func294 254).trans (by kernel_rfl)
theorem lp294_4092 (call : CallF) (n : Nat) (τ : Tm) (H : AH) : evCode Try.prog call n (lp Try.prog 294 4092) τ H = evN Try.prog call n 294 8184 (sub (Try.f294.body.getD .skip) 200 8184) τ H := lp_at Try.func294 4092 (by decide) 12 (by decide) (by kernel_rfl) call n τ H
theorem lp294_65472 (call : CallF) (n : Nat) (τ : Tm) (H : AH) : evCode Try.prog call n (lp Try.prog 294 65472) τ H = evN Try.prog call n 294 130944 (sub (Try.f294.body.getD .skip) 200 130944) τ H := lp_at Try.func294 65472 (by decide) 16 (by decide) (by kernel_rfl) call n τ H
@[simp] theorem dr294_523776 : dr Try.prog 294 523776 = .seq [] := (dr_eq Try.func294 523776).trans (by kernel_rfl)
theorem lp294_130948 (call : CallF) (n : Nat) (τ : Tm) (H : AH) : evCode Try.prog call n (lp Try.prog 294 130948) τ H = evN Try.prog call n 294 261896 (sub (Try.f294.body.getD .skip) 200 261896) τ H := lp_at Try.func294 130948 (by decide) 17 (by decide) (by kernel_rfl) call n τ H
@[simp] theorem dr294_1047584 : dr Try.prog 294 1047584 = .seq [] := (dr_eq Try.func294 1047584).trans (by kernel_rfl)
@[simp] theorem dr294_261902 : dr Try.prog 294 261902 = .seq [] := (dr_eq Try.func294 261902).trans (by kernel_rfl)
@[simp] theorem dr294_4094 : dr Try.prog 294 4094 = .seq [] := (dr_eq Try.func294 4094).trans (by kernel_rfl)
/-! 295: bits.Len32 -/
theorem ok295 : goodFn Try.f295 = true := by kernel_rfl
/-! 296: bits.Len64 -/
theorem ok296 : goodFn Try.f296 = true := by kernel_rfl
/-! 297: slices.IndexFunc[[]string,string] -/
theorem ok297 : goodFn Try.f297 = true := by kernel_rfl
theorem lp297_26 (call : CallF) (n : Nat) (τ : Tm) (H : AH) : evCode Try.prog call n (lp Try.prog 297 26) τ H = evN Try.prog call n 297 52 (sub (Try.f297.body.getD .skip) 200 52) τ H := lp_at Try.func297 26 (by decide) 5 (by decide) (by kernel_rfl) call n τ H
/-! 298: slices.siftDownOrdered[int] -/
theorem ok298 : goodFn Try.f298 = true := by kernel_rfl
theorem lp298_6 (call : CallF) (n : Nat) (τ : Tm) (H : AH) : evCode Try.prog call n (lp Try.prog 298 6) τ H = evN Try.prog call n 298 12 (sub (Try.f298.body.getD .skip) 200 12) τ H := lp_at Try.func298 6 (by decide) 3 (by decide) (by kernel_rfl) call n τ H
@[simp] theorem dr298_396 : dr Try.prog 298 396 = .seq [] := (dr_eq Try.func298 396).trans (by kernel_rfl)
@[simp] theorem dr298_796 : dr Try.prog 298 796 = .seq [] := (dr_eq Try.func298 796).trans (by kernel_rfl)
@[simp] theorem dr298_798 : dr Try.prog 298 798 = .seq [] := (dr_eq Try.func298 798).trans (by kernel_rfl)
/-! 299: slices.nextPowerOfTwo -/
theorem ok299 : goodFn Try.f299 = true := by kernel_rfl
/-! 300: (*slices.xorshift).Next -/
theorem ok300 : goodFn Try.f300 = true := by kernel_rfl
@[simp] theorem dr300_6 : dr Try.prog 300 6 = .seq [] := (dr_eq Try.func300 6).trans (by kernel_rfl)
@[simp] theorem dr300_14 : dr Try.prog 300 14 = .seq [] := (dr_eq Try.func300 14).trans (by kernel_rfl)
@[simp] theorem dr300_30 : dr Try.prog 300 30 = .seq [] := (dr_eq Try.func300 30).trans (by kernel_rfl)
/-! 301: slices.medianAdjacentOrdered[int] -/
theorem ok301 : goodFn Try.f301 = true := by kernel_rfl
/-! 302: slices.medianOrdered[int] -/
theorem ok302 : goodFn Try.f302 = true := by kernel_rfl
/-! 304: slices.order2Ordered[int] -/
theorem ok304 : goodFn Try.f304 = true := by kernel_rfl
@[simp] theorem dr304_12 : dr Try.prog 304 12 = .seq [] := (dr_eq Try.func304 12).trans (by kernel_rfl)
/-! 320: impl.lossRule).acked -/
theorem ok320 : goodFn Try.f320 = true := by kernel_rfl
@[simp] theorem dr320_12 : dr Try.prog 320 12 = .seq [] := (dr_eq Try.func320 12).trans (by kernel_rfl)
@[simp] theorem dr320_28 : dr Try.prog 320 28 = .seq [] := (dr_eq Try.func320 28).trans (by kernel_rfl)
@[simp] theorem dr320_117 : dr Try.prog 320 117 = .seq [] := (dr_eq Try.func320 117).trans (by kernel_rfl)
@[simp] theorem dr320_238 : dr Try.prog 320 238 = .seq [] := (dr_eq Try.func320 238).trans (by kernel_rfl)
theorem lp320_478 (call : CallF) (n : Nat) (τ : Tm) (H : AH) : evCode Try.prog call n (lp Try.prog 320 478) τ H = evN Try.prog call n 320 956 (sub (Try.f320.body.getD .skip) 200 956) τ H := lp_at Try.func320 478 (by decide) 9 (by decide) (by kernel_rfl) call n τ H
@[simp] theorem dr320_3824 : dr Try.prog 320 3824 = .seq [] := (dr_eq Try.func320 3824).trans (by kernel_rfl)
@[simp] theorem dr320_7652 : dr Try.prog 320 7652 = .seq [] := (dr_eq Try.func320 7652).trans (by kernel_rfl)
/-! 321: impl.lossRule).lost -/
theorem ok321 : goodFn Try.f321 = true := by kernel_rfl
@[simp] theorem dr321_12 : dr Try.prog 321 12 = .seq [] := (dr_eq Try.func321 12).trans (by kernel_rfl)
/-! 322: impl.lossRule).tells -/
theorem ok322 : goodFn Try.f322 = true := by kernel_rfl
@[simp] theorem dr322_6 : dr Try.prog 322 6 = .seq [] := (dr_eq Try.func322 6).trans (by kernel_rfl)
/-! 323: impl.modelRule).acked -/
theorem ok323 : goodFn Try.f323 = true := by kernel_rfl
theorem lp323_58 (call : CallF) (n : Nat) (τ : Tm) (H : AH) : evCode Try.prog call n (lp Try.prog 323 58) τ H = evN Try.prog call n 323 116 (sub (Try.f323.body.getD .skip) 200 116) τ H := lp_at Try.func323 58 (by decide) 6 (by decide) (by kernel_rfl) call n τ H
@[simp] theorem dr323_30 : dr Try.prog 323 30 = .seq [(4, 11)] := (dr_eq Try.func323 30).trans (by kernel_rfl)
@[simp] theorem dr323_62 : dr Try.prog 323 62 = .seq [(4, 16)] := (dr_eq Try.func323 62).trans (by kernel_rfl)
@[simp] theorem dr323_508 : dr Try.prog 323 508 = .seq [] := (dr_eq Try.func323 508).trans (by kernel_rfl)
@[simp] theorem dr323_261818 : dr Try.prog 323 261818 = .seq [(4, 8), (4, 11)] := (dr_eq Try.func323 261818).trans (by kernel_rfl)
@[simp] theorem dr323_523644 : dr Try.prog 323 523644 = .seq [] := (dr_eq Try.func323 523644).trans (by kernel_rfl)
/-! 324: impl.modelRule).bandwidth -/
theorem ok324 : goodFn Try.f324 = true := by kernel_rfl
theorem lp324_58 (call : CallF) (n : Nat) (τ : Tm) (H : AH) : evCode Try.prog call n (lp Try.prog 324 58) τ H = evN Try.prog call n 324 116 (sub (Try.f324.body.getD .skip) 200 116) τ H := lp_at Try.func324 58 (by decide) 6 (by decide) (by kernel_rfl) call n τ H
/-! 325: impl.modelRule).lost -/
theorem ok325 : goodFn Try.f325 = true := by kernel_rfl
/-! 326: impl.modelRule).tells -/
theorem ok326 : goodFn Try.f326 = true := by kernel_rfl
@[simp] theorem dr326_6 : dr Try.prog 326 6 = .seq [] := (dr_eq Try.func326 6).trans (by kernel_rfl)
/-! 327: impl.modelRule).product -/
theorem ok327 : goodFn Try.f327 = true := by kernel_rfl
@[simp] theorem dr327_6 : dr Try.prog 327 6 = .seq [(6, 0), (7, 0)] := (dr_eq Try.func327 6).trans (by kernel_rfl)
/-! 328: bits.Mul64 -/
theorem ok328 : goodFn Try.f328 = true := by kernel_rfl
/-! 329: bits.Div64 -/
theorem ok329 : goodFn Try.f329 = true := by kernel_rfl
@[simp] theorem dr329_244 : dr Try.prog 329 244 = .seq [] := (dr_eq Try.func329 244).trans (by kernel_rfl)
theorem lp329_131068 (call : CallF) (n : Nat) (τ : Tm) (H : AH) : evCode Try.prog call n (lp Try.prog 329 131068) τ H = evN Try.prog call n 329 262136 (sub (Try.f329.body.getD .skip) 200 262136) τ H := lp_at Try.func329 131068 (by decide) 17 (by decide) (by kernel_rfl) call n τ H
theorem lp329_2097148 (call : CallF) (n : Nat) (τ : Tm) (H : AH) : evCode Try.prog call n (lp Try.prog 329 2097148) τ H = evN Try.prog call n 329 4194296 (sub (Try.f329.body.getD .skip) 200 4194296) τ H := lp_at Try.func329 2097148 (by decide) 21 (by decide) (by kernel_rfl) call n τ H
/-! 330: bits.LeadingZeros64 -/
theorem ok330 : goodFn Try.f330 = true := by kernel_rfl
end Go.Ev
