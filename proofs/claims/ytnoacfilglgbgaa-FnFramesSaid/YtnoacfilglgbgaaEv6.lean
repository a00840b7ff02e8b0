/- Lemmas of an evaluator of the given code and of what the functions answer; no condition of its own. -/
import Derived.Test.YtnoacfilglgbgaaEv5
import Derived.Test.YtnoacfilglgbgaaProg
import Derived.KernelRfl
/- Facts of the translation, for the evaluator: written by a program of this session (facts.py). -/
namespace Go.Ev
open Go Go.Proofs
set_option linter.unusedVariables false
@[simp] theorem tyS1 : sizeT Try.prog 1 = some 1 := by kernel_rfl
@[simp] theorem tyB1 : bytesT Try.prog 1 = some 8 := by kernel_rfl
@[simp] theorem tyA1 : aggT Try.prog 1 = some false := by kernel_rfl
@[simp] theorem tyZ1 : zeroT Try.prog 1 = some [.nilFunc] := by kernel_rfl
@[simp] theorem tyV1 : zeroV Try.prog 1 = some (.nilFunc) := by kernel_rfl
@[simp] theorem tyP1 : placesT Try.prog 1 = none := by kernel_rfl
@[simp] theorem tyU2 : Try.prog.underlying 2 = some (.int .i64) := by kernel_rfl
@[simp] theorem tyS2 : sizeT Try.prog 2 = some 1 := by kernel_rfl
@[simp] theorem tyB2 : bytesT Try.prog 2 = some 8 := by kernel_rfl
@[simp] theorem tyA2 : aggT Try.prog 2 = some false := by kernel_rfl
@[simp] theorem tyZ2 : zeroT Try.prog 2 = some [.int .i64 0] := by kernel_rfl
@[simp] theorem tyV2 : zeroV Try.prog 2 = some (.int .i64 0) := by kernel_rfl
@[simp] theorem tyP2 : placesT Try.prog 2 = none := by kernel_rfl
@[simp] theorem tyU3 : Try.prog.underlying 3 = some (.int .i64) := by kernel_rfl
@[simp] theorem tyS3 : sizeT Try.prog 3 = some 1 := by kernel_rfl
@[simp] theorem tyB3 : bytesT Try.prog 3 = some 8 := by kernel_rfl
@[simp] theorem tyA3 : aggT Try.prog 3 = some false := by kernel_rfl
@[simp] theorem tyZ3 : zeroT Try.prog 3 = some [.int .i64 0] := by kernel_rfl
@[simp] theorem tyV3 : zeroV Try.prog 3 = some (.int .i64 0) := by kernel_rfl
@[simp] theorem tyP3 : placesT Try.prog 3 = none := by kernel_rfl
@[simp] theorem tyU4 : Try.prog.underlying 4 = some (.bool) := by kernel_rfl
@[simp] theorem tyS4 : sizeT Try.prog 4 = some 1 := by kernel_rfl
@[simp] theorem tyB4 : bytesT Try.prog 4 = some 1 := by kernel_rfl
@[simp] theorem tyA4 : aggT Try.prog 4 = some false := by kernel_rfl
@[simp] theorem tyZ4 : zeroT Try.prog 4 = some [.bool false] := by kernel_rfl
@[simp] theorem tyV4 : zeroV Try.prog 4 = some (.bool false) := by kernel_rfl
@[simp] theorem tyP4 : placesT Try.prog 4 = none := by kernel_rfl
@[simp] theorem tyU5 : Try.prog.underlying 5 = some (.int .u8) := by kernel_rfl
@[simp] theorem tyS5 : sizeT Try.prog 5 = some 1 := by kernel_rfl
@[simp] theorem tyB5 : bytesT Try.prog 5 = some 1 := by kernel_rfl
@[simp] theorem tyA5 : aggT Try.prog 5 = some false := by kernel_rfl
@[simp] theorem tyZ5 : zeroT Try.prog 5 = some [.int .u8 0] := by kernel_rfl
@[simp] theorem tyV5 : zeroV Try.prog 5 = some (.int .u8 0) := by kernel_rfl
@[simp] theorem tyP5 : placesT Try.prog 5 = none := by kernel_rfl
@[simp] theorem tyU6 : Try.prog.underlying 6 = some (.int .u8) := by kernel_rfl
@[simp] theorem tyS6 : sizeT Try.prog 6 = some 1 := by kernel_rfl
@[simp] theorem tyB6 : bytesT Try.prog 6 = some 1 := by kernel_rfl
@[simp] theorem tyA6 : aggT Try.prog 6 = some false := by kernel_rfl
@[simp] theorem tyZ6 : zeroT Try.prog 6 = some [.int .u8 0] := by kernel_rfl
@[simp] theorem tyV6 : zeroV Try.prog 6 = some (.int .u8 0) := by kernel_rfl
@[simp] theorem tyP6 : placesT Try.prog 6 = none := by kernel_rfl
@[simp] theorem tyS7 : sizeT Try.prog 7 = some 4 := by kernel_rfl
@[simp] theorem tyB7 : bytesT Try.prog 7 = some 24 := by kernel_rfl
@[simp] theorem tyA7 : aggT Try.prog 7 = some true := by kernel_rfl
@[simp] theorem tyZ7 : zeroT Try.prog 7 = some [.int .i64 0, .int .i64 0, .bool false, .int .u8 0] := by kernel_rfl
@[simp] theorem tyV7 : zeroV Try.prog 7 = some (.agg [.int .i64 0, .int .i64 0, .bool false, .int .u8 0]) := by kernel_rfl
@[simp] theorem tyP7 : placesT Try.prog 7 = some [(0, 1), (1, 1), (2, 1), (3, 1)] := by kernel_rfl
@[simp] theorem tyF7_0 : fieldT Try.prog 7 0 = some (0, 2) := by kernel_rfl
@[simp] theorem tyF7_1 : fieldT Try.prog 7 1 = some (1, 3) := by kernel_rfl
@[simp] theorem tyF7_2 : fieldT Try.prog 7 2 = some (2, 4) := by kernel_rfl
@[simp] theorem tyF7_3 : fieldT Try.prog 7 3 = some (3, 6) := by kernel_rfl
@[simp] theorem tyS8 : sizeT Try.prog 8 = some 4 := by kernel_rfl
@[simp] theorem tyB8 : bytesT Try.prog 8 = some 24 := by kernel_rfl
@[simp] theorem tyA8 : aggT Try.prog 8 = some true := by kernel_rfl
@[simp] theorem tyZ8 : zeroT Try.prog 8 = some [.int .i64 0, .int .i64 0, .bool false, .int .u8 0] := by kernel_rfl
@[simp] theorem tyV8 : zeroV Try.prog 8 = some (.agg [.int .i64 0, .int .i64 0, .bool false, .int .u8 0]) := by kernel_rfl
@[simp] theorem tyP8 : placesT Try.prog 8 = some [(0, 1), (1, 1), (2, 1), (3, 1)] := by kernel_rfl
@[simp] theorem tyF8_0 : fieldT Try.prog 8 0 = some (0, 2) := by kernel_rfl
@[simp] theorem tyF8_1 : fieldT Try.prog 8 1 = some (1, 3) := by kernel_rfl
@[simp] theorem tyF8_2 : fieldT Try.prog 8 2 = some (2, 4) := by kernel_rfl
@[simp] theorem tyF8_3 : fieldT Try.prog 8 3 = some (3, 6) := by kernel_rfl
@[simp] theorem tyU9 : Try.prog.underlying 9 = some (.string) := by kernel_rfl
@[simp] theorem tyS9 : sizeT Try.prog 9 = some 1 := by kernel_rfl
@[simp] theorem tyB9 : bytesT Try.prog 9 = some 16 := by kernel_rfl
@[simp] theorem tyA9 : aggT Try.prog 9 = some false := by kernel_rfl
@[simp] theorem tyZ9 : zeroT Try.prog 9 = some [.str ByteArray.empty] := by kernel_rfl
@[simp] theorem tyV9 : zeroV Try.prog 9 = some (.str ByteArray.empty) := by kernel_rfl
@[simp] theorem tyP9 : placesT Try.prog 9 = none := by kernel_rfl
@[simp] theorem tyU11 : Try.prog.underlying 11 = some (.string) := by kernel_rfl
@[simp] theorem tyS11 : sizeT Try.prog 11 = some 1 := by kernel_rfl
@[simp] theorem tyB11 : bytesT Try.prog 11 = some 16 := by kernel_rfl
@[simp] theorem tyA11 : aggT Try.prog 11 = some false := by kernel_rfl
@[simp] theorem tyZ11 : zeroT Try.prog 11 = some [.str ByteArray.empty] := by kernel_rfl
@[simp] theorem tyV11 : zeroV Try.prog 11 = some (.str ByteArray.empty) := by kernel_rfl
@[simp] theorem tyP11 : placesT Try.prog 11 = none := by kernel_rfl
@[simp] theorem tyU24 : Try.prog.underlying 24 = some (.slice 38) := by kernel_rfl
@[simp] theorem tyS24 : sizeT Try.prog 24 = some 1 := by kernel_rfl
@[simp] theorem tyB24 : bytesT Try.prog 24 = some 24 := by kernel_rfl
@[simp] theorem tyA24 : aggT Try.prog 24 = some false := by kernel_rfl
@[simp] theorem tyZ24 : zeroT Try.prog 24 = some [.nilSlice] := by kernel_rfl
@[simp] theorem tyV24 : zeroV Try.prog 24 = some (.nilSlice) := by kernel_rfl
@[simp] theorem tyE24 : sliceT Try.prog 24 = some 38 := by kernel_rfl
@[simp] theorem tyP24 : placesT Try.prog 24 = none := by kernel_rfl
@[simp] theorem tyU34 : Try.prog.underlying 34 = some (.slice 5) := by kernel_rfl
@[simp] theorem tyS34 : sizeT Try.prog 34 = some 1 := by kernel_rfl
@[simp] theorem tyB34 : bytesT Try.prog 34 = some 24 := by kernel_rfl
@[simp] theorem tyA34 : aggT Try.prog 34 = some false := by kernel_rfl
@[simp] theorem tyZ34 : zeroT Try.prog 34 = some [.nilSlice] := by kernel_rfl
@[simp] theorem tyV34 : zeroV Try.prog 34 = some (.nilSlice) := by kernel_rfl
@[simp] theorem tyE34 : sliceT Try.prog 34 = some 5 := by kernel_rfl
@[simp] theorem tyP34 : placesT Try.prog 34 = none := by kernel_rfl
@[simp] theorem tyS37 : sizeT Try.prog 37 = some 6 := by kernel_rfl
@[simp] theorem tyB37 : bytesT Try.prog 37 = some 48 := by kernel_rfl
@[simp] theorem tyA37 : aggT Try.prog 37 = some true := by kernel_rfl
@[simp] theorem tyZ37 : zeroT Try.prog 37 = some [.int .i64 0, .int .i64 0, .int .i64 0, .int .i64 0, .int .i64 0, .bool false] := by kernel_rfl
@[simp] theorem tyV37 : zeroV Try.prog 37 = some (.agg [.int .i64 0, .int .i64 0, .int .i64 0, .int .i64 0, .int .i64 0, .bool false]) := by kernel_rfl
@[simp] theorem tyP37 : placesT Try.prog 37 = some [(0, 1), (1, 1), (2, 1), (3, 1), (4, 1), (5, 1)] := by kernel_rfl
@[simp] theorem tyF37_0 : fieldT Try.prog 37 0 = some (0, 3) := by kernel_rfl
@[simp] theorem tyF37_1 : fieldT Try.prog 37 1 = some (1, 3) := by kernel_rfl
@[simp] theorem tyF37_2 : fieldT Try.prog 37 2 = some (2, 3) := by kernel_rfl
@[simp] theorem tyF37_3 : fieldT Try.prog 37 3 = some (3, 3) := by kernel_rfl
@[simp] theorem tyF37_4 : fieldT Try.prog 37 4 = some (4, 3) := by kernel_rfl
@[simp] theorem tyF37_5 : fieldT Try.prog 37 5 = some (5, 4) := by kernel_rfl
@[simp] theorem tyS38 : sizeT Try.prog 38 = some 6 := by kernel_rfl
@[simp] theorem tyB38 : bytesT Try.prog 38 = some 48 := by kernel_rfl
@[simp] theorem tyA38 : aggT Try.prog 38 = some true := by kernel_rfl
@[simp] theorem tyZ38 : zeroT Try.prog 38 = some [.int .i64 0, .int .i64 0, .int .i64 0, .int .i64 0, .int .i64 0, .bool false] := by kernel_rfl
@[simp] theorem tyV38 : zeroV Try.prog 38 = some (.agg [.int .i64 0, .int .i64 0, .int .i64 0, .int .i64 0, .int .i64 0, .bool false]) := by kernel_rfl
@[simp] theorem tyP38 : placesT Try.prog 38 = some [(0, 1), (1, 1), (2, 1), (3, 1), (4, 1), (5, 1)] := by kernel_rfl
@[simp] theorem tyF38_0 : fieldT Try.prog 38 0 = some (0, 3) := by kernel_rfl
@[simp] theorem tyF38_1 : fieldT Try.prog 38 1 = some (1, 3) := by kernel_rfl
@[simp] theorem tyF38_2 : fieldT Try.prog 38 2 = some (2, 3) := by kernel_rfl
@[simp] theorem tyF38_3 : fieldT Try.prog 38 3 = some (3, 3) := by kernel_rfl
@[simp] theorem tyF38_4 : fieldT Try.prog 38 4 = some (4, 3) := by kernel_rfl
@[simp] theorem tyF38_5 : fieldT Try.prog 38 5 = some (5, 4) := by kernel_rfl
@[simp] theorem tyU60 : Try.prog.underlying 60 = some (.slice 3) := by kernel_rfl
@[simp] theorem tyS60 : sizeT Try.prog 60 = some 1 := by kernel_rfl
@[simp] theorem tyB60 : bytesT Try.prog 60 = some 24 := by kernel_rfl
@[simp] theorem tyA60 : aggT Try.prog 60 = some false := by kernel_rfl
@[simp] theorem tyZ60 : zeroT Try.prog 60 = some [.nilSlice] := by kernel_rfl
@[simp] theorem tyV60 : zeroV Try.prog 60 = some (.nilSlice) := by kernel_rfl
@[simp] theorem tyE60 : sliceT Try.prog 60 = some 3 := by kernel_rfl
@[simp] theorem tyP60 : placesT Try.prog 60 = none := by kernel_rfl
@[simp] theorem tyU61 : Try.prog.underlying 61 = some (.slice 72) := by kernel_rfl
@[simp] theorem tyS61 : sizeT Try.prog 61 = some 1 := by kernel_rfl
@[simp] theorem tyB61 : bytesT Try.prog 61 = some 24 := by kernel_rfl
@[simp] theorem tyA61 : aggT Try.prog 61 = some false := by kernel_rfl
@[simp] theorem tyZ61 : zeroT Try.prog 61 = some [.nilSlice] := by kernel_rfl
@[simp] theorem tyV61 : zeroV Try.prog 61 = some (.nilSlice) := by kernel_rfl
@[simp] theorem tyE61 : sliceT Try.prog 61 = some 72 := by kernel_rfl
@[simp] theorem tyP61 : placesT Try.prog 61 = none := by kernel_rfl
@[simp] theorem tyU70 : Try.prog.underlying 70 = some (.slice 94) := by kernel_rfl
@[simp] theorem tyS70 : sizeT Try.prog 70 = some 1 := by kernel_rfl
@[simp] theorem tyB70 : bytesT Try.prog 70 = some 24 := by kernel_rfl
@[simp] theorem tyA70 : aggT Try.prog 70 = some false := by kernel_rfl
@[simp] theorem tyZ70 : zeroT Try.prog 70 = some [.nilSlice] := by kernel_rfl
@[simp] theorem tyV70 : zeroV Try.prog 70 = some (.nilSlice) := by kernel_rfl
@[simp] theorem tyE70 : sliceT Try.prog 70 = some 94 := by kernel_rfl
@[simp] theorem tyP70 : placesT Try.prog 70 = none := by kernel_rfl
@[simp] theorem tyS71 : sizeT Try.prog 71 = some 8 := by kernel_rfl
@[simp] theorem tyB71 : bytesT Try.prog 71 = some 112 := by kernel_rfl
@[simp] theorem tyA71 : aggT Try.prog 71 = some true := by kernel_rfl
@[simp] theorem tyZ71 : zeroT Try.prog 71 = some [.int .i64 0, .int .i64 0, .int .i64 0, .int .i64 0, .bool false, .nilSlice, .nilSlice, .nilSlice] := by kernel_rfl
@[simp] theorem tyV71 : zeroV Try.prog 71 = some (.agg [.int .i64 0, .int .i64 0, .int .i64 0, .int .i64 0, .bool false, .nilSlice, .nilSlice, .nilSlice]) := by kernel_rfl
@[simp] theorem tyP71 : placesT Try.prog 71 = some [(0, 1), (1, 1), (2, 1), (3, 1), (4, 1), (5, 1), (6, 1), (7, 1)] := by kernel_rfl
@[simp] theorem tyF71_0 : fieldT Try.prog 71 0 = some (0, 3) := by kernel_rfl
@[simp] theorem tyF71_1 : fieldT Try.prog 71 1 = some (1, 3) := by kernel_rfl
@[simp] theorem tyF71_2 : fieldT Try.prog 71 2 = some (2, 3) := by kernel_rfl
@[simp] theorem tyF71_3 : fieldT Try.prog 71 3 = some (3, 3) := by kernel_rfl
@[simp] theorem tyF71_4 : fieldT Try.prog 71 4 = some (4, 4) := by kernel_rfl
@[simp] theorem tyF71_5 : fieldT Try.prog 71 5 = some (5, 34) := by kernel_rfl
@[simp] theorem tyF71_6 : fieldT Try.prog 71 6 = some (6, 34) := by kernel_rfl
@[simp] theorem tyF71_7 : fieldT Try.prog 71 7 = some (7, 70) := by kernel_rfl
@[simp] theorem tyS72 : sizeT Try.prog 72 = some 8 := by kernel_rfl
@[simp] theorem tyB72 : bytesT Try.prog 72 = some 112 := by kernel_rfl
@[simp] theorem tyA72 : aggT Try.prog 72 = some true := by kernel_rfl
@[simp] theorem tyZ72 : zeroT Try.prog 72 = some [.int .i64 0, .int .i64 0, .int .i64 0, .int .i64 0, .bool false, .nilSlice, .nilSlice, .nilSlice] := by kernel_rfl
@[simp] theorem tyV72 : zeroV Try.prog 72 = some (.agg [.int .i64 0, .int .i64 0, .int .i64 0, .int .i64 0, .bool false, .nilSlice, .nilSlice, .nilSlice]) := by kernel_rfl
@[simp] theorem tyP72 : placesT Try.prog 72 = some [(0, 1), (1, 1), (2, 1), (3, 1), (4, 1), (5, 1), (6, 1), (7, 1)] := by kernel_rfl
@[simp] theorem tyF72_0 : fieldT Try.prog 72 0 = some (0, 3) := by kernel_rfl
@[simp] theorem tyF72_1 : fieldT Try.prog 72 1 = some (1, 3) := by kernel_rfl
@[simp] theorem tyF72_2 : fieldT Try.prog 72 2 = some (2, 3) := by kernel_rfl
@[simp] theorem tyF72_3 : fieldT Try.prog 72 3 = some (3, 3) := by kernel_rfl
@[simp] theorem tyF72_4 : fieldT Try.prog 72 4 = some (4, 4) := by kernel_rfl
@[simp] theorem tyF72_5 : fieldT Try.prog 72 5 = some (5, 34) := by kernel_rfl
@[simp] theorem tyF72_6 : fieldT Try.prog 72 6 = some (6, 34) := by kernel_rfl
@[simp] theorem tyF72_7 : fieldT Try.prog 72 7 = some (7, 70) := by kernel_rfl
@[simp] theorem tyS93 : sizeT Try.prog 93 = some 2 := by kernel_rfl
@[simp] theorem tyB93 : bytesT Try.prog 93 = some 16 := by kernel_rfl
@[simp] theorem tyA93 : aggT Try.prog 93 = some true := by kernel_rfl
@[simp] theorem tyZ93 : zeroT Try.prog 93 = some [.int .i64 0, .int .i64 0] := by kernel_rfl
@[simp] theorem tyV93 : zeroV Try.prog 93 = some (.agg [.int .i64 0, .int .i64 0]) := by kernel_rfl
@[simp] theorem tyP93 : placesT Try.prog 93 = some [(0, 1), (1, 1)] := by kernel_rfl
@[simp] theorem tyF93_0 : fieldT Try.prog 93 0 = some (0, 3) := by kernel_rfl
@[simp] theorem tyF93_1 : fieldT Try.prog 93 1 = some (1, 3) := by kernel_rfl
@[simp] theorem tyS94 : sizeT Try.prog 94 = some 2 := by kernel_rfl
@[simp] theorem tyB94 : bytesT Try.prog 94 = some 16 := by kernel_rfl
@[simp] theorem tyA94 : aggT Try.prog 94 = some true := by kernel_rfl
@[simp] theorem tyZ94 : zeroT Try.prog 94 = some [.int .i64 0, .int .i64 0] := by kernel_rfl
@[simp] theorem tyV94 : zeroV Try.prog 94 = some (.agg [.int .i64 0, .int .i64 0]) := by kernel_rfl
@[simp] theorem tyP94 : placesT Try.prog 94 = some [(0, 1), (1, 1)] := by kernel_rfl
@[simp] theorem tyF94_0 : fieldT Try.prog 94 0 = some (0, 3) := by kernel_rfl
@[simp] theorem tyF94_1 : fieldT Try.prog 94 1 = some (1, 3) := by kernel_rfl
@[simp] theorem tyU156 : Try.prog.underlying 156 = some (.pointer 259) := by kernel_rfl
@[simp] theorem tyS156 : sizeT Try.prog 156 = some 1 := by kernel_rfl
@[simp] theorem tyB156 : bytesT Try.prog 156 = some 8 := by kernel_rfl
@[simp] theorem tyA156 : aggT Try.prog 156 = some false := by kernel_rfl
@[simp] theorem tyZ156 : zeroT Try.prog 156 = some [.nilPtr] := by kernel_rfl
@[simp] theorem tyV156 : zeroV Try.prog 156 = some (.nilPtr) := by kernel_rfl
@[simp] theorem tyP156 : placesT Try.prog 156 = none := by kernel_rfl
@[simp] theorem tyU180 : Try.prog.underlying 180 = some (.int .u64) := by kernel_rfl
@[simp] theorem tyS180 : sizeT Try.prog 180 = some 1 := by kernel_rfl
@[simp] theorem tyB180 : bytesT Try.prog 180 = some 8 := by kernel_rfl
@[simp] theorem tyA180 : aggT Try.prog 180 = some false := by kernel_rfl
@[simp] theorem tyZ180 : zeroT Try.prog 180 = some [.int .u64 0] := by kernel_rfl
@[simp] theorem tyV180 : zeroV Try.prog 180 = some (.int .u64 0) := by kernel_rfl
@[simp] theorem tyP180 : placesT Try.prog 180 = none := by kernel_rfl
@[simp] theorem tyU181 : Try.prog.underlying 181 = some (.pointer 183) := by kernel_rfl
@[simp] theorem tyS181 : sizeT Try.prog 181 = some 1 := by kernel_rfl
@[simp] theorem tyB181 : bytesT Try.prog 181 = some 8 := by kernel_rfl
@[simp] theorem tyA181 : aggT Try.prog 181 = some false := by kernel_rfl
@[simp] theorem tyZ181 : zeroT Try.prog 181 = some [.nilPtr] := by kernel_rfl
@[simp] theorem tyV181 : zeroV Try.prog 181 = some (.nilPtr) := by kernel_rfl
@[simp] theorem tyP181 : placesT Try.prog 181 = none := by kernel_rfl
@[simp] theorem tyS182 : sizeT Try.prog 182 = some 3 := by kernel_rfl
@[simp] theorem tyB182 : bytesT Try.prog 182 = some 40 := by kernel_rfl
@[simp] theorem tyA182 : aggT Try.prog 182 = some true := by kernel_rfl
@[simp] theorem tyZ182 : zeroT Try.prog 182 = some [.nilSlice, .int .i64 0, .bool false] := by kernel_rfl
@[simp] theorem tyV182 : zeroV Try.prog 182 = some (.agg [.nilSlice, .int .i64 0, .bool false]) := by kernel_rfl
@[simp] theorem tyP182 : placesT Try.prog 182 = some [(0, 1), (1, 1), (2, 1)] := by kernel_rfl
@[simp] theorem tyF182_0 : fieldT Try.prog 182 0 = some (0, 34) := by kernel_rfl
@[simp] theorem tyF182_1 : fieldT Try.prog 182 1 = some (1, 3) := by kernel_rfl
@[simp] theorem tyF182_2 : fieldT Try.prog 182 2 = some (2, 4) := by kernel_rfl
@[simp] theorem tyS183 : sizeT Try.prog 183 = some 3 := by kernel_rfl
@[simp] theorem tyB183 : bytesT Try.prog 183 = some 40 := by kernel_rfl
@[simp] theorem tyA183 : aggT Try.prog 183 = some true := by kernel_rfl
@[simp] theorem tyZ183 : zeroT Try.prog 183 = some [.nilSlice, .int .i64 0, .bool false] := by kernel_rfl
@[simp] theorem tyV183 : zeroV Try.prog 183 = some (.agg [.nilSlice, .int .i64 0, .bool false]) := by kernel_rfl
@[simp] theorem tyP183 : placesT Try.prog 183 = some [(0, 1), (1, 1), (2, 1)] := by kernel_rfl
@[simp] theorem tyF183_0 : fieldT Try.prog 183 0 = some (0, 34) := by kernel_rfl
@[simp] theorem tyF183_1 : fieldT Try.prog 183 1 = some (1, 3) := by kernel_rfl
@[simp] theorem tyF183_2 : fieldT Try.prog 183 2 = some (2, 4) := by kernel_rfl
@[simp] theorem tyU186 : Try.prog.underlying 186 = some (.pointer 188) := by kernel_rfl
@[simp] theorem tyS186 : sizeT Try.prog 186 = some 1 := by kernel_rfl
@[simp] theorem tyB186 : bytesT Try.prog 186 = some 8 := by kernel_rfl
@[simp] theorem tyA186 : aggT Try.prog 186 = some false := by kernel_rfl
@[simp] theorem tyZ186 : zeroT Try.prog 186 = some [.nilPtr] := by kernel_rfl
@[simp] theorem tyV186 : zeroV Try.prog 186 = some (.nilPtr) := by kernel_rfl
@[simp] theorem tyP186 : placesT Try.prog 186 = none := by kernel_rfl
@[simp] theorem tyS187 : sizeT Try.prog 187 = some 3 := by kernel_rfl
@[simp] theorem tyB187 : bytesT Try.prog 187 = some 40 := by kernel_rfl
@[simp] theorem tyA187 : aggT Try.prog 187 = some true := by kernel_rfl
@[simp] theorem tyZ187 : zeroT Try.prog 187 = some [.nilSlice, .int .i64 0, .int .i64 0] := by kernel_rfl
@[simp] theorem tyV187 : zeroV Try.prog 187 = some (.agg [.nilSlice, .int .i64 0, .int .i64 0]) := by kernel_rfl
@[simp] theorem tyP187 : placesT Try.prog 187 = some [(0, 1), (1, 1), (2, 1)] := by kernel_rfl
@[simp] theorem tyF187_0 : fieldT Try.prog 187 0 = some (0, 34) := by kernel_rfl
@[simp] theorem tyF187_1 : fieldT Try.prog 187 1 = some (1, 3) := by kernel_rfl
@[simp] theorem tyF187_2 : fieldT Try.prog 187 2 = some (2, 3) := by kernel_rfl
@[simp] theorem tyS188 : sizeT Try.prog 188 = some 3 := by kernel_rfl
@[simp] theorem tyB188 : bytesT Try.prog 188 = some 40 := by kernel_rfl
@[simp] theorem tyA188 : aggT Try.prog 188 = some true := by kernel_rfl
@[simp] theorem tyZ188 : zeroT Try.prog 188 = some [.nilSlice, .int .i64 0, .int .i64 0] := by kernel_rfl
@[simp] theorem tyV188 : zeroV Try.prog 188 = some (.agg [.nilSlice, .int .i64 0, .int .i64 0]) := by kernel_rfl
@[simp] theorem tyP188 : placesT Try.prog 188 = some [(0, 1), (1, 1), (2, 1)] := by kernel_rfl
@[simp] theorem tyF188_0 : fieldT Try.prog 188 0 = some (0, 34) := by kernel_rfl
@[simp] theorem tyF188_1 : fieldT Try.prog 188 1 = some (1, 3) := by kernel_rfl
@[simp] theorem tyF188_2 : fieldT Try.prog 188 2 = some (2, 3) := by kernel_rfl
@[simp] theorem tyS196 : sizeT Try.prog 196 = some 6 := by kernel_rfl
@[simp] theorem tyB196 : bytesT Try.prog 196 = some 6 := by kernel_rfl
@[simp] theorem tyA196 : aggT Try.prog 196 = some true := by kernel_rfl
@[simp] theorem tyZ196 : zeroT Try.prog 196 = some [.bool false, .bool false, .bool false, .bool false, .bool false, .bool false] := by kernel_rfl
@[simp] theorem tyV196 : zeroV Try.prog 196 = some (.agg [.bool false, .bool false, .bool false, .bool false, .bool false, .bool false]) := by kernel_rfl
@[simp] theorem tyP196 : placesT Try.prog 196 = some [(0, 1), (1, 1), (2, 1), (3, 1), (4, 1), (5, 1)] := by kernel_rfl
@[simp] theorem tyF196_0 : fieldT Try.prog 196 0 = some (0, 4) := by kernel_rfl
@[simp] theorem tyF196_1 : fieldT Try.prog 196 1 = some (1, 4) := by kernel_rfl
@[simp] theorem tyF196_2 : fieldT Try.prog 196 2 = some (2, 4) := by kernel_rfl
@[simp] theorem tyF196_3 : fieldT Try.prog 196 3 = some (3, 4) := by kernel_rfl
@[simp] theorem tyF196_4 : fieldT Try.prog 196 4 = some (4, 4) := by kernel_rfl
@[simp] theorem tyF196_5 : fieldT Try.prog 196 5 = some (5, 4) := by kernel_rfl
@[simp] theorem tyS197 : sizeT Try.prog 197 = some 6 := by kernel_rfl
@[simp] theorem tyB197 : bytesT Try.prog 197 = some 6 := by kernel_rfl
@[simp] theorem tyA197 : aggT Try.prog 197 = some true := by kernel_rfl
@[simp] theorem tyZ197 : zeroT Try.prog 197 = some [.bool false, .bool false, .bool false, .bool false, .bool false, .bool false] := by kernel_rfl
@[simp] theorem tyV197 : zeroV Try.prog 197 = some (.agg [.bool false, .bool false, .bool false, .bool false, .bool false, .bool false]) := by kernel_rfl
@[simp] theorem tyP197 : placesT Try.prog 197 = some [(0, 1), (1, 1), (2, 1), (3, 1), (4, 1), (5, 1)] := by kernel_rfl
@[simp] theorem tyF197_0 : fieldT Try.prog 197 0 = some (0, 4) := by kernel_rfl
@[simp] theorem tyF197_1 : fieldT Try.prog 197 1 = some (1, 4) := by kernel_rfl
@[simp] theorem tyF197_2 : fieldT Try.prog 197 2 = some (2, 4) := by kernel_rfl
@[simp] theorem tyF197_3 : fieldT Try.prog 197 3 = some (3, 4) := by kernel_rfl
@[simp] theorem tyF197_4 : fieldT Try.prog 197 4 = some (4, 4) := by kernel_rfl
@[simp] theorem tyF197_5 : fieldT Try.prog 197 5 = some (5, 4) := by kernel_rfl
@[simp] theorem tyS221 : sizeT Try.prog 221 = some 9 := by kernel_rfl
@[simp] theorem tyB221 : bytesT Try.prog 221 = some 32 := by kernel_rfl
@[simp] theorem tyA221 : aggT Try.prog 221 = some true := by kernel_rfl
@[simp] theorem tyZ221 : zeroT Try.prog 221 = some [.bool false, .bool false, .bool false, .bool false, .bool false, .bool false, .int .i64 0, .int .i64 0, .int .i64 0] := by kernel_rfl
@[simp] theorem tyV221 : zeroV Try.prog 221 = some (.agg [.bool false, .bool false, .bool false, .bool false, .bool false, .bool false, .int .i64 0, .int .i64 0, .int .i64 0]) := by kernel_rfl
@[simp] theorem tyP221 : placesT Try.prog 221 = some [(0, 1), (1, 1), (2, 1), (3, 1), (4, 1), (5, 1), (6, 1), (7, 1), (8, 1)] := by kernel_rfl
@[simp] theorem tyF221_0 : fieldT Try.prog 221 0 = some (0, 4) := by kernel_rfl
@[simp] theorem tyF221_1 : fieldT Try.prog 221 1 = some (1, 4) := by kernel_rfl
@[simp] theorem tyF221_2 : fieldT Try.prog 221 2 = some (2, 4) := by kernel_rfl
@[simp] theorem tyF221_3 : fieldT Try.prog 221 3 = some (3, 4) := by kernel_rfl
@[simp] theorem tyF221_4 : fieldT Try.prog 221 4 = some (4, 4) := by kernel_rfl
@[simp] theorem tyF221_5 : fieldT Try.prog 221 5 = some (5, 4) := by kernel_rfl
@[simp] theorem tyF221_6 : fieldT Try.prog 221 6 = some (6, 3) := by kernel_rfl
@[simp] theorem tyF221_7 : fieldT Try.prog 221 7 = some (7, 3) := by kernel_rfl
@[simp] theorem tyF221_8 : fieldT Try.prog 221 8 = some (8, 3) := by kernel_rfl
@[simp] theorem tyS222 : sizeT Try.prog 222 = some 9 := by kernel_rfl
@[simp] theorem tyB222 : bytesT Try.prog 222 = some 32 := by kernel_rfl
@[simp] theorem tyA222 : aggT Try.prog 222 = some true := by kernel_rfl
@[simp] theorem tyZ222 : zeroT Try.prog 222 = some [.bool false, .bool false, .bool false, .bool false, .bool false, .bool false, .int .i64 0, .int .i64 0, .int .i64 0] := by kernel_rfl
@[simp] theorem tyV222 : zeroV Try.prog 222 = some (.agg [.bool false, .bool false, .bool false, .bool false, .bool false, .bool false, .int .i64 0, .int .i64 0, .int .i64 0]) := by kernel_rfl
@[simp] theorem tyP222 : placesT Try.prog 222 = some [(0, 1), (1, 1), (2, 1), (3, 1), (4, 1), (5, 1), (6, 1), (7, 1), (8, 1)] := by kernel_rfl
@[simp] theorem tyF222_0 : fieldT Try.prog 222 0 = some (0, 4) := by kernel_rfl
@[simp] theorem tyF222_1 : fieldT Try.prog 222 1 = some (1, 4) := by kernel_rfl
@[simp] theorem tyF222_2 : fieldT Try.prog 222 2 = some (2, 4) := by kernel_rfl
@[simp] theorem tyF222_3 : fieldT Try.prog 222 3 = some (3, 4) := by kernel_rfl
@[simp] theorem tyF222_4 : fieldT Try.prog 222 4 = some (4, 4) := by kernel_rfl
@[simp] theorem tyF222_5 : fieldT Try.prog 222 5 = some (5, 4) := by kernel_rfl
@[simp] theorem tyF222_6 : fieldT Try.prog 222 6 = some (6, 3) := by kernel_rfl
@[simp] theorem tyF222_7 : fieldT Try.prog 222 7 = some (7, 3) := by kernel_rfl
@[simp] theorem tyF222_8 : fieldT Try.prog 222 8 = some (8, 3) := by kernel_rfl
@[simp] theorem tyS258 : sizeT Try.prog 258 = some 3 := by kernel_rfl
@[simp] theorem tyB258 : bytesT Try.prog 258 = some 40 := by kernel_rfl
@[simp] theorem tyA258 : aggT Try.prog 258 = some true := by kernel_rfl
@[simp] theorem tyZ258 : zeroT Try.prog 258 = some [.nilSlice, .int .i64 0, .int .i64 0] := by kernel_rfl
@[simp] theorem tyV258 : zeroV Try.prog 258 = some (.agg [.nilSlice, .int .i64 0, .int .i64 0]) := by kernel_rfl
@[simp] theorem tyP258 : placesT Try.prog 258 = some [(0, 1), (1, 1), (2, 1)] := by kernel_rfl
@[simp] theorem tyF258_0 : fieldT Try.prog 258 0 = some (0, 34) := by kernel_rfl
@[simp] theorem tyF258_1 : fieldT Try.prog 258 1 = some (1, 3) := by kernel_rfl
@[simp] theorem tyF258_2 : fieldT Try.prog 258 2 = some (2, 3) := by kernel_rfl
@[simp] theorem tyS259 : sizeT Try.prog 259 = some 3 := by kernel_rfl
@[simp] theorem tyB259 : bytesT Try.prog 259 = some 40 := by kernel_rfl
@[simp] theorem tyA259 : aggT Try.prog 259 = some true := by kernel_rfl
@[simp] theorem tyZ259 : zeroT Try.prog 259 = some [.nilSlice, .int .i64 0, .int .i64 0] := by kernel_rfl
@[simp] theorem tyV259 : zeroV Try.prog 259 = some (.agg [.nilSlice, .int .i64 0, .int .i64 0]) := by kernel_rfl
@[simp] theorem tyP259 : placesT Try.prog 259 = some [(0, 1), (1, 1), (2, 1)] := by kernel_rfl
@[simp] theorem tyF259_0 : fieldT Try.prog 259 0 = some (0, 34) := by kernel_rfl
@[simp] theorem tyF259_1 : fieldT Try.prog 259 1 = some (1, 3) := by kernel_rfl
@[simp] theorem tyF259_2 : fieldT Try.prog 259 2 = some (2, 3) := by kernel_rfl
@[simp] theorem tyU283 : Try.prog.underlying 283 = some (.pointer 72) := by kernel_rfl
@[simp] theorem tyS283 : sizeT Try.prog 283 = some 1 := by kernel_rfl
@[simp] theorem tyB283 : bytesT Try.prog 283 = some 8 := by kernel_rfl
@[simp] theorem tyA283 : aggT Try.prog 283 = some false := by kernel_rfl
@[simp] theorem tyZ283 : zeroT Try.prog 283 = some [.nilPtr] := by kernel_rfl
@[simp] theorem tyV283 : zeroV Try.prog 283 = some (.nilPtr) := by kernel_rfl
@[simp] theorem tyP283 : placesT Try.prog 283 = none := by kernel_rfl
@[simp] theorem tyU288 : Try.prog.underlying 288 = some (.map 3 197) := by kernel_rfl
@[simp] theorem tyS288 : sizeT Try.prog 288 = some 1 := by kernel_rfl
@[simp] theorem tyB288 : bytesT Try.prog 288 = some 8 := by kernel_rfl
@[simp] theorem tyA288 : aggT Try.prog 288 = some false := by kernel_rfl
@[simp] theorem tyZ288 : zeroT Try.prog 288 = some [.nilMap] := by kernel_rfl
@[simp] theorem tyV288 : zeroV Try.prog 288 = some (.nilMap) := by kernel_rfl
@[simp] theorem tyP288 : placesT Try.prog 288 = none := by kernel_rfl
@[simp] theorem tyU305 : Try.prog.underlying 305 = some (.int .u64) := by kernel_rfl
@[simp] theorem tyS305 : sizeT Try.prog 305 = some 1 := by kernel_rfl
@[simp] theorem tyB305 : bytesT Try.prog 305 = some 8 := by kernel_rfl
@[simp] theorem tyA305 : aggT Try.prog 305 = some false := by kernel_rfl
@[simp] theorem tyZ305 : zeroT Try.prog 305 = some [.int .u64 0] := by kernel_rfl
@[simp] theorem tyV305 : zeroV Try.prog 305 = some (.int .u64 0) := by kernel_rfl
@[simp] theorem tyP305 : placesT Try.prog 305 = none := by kernel_rfl
@[simp] theorem tyU310 : Try.prog.underlying 310 = some (.array 9 5) := by kernel_rfl
@[simp] theorem tyS310 : sizeT Try.prog 310 = some 9 := by kernel_rfl
@[simp] theorem tyB310 : bytesT Try.prog 310 = some 9 := by kernel_rfl
@[simp] theorem tyA310 : aggT Try.prog 310 = some true := by kernel_rfl
@[simp] theorem tyZ310 : zeroT Try.prog 310 = some [.int .u8 0, .int .u8 0, .int .u8 0, .int .u8 0, .int .u8 0, .int .u8 0, .int .u8 0, .int .u8 0, .int .u8 0] := by kernel_rfl
@[simp] theorem tyV310 : zeroV Try.prog 310 = some (.agg [.int .u8 0, .int .u8 0, .int .u8 0, .int .u8 0, .int .u8 0, .int .u8 0, .int .u8 0, .int .u8 0, .int .u8 0]) := by kernel_rfl
@[simp] theorem tyP310 : placesT Try.prog 310 = none := by kernel_rfl
@[simp] theorem tyR310 : arrT Try.prog 310 = some (9, 5) := by kernel_rfl
@[simp] theorem tyM250_acked : mthA Try.prog 250 "loop.example/g00012/impl.acked" = some 320 := by kernel_rfl
@[simp] theorem tyM250_lost : mthA Try.prog 250 "loop.example/g00012/impl.lost" = some 321 := by kernel_rfl
@[simp] theorem tyM250_tells : mthA Try.prog 250 "loop.example/g00012/impl.tells" = some 322 := by kernel_rfl
@[simp] theorem tyM253_acked : mthA Try.prog 253 "loop.example/g00012/impl.acked" = some 323 := by kernel_rfl
@[simp] theorem tyM253_lost : mthA Try.prog 253 "loop.example/g00012/impl.lost" = some 325 := by kernel_rfl
@[simp] theorem tyM253_tells : mthA Try.prog 253 "loop.example/g00012/impl.tells" = some 326 := by kernel_rfl
/-! 9: laws.FnFrames -/
theorem ok9 : goodFn Try.f9 = true := by kernel_rfl
theorem lp9_250 (call : CallF) (n : Nat) (τ : Tm) (H : AH) : evCode Try.prog call n (lp Try.prog 9 250) τ H = evN Try.prog call n 9 500 (sub (Try.f9.body.getD .skip) 200 500) τ H := lp_at Try.func9 250 (by decide) 8 (by decide) (by kernel_rfl) call n τ H
@[simp] theorem dr9_2050556 : dr Try.prog 9 2050556 = .seq [(4, 0)] := (dr_eq Try.func9 2050556).trans (by kernel_rfl)
theorem lp9_4090 (call : CallF) (n : Nat) (τ : Tm) (H : AH) : evCode Try.prog call n (lp Try.prog 9 4090) τ H = evN Try.prog call n 9 8180 (sub (Try.f9.body.getD .skip) 200 8180) τ H := lp_at Try.func9 4090 (by decide) 12 (by decide) (by kernel_rfl) call n τ H
@[simp] theorem dr9_130888 : dr Try.prog 9 130888 = .seq [] := (dr_eq Try.func9 130888).trans (by kernel_rfl)
/-! 38: laws.sameFrame -/
theorem ok38 : goodFn Try.f38 = true := by kernel_rfl
/-! 40: laws.toByteS -/
theorem ok40 : goodFn Try.f40 = true := by kernel_rfl
theorem lp40_58 (call : CallF) (n : Nat) (τ : Tm) (H : AH) : evCode Try.prog call n (lp Try.prog 40 58) τ H = evN Try.prog call n 40 116 (sub (Try.f40.body.getD .skip) 200 116) τ H := lp_at Try.func40 58 (by decide) 6 (by decide) (by kernel_rfl) call n τ H
/-! 41: impl.ReadFrame -/
theorem ok41 : goodFn Try.f41 = true := by kernel_rfl
@[simp] theorem dr41_1012 : dr Try.prog 41 1012 = .seq [(4, 6)] := (dr_eq Try.func41 1012).trans (by kernel_rfl)
@[simp] theorem dr41_254 : dr Try.prog 41 254 = .seq [(4, 6)] := (dr_eq Try.func41 254).trans (by kernel_rfl)
/-! 42: laws.eqFrame -/
theorem ok42 : goodFn Try.f42 = true := by kernel_rfl
/-! 43: laws.eqByteS -/
theorem ok43 : goodFn Try.f43 = true := by kernel_rfl
theorem lp43_58 (call : CallF) (n : Nat) (τ : Tm) (H : AH) : evCode Try.prog call n (lp Try.prog 43 58) τ H = evN Try.prog call n 43 116 (sub (Try.f43.body.getD .skip) 200 116) τ H := lp_at Try.func43 58 (by decide) 6 (by decide) (by kernel_rfl) call n τ H
@[simp] theorem dr43_1864 : dr Try.prog 43 1864 = .seq [] := (dr_eq Try.func43 1864).trans (by kernel_rfl)
/-! 44: laws.markByteS -/
theorem ok44 : goodFn Try.f44 = true := by kernel_rfl
theorem lp44_26 (call : CallF) (n : Nat) (τ : Tm) (H : AH) : evCode Try.prog call n (lp Try.prog 44 26) τ H = evN Try.prog call n 44 52 (sub (Try.f44.body.getD .skip) 200 52) τ H := lp_at Try.func44 26 (by decide) 5 (by decide) (by kernel_rfl) call n τ H
/-! 45: laws.markFrame -/
theorem ok45 : goodFn Try.f45 = true := by kernel_rfl
/-! 46: laws.heldFrame -/
theorem ok46 : goodFn Try.f46 = true := by kernel_rfl
/-! 47: spec.DrawFrameBytes -/
theorem ok47 : goodFn Try.f47 = true := by kernel_rfl
/-! 48: impl.FrameBytes -/
theorem ok48 : goodFn Try.f48 = true := by kernel_rfl
/-! 49: spec.FrameBytes -/
theorem ok49 : goodFn Try.f49 = true := by kernel_rfl
@[simp] theorem dr49_7870 : dr Try.prog 49 7870 = .seq [(5, 0), (8, 0), (8, 4)] := (dr_eq Try.func49 7870).trans (by kernel_rfl)
@[simp] theorem dr49_31486 : dr Try.prog 49 31486 = .seq [(5, 0)] := (dr_eq Try.func49 31486).trans (by kernel_rfl)
@[simp] theorem dr49_2015230 : dr Try.prog 49 2015230 = .seq [(5, 0)] := (dr_eq Try.func49 2015230).trans (by kernel_rfl)
@[simp] theorem dr49_1031798746 : dr Try.prog 49 1031798746 = .seq [(5, 0), (8, 0), (8, 4)] := (dr_eq Try.func49 1031798746).trans (by kernel_rfl)
@[simp] theorem dr49_257949692 : dr Try.prog 49 257949692 = .flt ⟨[11], [[], [], [], [], [], [], [], [], [], [], [], [], [11], []], [], [(5, 0, []), (8, 0, []), (8, 4, []), (9, 0, []), (9, 4, []), (10, 0, []), (10, 4, [])]⟩ := (dr_eq Try.func49 257949692).trans (by kernel_rfl)
@[simp] theorem dr49_257949693 : dr Try.prog 49 257949693 = .seq [(5, 0)] := (dr_eq Try.func49 257949693).trans (by kernel_rfl)
@[simp] theorem dr49_2063597566 : dr Try.prog 49 2063597566 = .seq [(5, 0), (8, 0), (8, 4)] := (dr_eq Try.func49 2063597566).trans (by kernel_rfl)
/-! 50: impl.FrameOK -/
theorem ok50 : goodFn Try.f50 = true := by kernel_rfl
/-! 51: impl.FrameFits -/
theorem ok51 : goodFn Try.f51 = true := by kernel_rfl
/-! 52: impl.Asks -/
theorem ok52 : goodFn Try.f52 = true := by kernel_rfl
/-! 53: impl.ReadFrames -/
theorem ok53 : goodFn Try.f53 = true := by kernel_rfl
theorem lp53_252 (call : CallF) (n : Nat) (τ : Tm) (H : AH) : evCode Try.prog call n (lp Try.prog 53 252) τ H = evN Try.prog call n 53 504 (sub (Try.f53.body.getD .skip) 200 504) τ H := lp_at Try.func53 252 (by decide) 8 (by decide) (by kernel_rfl) call n τ H
@[simp] theorem dr53_129204 : dr Try.prog 53 129204 = .seq [] := (dr_eq Try.func53 129204).trans (by kernel_rfl)
/-! 54: laws.copied -/
theorem ok54 : goodFn Try.f54 = true := by kernel_rfl
/-! 57: laws.sameRanges -/
theorem ok57 : goodFn Try.f57 = true := by kernel_rfl
theorem lp57_58 (call : CallF) (n : Nat) (τ : Tm) (H : AH) : evCode Try.prog call n (lp Try.prog 57 58) τ H = evN Try.prog call n 57 116 (sub (Try.f57.body.getD .skip) 200 116) τ H := lp_at Try.func57 58 (by decide) 6 (by decide) (by kernel_rfl) call n τ H
@[simp] theorem dr57_1864 : dr Try.prog 57 1864 = .seq [] := (dr_eq Try.func57 1864).trans (by kernel_rfl)
/-! 75: spec.FrameOK -/
theorem ok75 : goodFn Try.f75 = true := by kernel_rfl
/-! 91: laws.same -/
theorem ok91 : goodFn Try.f91 = true := by kernel_rfl
/-! 99: spec.l01Source -/
theorem ok99 : goodFn Try.f99 = true := by kernel_rfl
/-! 100: spec.l01Src).next -/
theorem ok100 : goodFn Try.f100 = true := by kernel_rfl
/-! 101: spec.l01Src).chance -/
theorem ok101 : goodFn Try.f101 = true := by kernel_rfl
/-! 102: spec.l01Src).size -/
theorem ok102 : goodFn Try.f102 = true := by kernel_rfl
/-! 103: spec.l09Odd -/
theorem ok103 : goodFn Try.f103 = true := by kernel_rfl
/-! 121: spec.l01Src).number -/
theorem ok121 : goodFn Try.f121 = true := by kernel_rfl
/-! 122: spec.l04Reader).fixed -/
theorem ok122 : goodFn Try.f122 = true := by kernel_rfl
/-! 123: spec.l05Mark -/
theorem ok123 : goodFn Try.f123 = true := by kernel_rfl
/-! 125: impl.tooLong -/
theorem ok125 : goodFn Try.f125 = true := by kernel_rfl
/-! 126: impl.scanner).frame -/
theorem ok126 : goodFn Try.f126 = true := by kernel_rfl
theorem lp126_4010 (call : CallF) (n : Nat) (τ : Tm) (H : AH) : evCode Try.prog call n (lp Try.prog 126 4010) τ H = evN Try.prog call n 126 8020 (sub (Try.f126.body.getD .skip) 200 8020) τ H := lp_at Try.func126 4010 (by decide) 12 (by decide) (by kernel_rfl) call n τ H
@[simp] theorem dr126_32080 : dr Try.prog 126 32080 = .seq [] := (dr_eq Try.func126 32080).trans (by kernel_rfl)
/-! 127: laws.eqRangeS -/
theorem ok127 : goodFn Try.f127 = true := by kernel_rfl
theorem lp127_58 (call : CallF) (n : Nat) (τ : Tm) (H : AH) : evCode Try.prog call n (lp Try.prog 127 58) τ H = evN Try.prog call n 127 116 (sub (Try.f127.body.getD .skip) 200 116) τ H := lp_at Try.func127 58 (by decide) 6 (by decide) (by kernel_rfl) call n τ H
@[simp] theorem dr127_1864 : dr Try.prog 127 1864 = .seq [] := (dr_eq Try.func127 1864).trans (by kernel_rfl)
/-! 128: laws.markRangeS -/
theorem ok128 : goodFn Try.f128 = true := by kernel_rfl
theorem lp128_26 (call : CallF) (n : Nat) (τ : Tm) (H : AH) : evCode Try.prog call n (lp Try.prog 128 26) τ H = evN Try.prog call n 128 52 (sub (Try.f128.body.getD .skip) 200 52) τ H := lp_at Try.func128 26 (by decide) 5 (by decide) (by kernel_rfl) call n τ H
/-! 129: laws.heldByteS -/
theorem ok129 : goodFn Try.f129 = true := by kernel_rfl
theorem lp129_26 (call : CallF) (n : Nat) (τ : Tm) (H : AH) : evCode Try.prog call n (lp Try.prog 129 26) τ H = evN Try.prog call n 129 52 (sub (Try.f129.body.getD .skip) 200 52) τ H := lp_at Try.func129 26 (by decide) 5 (by decide) (by kernel_rfl) call n τ H
/-! 130: laws.heldRangeS -/
theorem ok130 : goodFn Try.f130 = true := by kernel_rfl
theorem lp130_26 (call : CallF) (n : Nat) (τ : Tm) (H : AH) : evCode Try.prog call n (lp Try.prog 130 26) τ H = evN Try.prog call n 130 52 (sub (Try.f130.body.getD .skip) 200 52) τ H := lp_at Try.func130 26 (by decide) 5 (by decide) (by kernel_rfl) call n τ H
/-! 131: spec.l05DrawFrame -/
theorem ok131 : goodFn Try.f131 = true := by kernel_rfl
@[simp] theorem dr131_510 : dr Try.prog 131 510 = .seq [(2, 12)] := (dr_eq Try.func131 510).trans (by kernel_rfl)
/-! 132: spec.l05Odd -/
theorem ok132 : goodFn Try.f132 = true := by kernel_rfl
@[simp] theorem dr132_7077882 : dr Try.prog 132 7077882 = .seq [(1, 7), (1, 9)] := (dr_eq Try.func132 7077882).trans (by kernel_rfl)
@[simp] theorem dr132_28311546 : dr Try.prog 132 28311546 = .seq [(1, 7), (1, 9)] := (dr_eq Try.func132 28311546).trans (by kernel_rfl)
theorem lp132_226492406 (call : CallF) (n : Nat) (τ : Tm) (H : AH) : evCode Try.prog call n (lp Try.prog 132 226492406) τ H = evN Try.prog call n 132 452984812 (sub (Try.f132.body.getD .skip) 200 452984812) τ H := lp_at Try.func132 226492406 (by decide) 28 (by decide) (by kernel_rfl) call n τ H
/-! 133: impl.frameBytes -/
theorem ok133 : goodFn Try.f133 = true := by kernel_rfl
theorem lp133_30174 (call : CallF) (n : Nat) (τ : Tm) (H : AH) : evCode Try.prog call n (lp Try.prog 133 30174) τ H = evN Try.prog call n 133 60348 (sub (Try.f133.body.getD .skip) 200 60348) τ H := lp_at Try.func133 30174 (by decide) 15 (by decide) (by kernel_rfl) call n τ H
@[simp] theorem dr133_965577 : dr Try.prog 133 965577 = .seq [] := (dr_eq Try.func133 965577).trans (by kernel_rfl)
@[simp] theorem dr133_60414 : dr Try.prog 133 60414 = .seq [(5, 0)] := (dr_eq Try.func133 60414).trans (by kernel_rfl)
@[simp] theorem dr133_7733244 : dr Try.prog 133 7733244 = .seq [] := (dr_eq Try.func133 7733244).trans (by kernel_rfl)
@[simp] theorem dr133_123731964 : dr Try.prog 133 123731964 = .flt ⟨[5, 11], [[], [], [], [], [], [], [5], [], [], [], [], [], [11], []], [], [(8, 0, []), (9, 0, []), (10, 0, [])]⟩ := (dr_eq Try.func133 123731964).trans (by kernel_rfl)
@[simp] theorem dr133_123731965 : dr Try.prog 133 123731965 = .seq [(5, 0)] := (dr_eq Try.func133 123731965).trans (by kernel_rfl)
@[simp] theorem dr133_989855742 : dr Try.prog 133 989855742 = .seq [(8, 0), (8, 6)] := (dr_eq Try.func133 989855742).trans (by kernel_rfl)
@[simp] theorem dr133_3959422974 : dr Try.prog 133 3959422974 = .seq [(5, 0)] := (dr_eq Try.func133 3959422974).trans (by kernel_rfl)
/-! 134: spec.l05AckBytes -/
theorem ok134 : goodFn Try.f134 = true := by kernel_rfl
@[simp] theorem dr134_126 : dr Try.prog 134 126 = .seq [] := (dr_eq Try.func134 126).trans (by kernel_rfl)
theorem lp134_1018 (call : CallF) (n : Nat) (τ : Tm) (H : AH) : evCode Try.prog call n (lp Try.prog 134 1018) τ H = evN Try.prog call n 134 2036 (sub (Try.f134.body.getD .skip) 200 2036) τ H := lp_at Try.func134 1018 (by decide) 10 (by decide) (by kernel_rfl) call n τ H
@[simp] theorem dr134_32584 : dr Try.prog 134 32584 = .seq [] := (dr_eq Try.func134 32584).trans (by kernel_rfl)
@[simp] theorem dr134_32585 : dr Try.prog 134 32585 = .seq [] := (dr_eq Try.func134 32585).trans (by kernel_rfl)
/-! 135: spec.l05N -/
theorem ok135 : goodFn Try.f135 = true := by kernel_rfl
/-! 136: spec.l05Counted -/
theorem ok136 : goodFn Try.f136 = true := by kernel_rfl
/-! 137: impl.shapeOf -/
theorem ok137 : goodFn Try.f137 = true := by kernel_rfl
/-! 138: impl.inVar -/
theorem ok138 : goodFn Try.f138 = true := by kernel_rfl
/-! 139: impl.rangesOK -/
theorem ok139 : goodFn Try.f139 = true := by kernel_rfl
theorem lp139_58 (call : CallF) (n : Nat) (τ : Tm) (H : AH) : evCode Try.prog call n (lp Try.prog 139 58) τ H = evN Try.prog call n 139 116 (sub (Try.f139.body.getD .skip) 200 116) τ H := lp_at Try.func139 58 (by decide) 6 (by decide) (by kernel_rfl) call n τ H
@[simp] theorem dr139_7474 : dr Try.prog 139 7474 = .seq [] := (dr_eq Try.func139 7474).trans (by kernel_rfl)
/-! 141: spec.l05RangesOK -/
theorem ok141 : goodFn Try.f141 = true := by kernel_rfl
theorem lp141_58 (call : CallF) (n : Nat) (τ : Tm) (H : AH) : evCode Try.prog call n (lp Try.prog 141 58) τ H = evN Try.prog call n 141 116 (sub (Try.f141.body.getD .skip) 200 116) τ H := lp_at Try.func141 58 (by decide) 6 (by decide) (by kernel_rfl) call n τ H
@[simp] theorem dr141_3730 : dr Try.prog 141 3730 = .seq [] := (dr_eq Try.func141 3730).trans (by kernel_rfl)
/-! 142: spec.l05Var -/
theorem ok142 : goodFn Try.f142 = true := by kernel_rfl
/-! 153: spec.l03Copy -/
theorem ok153 : goodFn Try.f153 = true := by kernel_rfl
/-! 155: spec.l01Src).bytes -/
theorem ok155 : goodFn Try.f155 = true := by kernel_rfl
theorem lp155_58 (call : CallF) (n : Nat) (τ : Tm) (H : AH) : evCode Try.prog call n (lp Try.prog 155 58) τ H = evN Try.prog call n 155 116 (sub (Try.f155.body.getD .skip) 200 116) τ H := lp_at Try.func155 58 (by decide) 6 (by decide) (by kernel_rfl) call n τ H
/-! 156: spec.l05Kind -/
theorem ok156 : goodFn Try.f156 = true := by kernel_rfl
/-! 157: spec.l04Reader).take -/
theorem ok157 : goodFn Try.f157 = true := by kernel_rfl
@[simp] theorem dr157_12 : dr Try.prog 157 12 = .seq [] := (dr_eq Try.func157 12).trans (by kernel_rfl)
@[simp] theorem dr157_30 : dr Try.prog 157 30 = .seq [] := (dr_eq Try.func157 30).trans (by kernel_rfl)
/-! 158: spec.l04Reader).counted -/
theorem ok158 : goodFn Try.f158 = true := by kernel_rfl
/-! 159: spec.l04Reader).rest -/
theorem ok159 : goodFn Try.f159 = true := by kernel_rfl
@[simp] theorem dr159_6 : dr Try.prog 159 6 = .seq [] := (dr_eq Try.func159 6).trans (by kernel_rfl)
/-! 162: impl.unfixed -/
theorem ok162 : goodFn Try.f162 = true := by kernel_rfl
theorem lp162_58 (call : CallF) (n : Nat) (τ : Tm) (H : AH) : evCode Try.prog call n (lp Try.prog 162 58) τ H = evN Try.prog call n 162 116 (sub (Try.f162.body.getD .skip) 200 116) τ H := lp_at Try.func162 58 (by decide) 6 (by decide) (by kernel_rfl) call n τ H
/-! 163: impl.copied -/
theorem ok163 : goodFn Try.f163 = true := by kernel_rfl
/-! 164: impl.scanner).take -/
theorem ok164 : goodFn Try.f164 = true := by kernel_rfl
@[simp] theorem dr164_28 : dr Try.prog 164 28 = .seq [] := (dr_eq Try.func164 28).trans (by kernel_rfl)
@[simp] theorem dr164_30 : dr Try.prog 164 30 = .seq [] := (dr_eq Try.func164 30).trans (by kernel_rfl)
/-! 165: impl.scanner).octet -/
theorem ok165 : goodFn Try.f165 = true := by kernel_rfl
/-! 166: impl.scanner).counted -/
theorem ok166 : goodFn Try.f166 = true := by kernel_rfl
/-! 167: impl.scanner).rest -/
theorem ok167 : goodFn Try.f167 = true := by kernel_rfl
@[simp] theorem dr167_6 : dr Try.prog 167 6 = .seq [] := (dr_eq Try.func167 6).trans (by kernel_rfl)
/-! 180: impl.addVar -/
theorem ok180 : goodFn Try.f180 = true := by kernel_rfl
@[simp] theorem dr180_126 : dr Try.prog 180 126 = .seq [] := (dr_eq Try.func180 126).trans (by kernel_rfl)
/-! 182: impl.addCounted -/
theorem ok182 : goodFn Try.f182 = true := by kernel_rfl
/-! 186: impl.scanner).number -/
theorem ok186 : goodFn Try.f186 = true := by kernel_rfl
@[simp] theorem dr186_14 : dr Try.prog 186 14 = .seq [] := (dr_eq Try.func186 14).trans (by kernel_rfl)
/-! 187: impl.GetVar -/
theorem ok187 : goodFn Try.f187 = true := by kernel_rfl
@[simp] theorem dr187_254 : dr Try.prog 187 254 = .seq [] := (dr_eq Try.func187 254).trans (by kernel_rfl)
/-! 190: impl.fixed -/
theorem ok190 : goodFn Try.f190 = true := by kernel_rfl
theorem lp190_26 (call : CallF) (n : Nat) (τ : Tm) (H : AH) : evCode Try.prog call n (lp Try.prog 190 26) τ H = evN Try.prog call n 190 52 (sub (Try.f190.body.getD .skip) 200 52) τ H := lp_at Try.func190 26 (by decide) 5 (by decide) (by kernel_rfl) call n τ H
/-! 191: spec.l01Digits -/
theorem ok191 : goodFn Try.f191 = true := by kernel_rfl
/-! 198: spec.l01Src).byte -/
theorem ok198 : goodFn Try.f198 = true := by kernel_rfl
@[simp] theorem dr198_28 : dr Try.prog 198 28 = .seq [] := (dr_eq Try.func198 28).trans (by kernel_rfl)
@[simp] theorem dr198_116 : dr Try.prog 198 116 = .seq [] := (dr_eq Try.func198 116).trans (by kernel_rfl)
@[simp] theorem dr198_234 : dr Try.prog 198 234 = .seq [] := (dr_eq Try.func198 234).trans (by kernel_rfl)
@[simp] theorem dr198_60 : dr Try.prog 198 60 = .seq [] := (dr_eq Try.func198 60).trans (by kernel_rfl)
/-! 214: spec.l01Value -/
theorem ok214 : goodFn Try.f214 = true := by kernel_rfl
theorem lp214_58 (call : CallF) (n : Nat) (τ : Tm) (H : AH) : evCode Try.prog call n (lp Try.prog 214 58) τ H = evN Try.prog call n 214 116 (sub (Try.f214.body.getD .skip) 200 116) τ H := lp_at Try.func214 58 (by decide) 6 (by decide) (by kernel_rfl) call n τ H
/-! 216: spec.l04Reader).variable -/
theorem ok216 : goodFn Try.f216 = true := by kernel_rfl
@[simp] theorem dr216_14 : dr Try.prog 216 14 = .seq [] := (dr_eq Try.func216 14).trans (by kernel_rfl)
/-! 217: spec.l05ReadStream -/
theorem ok217 : goodFn Try.f217 = true := by kernel_rfl
/-! 218: spec.l04Reader).counted49 -/
theorem ok218 : goodFn Try.f218 = true := by kernel_rfl
/-! 219: impl.scanner).ack -/
theorem ok219 : goodFn Try.f219 = true := by kernel_rfl
theorem lp219_2042 (call : CallF) (n : Nat) (τ : Tm) (H : AH) : evCode Try.prog call n (lp Try.prog 219 2042) τ H = evN Try.prog call n 219 4084 (sub (Try.f219.body.getD .skip) 200 4084) τ H := lp_at Try.func219 2042 (by decide) 11 (by decide) (by kernel_rfl) call n τ H
theorem lp219_4094 (call : CallF) (n : Nat) (τ : Tm) (H : AH) : evCode Try.prog call n (lp Try.prog 219 4094) τ H = evN Try.prog call n 219 8188 (sub (Try.f219.body.getD .skip) 200 8188) τ H := lp_at Try.func219 4094 (by decide) 12 (by decide) (by kernel_rfl) call n τ H
@[simp] theorem dr219_65508 : dr Try.prog 219 65508 = .seq [(4, 10)] := (dr_eq Try.func219 65508).trans (by kernel_rfl)
/-! 220: impl.scanner).fail -/
theorem ok220 : goodFn Try.f220 = true := by kernel_rfl
/-! 221: laws.eqRange -/
theorem ok221 : goodFn Try.f221 = true := by kernel_rfl
/-! 222: spec.l01Src).good -/
theorem ok222 : goodFn Try.f222 = true := by kernel_rfl
/-! 223: spec.l05DrawRanges -/
theorem ok223 : goodFn Try.f223 = true := by kernel_rfl
theorem lp223_122 (call : CallF) (n : Nat) (τ : Tm) (H : AH) : evCode Try.prog call n (lp Try.prog 223 122) τ H = evN Try.prog call n 223 244 (sub (Try.f223.body.getD .skip) 200 244) τ H := lp_at Try.func223 122 (by decide) 7 (by decide) (by kernel_rfl) call n τ H
@[simp] theorem dr223_7827 : dr Try.prog 223 7827 = .seq [(1, 5), (1, 7)] := (dr_eq Try.func223 7827).trans (by kernel_rfl)
/-! 224: impl.addVars -/
theorem ok224 : goodFn Try.f224 = true := by kernel_rfl
theorem lp224_26 (call : CallF) (n : Nat) (τ : Tm) (H : AH) : evCode Try.prog call n (lp Try.prog 224 26) τ H = evN Try.prog call n 224 52 (sub (Try.f224.body.getD .skip) 200 52) τ H := lp_at Try.func224 26 (by decide) 5 (by decide) (by kernel_rfl) call n τ H
/-! 225: spec.PutVar -/
theorem ok225 : goodFn Try.f225 = true := by kernel_rfl
theorem lp225_506 (call : CallF) (n : Nat) (τ : Tm) (H : AH) : evCode Try.prog call n (lp Try.prog 225 506) τ H = evN Try.prog call n 225 1012 (sub (Try.f225.body.getD .skip) 200 1012) τ H := lp_at Try.func225 506 (by decide) 9 (by decide) (by kernel_rfl) call n τ H
/-! 256: impl.VarLen -/
theorem ok256 : goodFn Try.f256 = true := by kernel_rfl
/-! 271: spec.GetVar -/
theorem ok271 : goodFn Try.f271 = true := by kernel_rfl
theorem lp271_506 (call : CallF) (n : Nat) (τ : Tm) (H : AH) : evCode Try.prog call n (lp Try.prog 271 506) τ H = evN Try.prog call n 271 1012 (sub (Try.f271.body.getD .skip) 200 1012) τ H := lp_at Try.func271 506 (by decide) 9 (by decide) (by kernel_rfl) call n τ H
theorem lp271_4090 (call : CallF) (n : Nat) (τ : Tm) (H : AH) : evCode Try.prog call n (lp Try.prog 271 4090) τ H = evN Try.prog call n 271 8180 (sub (Try.f271.body.getD .skip) 200 8180) τ H := lp_at Try.func271 4090 (by decide) 12 (by decide) (by kernel_rfl) call n τ H
/-! 272: spec.VarLen -/
theorem ok272 : goodFn Try.f272 = true := by kernel_rfl
end Go.Ev
