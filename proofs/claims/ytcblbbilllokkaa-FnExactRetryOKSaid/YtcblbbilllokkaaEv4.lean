/- Lemmas of an evaluator of the given code and of what the functions answer; no condition of its own. -/
import Derived.Test.YtcblbbilllokkaaEv3
import Derived.Test.YtcblbbilllokkaaProg
import Derived.KernelRfl
/- Facts of the translation, for the evaluator: written by a program of this session (facts.py). -/
namespace Go.Ev
open Go Go.Proofs
set_option linter.unusedVariables false
@[simp] theorem tyS1 : sizeT Try.prog 1 = some 1 := by kernel_rfl
@[simp] theorem tyB1 : bytesT Try.prog 1 = some 8 := by kernel_rfl
@[simp] theorem tyA1 : aggT Try.prog 1 = some false := by kernel_rfl
@[simp] theorem tyZ1 : zeroT Try.prog 1 = some [.nilFunc] := by kernel_rfl
@[simp] theorem tyV1 : zeroV Try.prog 1 = some (.nilFunc) := by kernel_rfl
@[simp] theorem tyP1 : placesT Try.prog 1 = none := by kernel_rfl
@[simp] theorem tyU2 : Try.prog.underlying 2 = some (.int .i64) := by kernel_rfl
@[simp] theorem tyS2 : sizeT Try.prog 2 = some 1 := by kernel_rfl
@[simp] theorem tyB2 : bytesT Try.prog 2 = some 8 := by kernel_rfl
@[simp] theorem tyA2 : aggT Try.prog 2 = some false := by kernel_rfl
@[simp] theorem tyZ2 : zeroT Try.prog 2 = some [.int .i64 0] := by kernel_rfl
@[simp] theorem tyV2 : zeroV Try.prog 2 = some (.int .i64 0) := by kernel_rfl
@[simp] theorem tyP2 : placesT Try.prog 2 = none := by kernel_rfl
@[simp] theorem tyU3 : Try.prog.underlying 3 = some (.int .i64) := by kernel_rfl
@[simp] theorem tyS3 : sizeT Try.prog 3 = some 1 := by kernel_rfl
@[simp] theorem tyB3 : bytesT Try.prog 3 = some 8 := by kernel_rfl
@[simp] theorem tyA3 : aggT Try.prog 3 = some false := by kernel_rfl
@[simp] theorem tyZ3 : zeroT Try.prog 3 = some [.int .i64 0] := by kernel_rfl
@[simp] theorem tyV3 : zeroV Try.prog 3 = some (.int .i64 0) := by kernel_rfl
@[simp] theorem tyP3 : placesT Try.prog 3 = none := by kernel_rfl
@[simp] theorem tyU4 : Try.prog.underlying 4 = some (.bool) := by kernel_rfl
@[simp] theorem tyS4 : sizeT Try.prog 4 = some 1 := by kernel_rfl
@[simp] theorem tyB4 : bytesT Try.prog 4 = some 1 := by kernel_rfl
@[simp] theorem tyA4 : aggT Try.prog 4 = some false := by kernel_rfl
@[simp] theorem tyZ4 : zeroT Try.prog 4 = some [.bool false] := by kernel_rfl
@[simp] theorem tyV4 : zeroV Try.prog 4 = some (.bool false) := by kernel_rfl
@[simp] theorem tyP4 : placesT Try.prog 4 = none := by kernel_rfl
@[simp] theorem tyU5 : Try.prog.underlying 5 = some (.int .u8) := by kernel_rfl
@[simp] theorem tyS5 : sizeT Try.prog 5 = some 1 := by kernel_rfl
@[simp] theorem tyB5 : bytesT Try.prog 5 = some 1 := by kernel_rfl
@[simp] theorem tyA5 : aggT Try.prog 5 = some false := by kernel_rfl
@[simp] theorem tyZ5 : zeroT Try.prog 5 = some [.int .u8 0] := by kernel_rfl
@[simp] theorem tyV5 : zeroV Try.prog 5 = some (.int .u8 0) := by kernel_rfl
@[simp] theorem tyP5 : placesT Try.prog 5 = none := by kernel_rfl
@[simp] theorem tyU6 : Try.prog.underlying 6 = some (.int .u8) := by kernel_rfl
@[simp] theorem tyS6 : sizeT Try.prog 6 = some 1 := by kernel_rfl
@[simp] theorem tyB6 : bytesT Try.prog 6 = some 1 := by kernel_rfl
@[simp] theorem tyA6 : aggT Try.prog 6 = some false := by kernel_rfl
@[simp] theorem tyZ6 : zeroT Try.prog 6 = some [.int .u8 0] := by kernel_rfl
@[simp] theorem tyV6 : zeroV Try.prog 6 = some (.int .u8 0) := by kernel_rfl
@[simp] theorem tyP6 : placesT Try.prog 6 = none := by kernel_rfl
@[simp] theorem tyS7 : sizeT Try.prog 7 = some 4 := by kernel_rfl
@[simp] theorem tyB7 : bytesT Try.prog 7 = some 24 := by kernel_rfl
@[simp] theorem tyA7 : aggT Try.prog 7 = some true := by kernel_rfl
@[simp] theorem tyZ7 : zeroT Try.prog 7 = some [.int .i64 0, .int .i64 0, .bool false, .int .u8 0] := by kernel_rfl
@[simp] theorem tyV7 : zeroV Try.prog 7 = some (.agg [.int .i64 0, .int .i64 0, .bool false, .int .u8 0]) := by kernel_rfl
@[simp] theorem tyP7 : placesT Try.prog 7 = some [(0, 1), (1, 1), (2, 1), (3, 1)] := by kernel_rfl
@[simp] theorem tyF7_0 : fieldT Try.prog 7 0 = some (0, 2) := by kernel_rfl
@[simp] theorem tyF7_1 : fieldT Try.prog 7 1 = some (1, 3) := by kernel_rfl
@[simp] theorem tyF7_2 : fieldT Try.prog 7 2 = some (2, 4) := by kernel_rfl
@[simp] theorem tyF7_3 : fieldT Try.prog 7 3 = some (3, 6) := by kernel_rfl
@[simp] theorem tyU9 : Try.prog.underlying 9 = some (.string) := by kernel_rfl
@[simp] theorem tyS9 : sizeT Try.prog 9 = some 1 := by kernel_rfl
@[simp] theorem tyB9 : bytesT Try.prog 9 = some 16 := by kernel_rfl
@[simp] theorem tyA9 : aggT Try.prog 9 = some false := by kernel_rfl
@[simp] theorem tyZ9 : zeroT Try.prog 9 = some [.str ByteArray.empty] := by kernel_rfl
@[simp] theorem tyV9 : zeroV Try.prog 9 = some (.str ByteArray.empty) := by kernel_rfl
@[simp] theorem tyP9 : placesT Try.prog 9 = none := by kernel_rfl
@[simp] theorem tyU22 : Try.prog.underlying 22 = some (.slice 5) := by kernel_rfl
@[simp] theorem tyS22 : sizeT Try.prog 22 = some 1 := by kernel_rfl
@[simp] theorem tyB22 : bytesT Try.prog 22 = some 24 := by kernel_rfl
@[simp] theorem tyA22 : aggT Try.prog 22 = some false := by kernel_rfl
@[simp] theorem tyZ22 : zeroT Try.prog 22 = some [.nilSlice] := by kernel_rfl
@[simp] theorem tyV22 : zeroV Try.prog 22 = some (.nilSlice) := by kernel_rfl
@[simp] theorem tyE22 : sliceT Try.prog 22 = some 5 := by kernel_rfl
@[simp] theorem tyP22 : placesT Try.prog 22 = none := by kernel_rfl
@[simp] theorem tyU23 : Try.prog.underlying 23 = some (.slice 22) := by kernel_rfl
@[simp] theorem tyS23 : sizeT Try.prog 23 = some 1 := by kernel_rfl
@[simp] theorem tyB23 : bytesT Try.prog 23 = some 24 := by kernel_rfl
@[simp] theorem tyA23 : aggT Try.prog 23 = some false := by kernel_rfl
@[simp] theorem tyZ23 : zeroT Try.prog 23 = some [.nilSlice] := by kernel_rfl
@[simp] theorem tyV23 : zeroV Try.prog 23 = some (.nilSlice) := by kernel_rfl
@[simp] theorem tyE23 : sliceT Try.prog 23 = some 22 := by kernel_rfl
@[simp] theorem tyP23 : placesT Try.prog 23 = none := by kernel_rfl
@[simp] theorem tyS31 : sizeT Try.prog 31 = some 8 := by kernel_rfl
@[simp] theorem tyB31 : bytesT Try.prog 31 = some 112 := by kernel_rfl
@[simp] theorem tyA31 : aggT Try.prog 31 = some true := by kernel_rfl
@[simp] theorem tyZ31 : zeroT Try.prog 31 = some [.int .i64 0, .int .i64 0, .nilSlice, .nilSlice, .nilSlice, .int .i64 0, .int .i64 0, .int .i64 0] := by kernel_rfl
@[simp] theorem tyV31 : zeroV Try.prog 31 = some (.agg [.int .i64 0, .int .i64 0, .nilSlice, .nilSlice, .nilSlice, .int .i64 0, .int .i64 0, .int .i64 0]) := by kernel_rfl
@[simp] theorem tyP31 : placesT Try.prog 31 = some [(0, 1), (1, 1), (2, 1), (3, 1), (4, 1), (5, 1), (6, 1), (7, 1)] := by kernel_rfl
@[simp] theorem tyF31_0 : fieldT Try.prog 31 0 = some (0, 3) := by kernel_rfl
@[simp] theorem tyF31_1 : fieldT Try.prog 31 1 = some (1, 3) := by kernel_rfl
@[simp] theorem tyF31_2 : fieldT Try.prog 31 2 = some (2, 22) := by kernel_rfl
@[simp] theorem tyF31_3 : fieldT Try.prog 31 3 = some (3, 22) := by kernel_rfl
@[simp] theorem tyF31_4 : fieldT Try.prog 31 4 = some (4, 22) := by kernel_rfl
@[simp] theorem tyF31_5 : fieldT Try.prog 31 5 = some (5, 3) := by kernel_rfl
@[simp] theorem tyF31_6 : fieldT Try.prog 31 6 = some (6, 3) := by kernel_rfl
@[simp] theorem tyF31_7 : fieldT Try.prog 31 7 = some (7, 3) := by kernel_rfl
@[simp] theorem tyS32 : sizeT Try.prog 32 = some 8 := by kernel_rfl
@[simp] theorem tyB32 : bytesT Try.prog 32 = some 112 := by kernel_rfl
@[simp] theorem tyA32 : aggT Try.prog 32 = some true := by kernel_rfl
@[simp] theorem tyZ32 : zeroT Try.prog 32 = some [.int .i64 0, .int .i64 0, .nilSlice, .nilSlice, .nilSlice, .int .i64 0, .int .i64 0, .int .i64 0] := by kernel_rfl
@[simp] theorem tyV32 : zeroV Try.prog 32 = some (.agg [.int .i64 0, .int .i64 0, .nilSlice, .nilSlice, .nilSlice, .int .i64 0, .int .i64 0, .int .i64 0]) := by kernel_rfl
@[simp] theorem tyP32 : placesT Try.prog 32 = some [(0, 1), (1, 1), (2, 1), (3, 1), (4, 1), (5, 1), (6, 1), (7, 1)] := by kernel_rfl
@[simp] theorem tyF32_0 : fieldT Try.prog 32 0 = some (0, 3) := by kernel_rfl
@[simp] theorem tyF32_1 : fieldT Try.prog 32 1 = some (1, 3) := by kernel_rfl
@[simp] theorem tyF32_2 : fieldT Try.prog 32 2 = some (2, 22) := by kernel_rfl
@[simp] theorem tyF32_3 : fieldT Try.prog 32 3 = some (3, 22) := by kernel_rfl
@[simp] theorem tyF32_4 : fieldT Try.prog 32 4 = some (4, 22) := by kernel_rfl
@[simp] theorem tyF32_5 : fieldT Try.prog 32 5 = some (5, 3) := by kernel_rfl
@[simp] theorem tyF32_6 : fieldT Try.prog 32 6 = some (6, 3) := by kernel_rfl
@[simp] theorem tyF32_7 : fieldT Try.prog 32 7 = some (7, 3) := by kernel_rfl
@[simp] theorem tyU43 : Try.prog.underlying 43 = some (.slice 3) := by kernel_rfl
@[simp] theorem tyS43 : sizeT Try.prog 43 = some 1 := by kernel_rfl
@[simp] theorem tyB43 : bytesT Try.prog 43 = some 24 := by kernel_rfl
@[simp] theorem tyA43 : aggT Try.prog 43 = some false := by kernel_rfl
@[simp] theorem tyZ43 : zeroT Try.prog 43 = some [.nilSlice] := by kernel_rfl
@[simp] theorem tyV43 : zeroV Try.prog 43 = some (.nilSlice) := by kernel_rfl
@[simp] theorem tyE43 : sliceT Try.prog 43 = some 3 := by kernel_rfl
@[simp] theorem tyP43 : placesT Try.prog 43 = none := by kernel_rfl
@[simp] theorem tyU59 : Try.prog.underlying 59 = some (.pointer 87) := by kernel_rfl
@[simp] theorem tyS59 : sizeT Try.prog 59 = some 1 := by kernel_rfl
@[simp] theorem tyB59 : bytesT Try.prog 59 = some 8 := by kernel_rfl
@[simp] theorem tyA59 : aggT Try.prog 59 = some false := by kernel_rfl
@[simp] theorem tyZ59 : zeroT Try.prog 59 = some [.nilPtr] := by kernel_rfl
@[simp] theorem tyV59 : zeroV Try.prog 59 = some (.nilPtr) := by kernel_rfl
@[simp] theorem tyP59 : placesT Try.prog 59 = none := by kernel_rfl
@[simp] theorem tyU74 : Try.prog.underlying 74 = some (.pointer 76) := by kernel_rfl
@[simp] theorem tyS74 : sizeT Try.prog 74 = some 1 := by kernel_rfl
@[simp] theorem tyB74 : bytesT Try.prog 74 = some 8 := by kernel_rfl
@[simp] theorem tyA74 : aggT Try.prog 74 = some false := by kernel_rfl
@[simp] theorem tyZ74 : zeroT Try.prog 74 = some [.nilPtr] := by kernel_rfl
@[simp] theorem tyV74 : zeroV Try.prog 74 = some (.nilPtr) := by kernel_rfl
@[simp] theorem tyP74 : placesT Try.prog 74 = none := by kernel_rfl
@[simp] theorem tyS75 : sizeT Try.prog 75 = some 3 := by kernel_rfl
@[simp] theorem tyB75 : bytesT Try.prog 75 = some 40 := by kernel_rfl
@[simp] theorem tyA75 : aggT Try.prog 75 = some true := by kernel_rfl
@[simp] theorem tyZ75 : zeroT Try.prog 75 = some [.nilSlice, .int .i64 0, .bool false] := by kernel_rfl
@[simp] theorem tyV75 : zeroV Try.prog 75 = some (.agg [.nilSlice, .int .i64 0, .bool false]) := by kernel_rfl
@[simp] theorem tyP75 : placesT Try.prog 75 = some [(0, 1), (1, 1), (2, 1)] := by kernel_rfl
@[simp] theorem tyF75_0 : fieldT Try.prog 75 0 = some (0, 22) := by kernel_rfl
@[simp] theorem tyF75_1 : fieldT Try.prog 75 1 = some (1, 3) := by kernel_rfl
@[simp] theorem tyF75_2 : fieldT Try.prog 75 2 = some (2, 4) := by kernel_rfl
@[simp] theorem tyS76 : sizeT Try.prog 76 = some 3 := by kernel_rfl
@[simp] theorem tyB76 : bytesT Try.prog 76 = some 40 := by kernel_rfl
@[simp] theorem tyA76 : aggT Try.prog 76 = some true := by kernel_rfl
@[simp] theorem tyZ76 : zeroT Try.prog 76 = some [.nilSlice, .int .i64 0, .bool false] := by kernel_rfl
@[simp] theorem tyV76 : zeroV Try.prog 76 = some (.agg [.nilSlice, .int .i64 0, .bool false]) := by kernel_rfl
@[simp] theorem tyP76 : placesT Try.prog 76 = some [(0, 1), (1, 1), (2, 1)] := by kernel_rfl
@[simp] theorem tyF76_0 : fieldT Try.prog 76 0 = some (0, 22) := by kernel_rfl
@[simp] theorem tyF76_1 : fieldT Try.prog 76 1 = some (1, 3) := by kernel_rfl
@[simp] theorem tyF76_2 : fieldT Try.prog 76 2 = some (2, 4) := by kernel_rfl
@[simp] theorem tyU81 : Try.prog.underlying 81 = some (.pointer 83) := by kernel_rfl
@[simp] theorem tyS81 : sizeT Try.prog 81 = some 1 := by kernel_rfl
@[simp] theorem tyB81 : bytesT Try.prog 81 = some 8 := by kernel_rfl
@[simp] theorem tyA81 : aggT Try.prog 81 = some false := by kernel_rfl
@[simp] theorem tyZ81 : zeroT Try.prog 81 = some [.nilPtr] := by kernel_rfl
@[simp] theorem tyV81 : zeroV Try.prog 81 = some (.nilPtr) := by kernel_rfl
@[simp] theorem tyP81 : placesT Try.prog 81 = none := by kernel_rfl
@[simp] theorem tyS82 : sizeT Try.prog 82 = some 3 := by kernel_rfl
@[simp] theorem tyB82 : bytesT Try.prog 82 = some 40 := by kernel_rfl
@[simp] theorem tyA82 : aggT Try.prog 82 = some true := by kernel_rfl
@[simp] theorem tyZ82 : zeroT Try.prog 82 = some [.nilSlice, .int .i64 0, .int .i64 0] := by kernel_rfl
@[simp] theorem tyV82 : zeroV Try.prog 82 = some (.agg [.nilSlice, .int .i64 0, .int .i64 0]) := by kernel_rfl
@[simp] theorem tyP82 : placesT Try.prog 82 = some [(0, 1), (1, 1), (2, 1)] := by kernel_rfl
@[simp] theorem tyF82_0 : fieldT Try.prog 82 0 = some (0, 22) := by kernel_rfl
@[simp] theorem tyF82_1 : fieldT Try.prog 82 1 = some (1, 3) := by kernel_rfl
@[simp] theorem tyF82_2 : fieldT Try.prog 82 2 = some (2, 3) := by kernel_rfl
@[simp] theorem tyS83 : sizeT Try.prog 83 = some 3 := by kernel_rfl
@[simp] theorem tyB83 : bytesT Try.prog 83 = some 40 := by kernel_rfl
@[simp] theorem tyA83 : aggT Try.prog 83 = some true := by kernel_rfl
@[simp] theorem tyZ83 : zeroT Try.prog 83 = some [.nilSlice, .int .i64 0, .int .i64 0] := by kernel_rfl
@[simp] theorem tyV83 : zeroV Try.prog 83 = some (.agg [.nilSlice, .int .i64 0, .int .i64 0]) := by kernel_rfl
@[simp] theorem tyP83 : placesT Try.prog 83 = some [(0, 1), (1, 1), (2, 1)] := by kernel_rfl
@[simp] theorem tyF83_0 : fieldT Try.prog 83 0 = some (0, 22) := by kernel_rfl
@[simp] theorem tyF83_1 : fieldT Try.prog 83 1 = some (1, 3) := by kernel_rfl
@[simp] theorem tyF83_2 : fieldT Try.prog 83 2 = some (2, 3) := by kernel_rfl
@[simp] theorem tyS86 : sizeT Try.prog 86 = some 3 := by kernel_rfl
@[simp] theorem tyB86 : bytesT Try.prog 86 = some 40 := by kernel_rfl
@[simp] theorem tyA86 : aggT Try.prog 86 = some true := by kernel_rfl
@[simp] theorem tyZ86 : zeroT Try.prog 86 = some [.nilSlice, .int .i64 0, .int .i64 0] := by kernel_rfl
@[simp] theorem tyV86 : zeroV Try.prog 86 = some (.agg [.nilSlice, .int .i64 0, .int .i64 0]) := by kernel_rfl
@[simp] theorem tyP86 : placesT Try.prog 86 = some [(0, 1), (1, 1), (2, 1)] := by kernel_rfl
@[simp] theorem tyF86_0 : fieldT Try.prog 86 0 = some (0, 22) := by kernel_rfl
@[simp] theorem tyF86_1 : fieldT Try.prog 86 1 = some (1, 3) := by kernel_rfl
@[simp] theorem tyF86_2 : fieldT Try.prog 86 2 = some (2, 3) := by kernel_rfl
@[simp] theorem tyS87 : sizeT Try.prog 87 = some 3 := by kernel_rfl
@[simp] theorem tyB87 : bytesT Try.prog 87 = some 40 := by kernel_rfl
@[simp] theorem tyA87 : aggT Try.prog 87 = some true := by kernel_rfl
@[simp] theorem tyZ87 : zeroT Try.prog 87 = some [.nilSlice, .int .i64 0, .int .i64 0] := by kernel_rfl
@[simp] theorem tyV87 : zeroV Try.prog 87 = some (.agg [.nilSlice, .int .i64 0, .int .i64 0]) := by kernel_rfl
@[simp] theorem tyP87 : placesT Try.prog 87 = some [(0, 1), (1, 1), (2, 1)] := by kernel_rfl
@[simp] theorem tyF87_0 : fieldT Try.prog 87 0 = some (0, 22) := by kernel_rfl
@[simp] theorem tyF87_1 : fieldT Try.prog 87 1 = some (1, 3) := by kernel_rfl
@[simp] theorem tyF87_2 : fieldT Try.prog 87 2 = some (2, 3) := by kernel_rfl
@[simp] theorem tyU88 : Try.prog.underlying 88 = some (.int .u64) := by kernel_rfl
@[simp] theorem tyS88 : sizeT Try.prog 88 = some 1 := by kernel_rfl
@[simp] theorem tyB88 : bytesT Try.prog 88 = some 8 := by kernel_rfl
@[simp] theorem tyA88 : aggT Try.prog 88 = some false := by kernel_rfl
@[simp] theorem tyZ88 : zeroT Try.prog 88 = some [.int .u64 0] := by kernel_rfl
@[simp] theorem tyV88 : zeroV Try.prog 88 = some (.int .u64 0) := by kernel_rfl
@[simp] theorem tyP88 : placesT Try.prog 88 = none := by kernel_rfl
@[simp] theorem tyU89 : Try.prog.underlying 89 = some (.pointer 92) := by kernel_rfl
@[simp] theorem tyS89 : sizeT Try.prog 89 = some 1 := by kernel_rfl
@[simp] theorem tyB89 : bytesT Try.prog 89 = some 8 := by kernel_rfl
@[simp] theorem tyA89 : aggT Try.prog 89 = some false := by kernel_rfl
@[simp] theorem tyZ89 : zeroT Try.prog 89 = some [.nilPtr] := by kernel_rfl
@[simp] theorem tyV89 : zeroV Try.prog 89 = some (.nilPtr) := by kernel_rfl
@[simp] theorem tyP89 : placesT Try.prog 89 = none := by kernel_rfl
@[simp] theorem tyU90 : Try.prog.underlying 90 = some (.int .u32) := by kernel_rfl
@[simp] theorem tyS90 : sizeT Try.prog 90 = some 1 := by kernel_rfl
@[simp] theorem tyB90 : bytesT Try.prog 90 = some 4 := by kernel_rfl
@[simp] theorem tyA90 : aggT Try.prog 90 = some false := by kernel_rfl
@[simp] theorem tyZ90 : zeroT Try.prog 90 = some [.int .u32 0] := by kernel_rfl
@[simp] theorem tyV90 : zeroV Try.prog 90 = some (.int .u32 0) := by kernel_rfl
@[simp] theorem tyP90 : placesT Try.prog 90 = none := by kernel_rfl
@[simp] theorem tyS91 : sizeT Try.prog 91 = some 4 := by kernel_rfl
@[simp] theorem tyB91 : bytesT Try.prog 91 = some 16 := by kernel_rfl
@[simp] theorem tyA91 : aggT Try.prog 91 = some true := by kernel_rfl
@[simp] theorem tyZ91 : zeroT Try.prog 91 = some [.int .u32 0, .int .u32 0, .int .u32 0, .int .u32 0] := by kernel_rfl
@[simp] theorem tyV91 : zeroV Try.prog 91 = some (.agg [.int .u32 0, .int .u32 0, .int .u32 0, .int .u32 0]) := by kernel_rfl
@[simp] theorem tyP91 : placesT Try.prog 91 = some [(0, 1), (1, 1), (2, 1), (3, 1)] := by kernel_rfl
@[simp] theorem tyF91_0 : fieldT Try.prog 91 0 = some (0, 90) := by kernel_rfl
@[simp] theorem tyF91_1 : fieldT Try.prog 91 1 = some (1, 90) := by kernel_rfl
@[simp] theorem tyF91_2 : fieldT Try.prog 91 2 = some (2, 90) := by kernel_rfl
@[simp] theorem tyF91_3 : fieldT Try.prog 91 3 = some (3, 90) := by kernel_rfl
@[simp] theorem tyS92 : sizeT Try.prog 92 = some 4 := by kernel_rfl
@[simp] theorem tyB92 : bytesT Try.prog 92 = some 16 := by kernel_rfl
@[simp] theorem tyA92 : aggT Try.prog 92 = some true := by kernel_rfl
@[simp] theorem tyZ92 : zeroT Try.prog 92 = some [.int .u32 0, .int .u32 0, .int .u32 0, .int .u32 0] := by kernel_rfl
@[simp] theorem tyV92 : zeroV Try.prog 92 = some (.agg [.int .u32 0, .int .u32 0, .int .u32 0, .int .u32 0]) := by kernel_rfl
@[simp] theorem tyP92 : placesT Try.prog 92 = some [(0, 1), (1, 1), (2, 1), (3, 1)] := by kernel_rfl
@[simp] theorem tyF92_0 : fieldT Try.prog 92 0 = some (0, 90) := by kernel_rfl
@[simp] theorem tyF92_1 : fieldT Try.prog 92 1 = some (1, 90) := by kernel_rfl
@[simp] theorem tyF92_2 : fieldT Try.prog 92 2 = some (2, 90) := by kernel_rfl
@[simp] theorem tyF92_3 : fieldT Try.prog 92 3 = some (3, 90) := by kernel_rfl
@[simp] theorem tyU94 : Try.prog.underlying 94 = some (.array 4 90) := by kernel_rfl
@[simp] theorem tyS94 : sizeT Try.prog 94 = some 4 := by kernel_rfl
@[simp] theorem tyB94 : bytesT Try.prog 94 = some 16 := by kernel_rfl
@[simp] theorem tyA94 : aggT Try.prog 94 = some true := by kernel_rfl
@[simp] theorem tyZ94 : zeroT Try.prog 94 = some [.int .u32 0, .int .u32 0, .int .u32 0, .int .u32 0] := by kernel_rfl
@[simp] theorem tyV94 : zeroV Try.prog 94 = some (.agg [.int .u32 0, .int .u32 0, .int .u32 0, .int .u32 0]) := by kernel_rfl
@[simp] theorem tyP94 : placesT Try.prog 94 = none := by kernel_rfl
@[simp] theorem tyR94 : arrT Try.prog 94 = some (4, 90) := by kernel_rfl
@[simp] theorem tyS95 : sizeT Try.prog 95 = some 4 := by kernel_rfl
@[simp] theorem tyB95 : bytesT Try.prog 95 = some 16 := by kernel_rfl
@[simp] theorem tyA95 : aggT Try.prog 95 = some true := by kernel_rfl
@[simp] theorem tyZ95 : zeroT Try.prog 95 = some [.int .u32 0, .int .u32 0, .int .u32 0, .int .u32 0] := by kernel_rfl
@[simp] theorem tyV95 : zeroV Try.prog 95 = some (.agg [.int .u32 0, .int .u32 0, .int .u32 0, .int .u32 0]) := by kernel_rfl
@[simp] theorem tyP95 : placesT Try.prog 95 = some [(0, 1), (1, 1), (2, 1), (3, 1)] := by kernel_rfl
@[simp] theorem tyF95_0 : fieldT Try.prog 95 0 = some (0, 90) := by kernel_rfl
@[simp] theorem tyF95_1 : fieldT Try.prog 95 1 = some (1, 90) := by kernel_rfl
@[simp] theorem tyF95_2 : fieldT Try.prog 95 2 = some (2, 90) := by kernel_rfl
@[simp] theorem tyF95_3 : fieldT Try.prog 95 3 = some (3, 90) := by kernel_rfl
@[simp] theorem tyS96 : sizeT Try.prog 96 = some 4 := by kernel_rfl
@[simp] theorem tyB96 : bytesT Try.prog 96 = some 16 := by kernel_rfl
@[simp] theorem tyA96 : aggT Try.prog 96 = some true := by kernel_rfl
@[simp] theorem tyZ96 : zeroT Try.prog 96 = some [.int .u32 0, .int .u32 0, .int .u32 0, .int .u32 0] := by kernel_rfl
@[simp] theorem tyV96 : zeroV Try.prog 96 = some (.agg [.int .u32 0, .int .u32 0, .int .u32 0, .int .u32 0]) := by kernel_rfl
@[simp] theorem tyP96 : placesT Try.prog 96 = some [(0, 1), (1, 1), (2, 1), (3, 1)] := by kernel_rfl
@[simp] theorem tyF96_0 : fieldT Try.prog 96 0 = some (0, 90) := by kernel_rfl
@[simp] theorem tyF96_1 : fieldT Try.prog 96 1 = some (1, 90) := by kernel_rfl
@[simp] theorem tyF96_2 : fieldT Try.prog 96 2 = some (2, 90) := by kernel_rfl
@[simp] theorem tyF96_3 : fieldT Try.prog 96 3 = some (3, 90) := by kernel_rfl
@[simp] theorem tyU100 : Try.prog.underlying 100 = some (.int .u64) := by kernel_rfl
@[simp] theorem tyS100 : sizeT Try.prog 100 = some 1 := by kernel_rfl
@[simp] theorem tyB100 : bytesT Try.prog 100 = some 8 := by kernel_rfl
@[simp] theorem tyA100 : aggT Try.prog 100 = some false := by kernel_rfl
@[simp] theorem tyZ100 : zeroT Try.prog 100 = some [.int .u64 0] := by kernel_rfl
@[simp] theorem tyV100 : zeroV Try.prog 100 = some (.int .u64 0) := by kernel_rfl
@[simp] theorem tyP100 : placesT Try.prog 100 = none := by kernel_rfl
/-! 3: laws.FnExactSplitDatagram -/
theorem ok3 : goodFn Try.f3 = true := by kernel_rfl
/-! 4: laws.FnExactPeek -/
theorem ok4 : goodFn Try.f4 = true := by kernel_rfl
/-! 5: laws.FnExactRetryOK -/
theorem ok5 : goodFn Try.f5 = true := by kernel_rfl
/-! 6: laws.FnPlainPackets -/
theorem ok6 : goodFn Try.f6 = true := by kernel_rfl
/-! 7: spec.SplitDatagram -/
theorem ok7 : goodFn Try.f7 = true := by kernel_rfl
theorem lp7_60 (call : CallF) (n : Nat) (τ : Tm) (H : AH) : evCode Try.prog call n (lp Try.prog 7 60) τ H = evN Try.prog call n 7 120 (sub (Try.f7.body.getD .skip) 200 120) τ H := lp_at Try.func7 60 (by decide) 6 (by decide) (by kernel_rfl) call n τ H
/-! 8: laws.toByteS -/
theorem ok8 : goodFn Try.f8 = true := by kernel_rfl
theorem lp8_58 (call : CallF) (n : Nat) (τ : Tm) (H : AH) : evCode Try.prog call n (lp Try.prog 8 58) τ H = evN Try.prog call n 8 116 (sub (Try.f8.body.getD .skip) 200 116) τ H := lp_at Try.func8 58 (by decide) 6 (by decide) (by kernel_rfl) call n τ H
/-! 9: impl.SplitDatagram -/
theorem ok9 : goodFn Try.f9 = true := by kernel_rfl
theorem lp9_60 (call : CallF) (n : Nat) (τ : Tm) (H : AH) : evCode Try.prog call n (lp Try.prog 9 60) τ H = evN Try.prog call n 9 120 (sub (Try.f9.body.getD .skip) 200 120) τ H := lp_at Try.func9 60 (by decide) 6 (by decide) (by kernel_rfl) call n τ H
/-! 10: laws.eqByteSS -/
theorem ok10 : goodFn Try.f10 = true := by kernel_rfl
theorem lp10_58 (call : CallF) (n : Nat) (τ : Tm) (H : AH) : evCode Try.prog call n (lp Try.prog 10 58) τ H = evN Try.prog call n 10 116 (sub (Try.f10.body.getD .skip) 200 116) τ H := lp_at Try.func10 58 (by decide) 6 (by decide) (by kernel_rfl) call n τ H
@[simp] theorem dr10_1864 : dr Try.prog 10 1864 = some [] := (dr_eq Try.func10 1864).trans (by kernel_rfl)
/-! 11: laws.eqByteS -/
theorem ok11 : goodFn Try.f11 = true := by kernel_rfl
theorem lp11_58 (call : CallF) (n : Nat) (τ : Tm) (H : AH) : evCode Try.prog call n (lp Try.prog 11 58) τ H = evN Try.prog call n 11 116 (sub (Try.f11.body.getD .skip) 200 116) τ H := lp_at Try.func11 58 (by decide) 6 (by decide) (by kernel_rfl) call n τ H
@[simp] theorem dr11_1864 : dr Try.prog 11 1864 = some [] := (dr_eq Try.func11 1864).trans (by kernel_rfl)
/-! 12: laws.markByteS -/
theorem ok12 : goodFn Try.f12 = true := by kernel_rfl
theorem lp12_26 (call : CallF) (n : Nat) (τ : Tm) (H : AH) : evCode Try.prog call n (lp Try.prog 12 26) τ H = evN Try.prog call n 12 52 (sub (Try.f12.body.getD .skip) 200 52) τ H := lp_at Try.func12 26 (by decide) 5 (by decide) (by kernel_rfl) call n τ H
/-! 13: laws.markByteSS -/
theorem ok13 : goodFn Try.f13 = true := by kernel_rfl
theorem lp13_26 (call : CallF) (n : Nat) (τ : Tm) (H : AH) : evCode Try.prog call n (lp Try.prog 13 26) τ H = evN Try.prog call n 13 52 (sub (Try.f13.body.getD .skip) 200 52) τ H := lp_at Try.func13 26 (by decide) 5 (by decide) (by kernel_rfl) call n τ H
/-! 14: laws.heldByteSS -/
theorem ok14 : goodFn Try.f14 = true := by kernel_rfl
theorem lp14_26 (call : CallF) (n : Nat) (τ : Tm) (H : AH) : evCode Try.prog call n (lp Try.prog 14 26) τ H = evN Try.prog call n 14 52 (sub (Try.f14.body.getD .skip) 200 52) τ H := lp_at Try.func14 26 (by decide) 5 (by decide) (by kernel_rfl) call n τ H
/-! 15: spec.Peek -/
theorem ok15 : goodFn Try.f15 = true := by kernel_rfl
/-! 16: impl.Peek -/
theorem ok16 : goodFn Try.f16 = true := by kernel_rfl
/-! 17: laws.eqHeader -/
theorem ok17 : goodFn Try.f17 = true := by kernel_rfl
/-! 18: laws.markHeader -/
theorem ok18 : goodFn Try.f18 = true := by kernel_rfl
/-! 19: laws.heldHeader -/
theorem ok19 : goodFn Try.f19 = true := by kernel_rfl
/-! 20: spec.RetryOK -/
theorem ok20 : goodFn Try.f20 = true := by kernel_rfl
@[simp] theorem dr20_1020 : dr Try.prog 20 1020 = some [(8, 0), (9, 0)] := (dr_eq Try.func20 1020).trans (by kernel_rfl)
/-! 21: impl.RetryOK -/
theorem ok21 : goodFn Try.f21 = true := by kernel_rfl
@[simp] theorem dr21_1020 : dr Try.prog 21 1020 = some [(8, 0), (9, 0)] := (dr_eq Try.func21 1020).trans (by kernel_rfl)
/-! 22: spec.DrawRetryPacket -/
theorem ok22 : goodFn Try.f22 = true := by kernel_rfl
@[simp] theorem dr22_62 : dr Try.prog 22 62 = some [(0, 5), (0, 8), (0, 9)] := (dr_eq Try.func22 62).trans (by kernel_rfl)
/-! 23: impl.RetryPacket -/
theorem ok23 : goodFn Try.f23 = true := by kernel_rfl
@[simp] theorem dr23_14 : dr Try.prog 23 14 = some [(8, 0)] := (dr_eq Try.func23 14).trans (by kernel_rfl)
/-! 24: spec.RetryPacket -/
theorem ok24 : goodFn Try.f24 = true := by kernel_rfl
/-! 25: laws.copied -/
theorem ok25 : goodFn Try.f25 = true := by kernel_rfl
/-! 26: laws.same -/
theorem ok26 : goodFn Try.f26 = true := by kernel_rfl
/-! 27: spec.DrawVersionsPacket -/
theorem ok27 : goodFn Try.f27 = true := by kernel_rfl
/-! 28: impl.VersionsPacket -/
theorem ok28 : goodFn Try.f28 = true := by kernel_rfl
theorem lp28_122 (call : CallF) (n : Nat) (τ : Tm) (H : AH) : evCode Try.prog call n (lp Try.prog 28 122) τ H = evN Try.prog call n 28 244 (sub (Try.f28.body.getD .skip) 200 244) τ H := lp_at Try.func28 122 (by decide) 7 (by decide) (by kernel_rfl) call n τ H
/-! 29: spec.VersionsPacket -/
theorem ok29 : goodFn Try.f29 = true := by kernel_rfl
theorem lp29_122 (call : CallF) (n : Nat) (τ : Tm) (H : AH) : evCode Try.prog call n (lp Try.prog 29 122) τ H = evN Try.prog call n 29 244 (sub (Try.f29.body.getD .skip) 200 244) τ H := lp_at Try.func29 122 (by decide) 7 (by decide) (by kernel_rfl) call n τ H
/-! 30: impl.ReadVersions -/
theorem ok30 : goodFn Try.f30 = true := by kernel_rfl
/-! 31: laws.sameInts -/
theorem ok31 : goodFn Try.f31 = true := by kernel_rfl
theorem lp31_58 (call : CallF) (n : Nat) (τ : Tm) (H : AH) : evCode Try.prog call n (lp Try.prog 31 58) τ H = evN Try.prog call n 31 116 (sub (Try.f31.body.getD .skip) 200 116) τ H := lp_at Try.func31 58 (by decide) 6 (by decide) (by kernel_rfl) call n τ H
@[simp] theorem dr31_1864 : dr Try.prog 31 1864 = some [] := (dr_eq Try.func31 1864).trans (by kernel_rfl)
/-! 32: spec.DrawResetToken -/
theorem ok32 : goodFn Try.f32 = true := by kernel_rfl
/-! 33: impl.ResetToken -/
theorem ok33 : goodFn Try.f33 = true := by kernel_rfl
/-! 34: spec.ResetToken -/
theorem ok34 : goodFn Try.f34 = true := by kernel_rfl
/-! 35: impl.ResetPacket -/
theorem ok35 : goodFn Try.f35 = true := by kernel_rfl
/-! 36: laws.at -/
theorem ok36 : goodFn Try.f36 = true := by kernel_rfl
@[simp] theorem dr36_30 : dr Try.prog 36 30 = some [] := (dr_eq Try.func36 30).trans (by kernel_rfl)
/-! 37: impl.IsReset -/
theorem ok37 : goodFn Try.f37 = true := by kernel_rfl
theorem lp37_58 (call : CallF) (n : Nat) (τ : Tm) (H : AH) : evCode Try.prog call n (lp Try.prog 37 58) τ H = evN Try.prog call n 37 116 (sub (Try.f37.body.getD .skip) 200 116) τ H := lp_at Try.func37 58 (by decide) 6 (by decide) (by kernel_rfl) call n τ H
@[simp] theorem dr37_7474 : dr Try.prog 37 7474 = some [] := (dr_eq Try.func37 7474).trans (by kernel_rfl)
/-! 38: spec.l04Peek -/
theorem ok38 : goodFn Try.f38 = true := by kernel_rfl
@[simp] theorem dr38_16372 : dr Try.prog 38 16372 = some [(0, 3)] := (dr_eq Try.func38 16372).trans (by kernel_rfl)
@[simp] theorem dr38_131060 : dr Try.prog 38 131060 = some [(0, 3)] := (dr_eq Try.func38 131060).trans (by kernel_rfl)
@[simp] theorem dr38_1073741492 : dr Try.prog 38 1073741492 = some [(0, 3)] := (dr_eq Try.func38 1073741492).trans (by kernel_rfl)
@[simp] theorem dr38_134217716 : dr Try.prog 38 134217716 = some [(0, 3)] := (dr_eq Try.func38 134217716).trans (by kernel_rfl)
@[simp] theorem dr38_134217726 : dr Try.prog 38 134217726 = some [(4, 6)] := (dr_eq Try.func38 134217726).trans (by kernel_rfl)
/-! 39: spec.l03Copy -/
theorem ok39 : goodFn Try.f39 = true := by kernel_rfl
/-! 40: impl.tooLong -/
theorem ok40 : goodFn Try.f40 = true := by kernel_rfl
/-! 41: impl.copied -/
theorem ok41 : goodFn Try.f41 = true := by kernel_rfl
/-! 42: laws.heldByteS -/
theorem ok42 : goodFn Try.f42 = true := by kernel_rfl
theorem lp42_26 (call : CallF) (n : Nat) (τ : Tm) (H : AH) : evCode Try.prog call n (lp Try.prog 42 26) τ H = evN Try.prog call n 42 52 (sub (Try.f42.body.getD .skip) 200 52) τ H := lp_at Try.func42 26 (by decide) 5 (by decide) (by kernel_rfl) call n τ H
/-! 43: impl.peek -/
theorem ok43 : goodFn Try.f43 = true := by kernel_rfl
@[simp] theorem dr43_511934 : dr Try.prog 43 511934 = some [(2, 9), (7, 9)] := (dr_eq Try.func43 511934).trans (by kernel_rfl)
@[simp] theorem dr43_8180 : dr Try.prog 43 8180 = some [(4, 6)] := (dr_eq Try.func43 8180).trans (by kernel_rfl)
@[simp] theorem dr43_1048574 : dr Try.prog 43 1048574 = some [(4, 11), (9, 11)] := (dr_eq Try.func43 1048574).trans (by kernel_rfl)
/-! 44: spec.l04RetryTag -/
theorem ok44 : goodFn Try.f44 = true := by kernel_rfl
/-! 45: impl.retryTag -/
theorem ok45 : goodFn Try.f45 = true := by kernel_rfl
/-! 46: spec.l01Source -/
theorem ok46 : goodFn Try.f46 = true := by kernel_rfl
/-! 47: spec.l04Bent -/
theorem ok47 : goodFn Try.f47 = true := by kernel_rfl
/-! 48: spec.l04DrawRetry -/
theorem ok48 : goodFn Try.f48 = true := by kernel_rfl
/-! 49: spec.l01Src).chance -/
theorem ok49 : goodFn Try.f49 = true := by kernel_rfl
/-! 50: spec.l01Src).bytes -/
theorem ok50 : goodFn Try.f50 = true := by kernel_rfl
theorem lp50_58 (call : CallF) (n : Nat) (τ : Tm) (H : AH) : evCode Try.prog call n (lp Try.prog 50 58) τ H = evN Try.prog call n 50 116 (sub (Try.f50.body.getD .skip) 200 116) τ H := lp_at Try.func50 58 (by decide) 6 (by decide) (by kernel_rfl) call n τ H
/-! 51: spec.l01Src).next -/
theorem ok51 : goodFn Try.f51 = true := by kernel_rfl
/-! 52: impl.versionOK -/
theorem ok52 : goodFn Try.f52 = true := by kernel_rfl
/-! 53: impl.longBegin -/
theorem ok53 : goodFn Try.f53 = true := by kernel_rfl
/-! 54: spec.l04VersionOK -/
theorem ok54 : goodFn Try.f54 = true := by kernel_rfl
/-! 55: spec.l04Ids -/
theorem ok55 : goodFn Try.f55 = true := by kernel_rfl
/-! 56: spec.l01Src).cid -/
theorem ok56 : goodFn Try.f56 = true := by kernel_rfl
/-! 57: spec.l04DrawVersions -/
theorem ok57 : goodFn Try.f57 = true := by kernel_rfl
theorem lp57_58 (call : CallF) (n : Nat) (τ : Tm) (H : AH) : evCode Try.prog call n (lp Try.prog 57 58) τ H = evN Try.prog call n 57 116 (sub (Try.f57.body.getD .skip) 200 116) τ H := lp_at Try.func57 58 (by decide) 6 (by decide) (by kernel_rfl) call n τ H
/-! 58: impl.fixed -/
theorem ok58 : goodFn Try.f58 = true := by kernel_rfl
theorem lp58_26 (call : CallF) (n : Nat) (τ : Tm) (H : AH) : evCode Try.prog call n (lp Try.prog 58 26) τ H = evN Try.prog call n 58 52 (sub (Try.f58.body.getD .skip) 200 52) τ H := lp_at Try.func58 26 (by decide) 5 (by decide) (by kernel_rfl) call n τ H
/-! 59: spec.l01Digits -/
theorem ok59 : goodFn Try.f59 = true := by kernel_rfl
/-! 60: impl.versionsOf -/
theorem ok60 : goodFn Try.f60 = true := by kernel_rfl
theorem lp60_122 (call : CallF) (n : Nat) (τ : Tm) (H : AH) : evCode Try.prog call n (lp Try.prog 60 122) τ H = evN Try.prog call n 60 244 (sub (Try.f60.body.getD .skip) 200 244) τ H := lp_at Try.func60 122 (by decide) 7 (by decide) (by kernel_rfl) call n τ H
/-! 61: impl.digest -/
theorem ok61 : goodFn Try.f61 = true := by kernel_rfl
theorem lp61_1018 (call : CallF) (n : Nat) (τ : Tm) (H : AH) : evCode Try.prog call n (lp Try.prog 61 1018) τ H = evN Try.prog call n 61 2036 (sub (Try.f61.body.getD .skip) 200 2036) τ H := lp_at Try.func61 1018 (by decide) 10 (by decide) (by kernel_rfl) call n τ H
@[simp] theorem dr61_2044 : dr Try.prog 61 2044 = some [] := (dr_eq Try.func61 2044).trans (by kernel_rfl)
theorem lp61_4090 (call : CallF) (n : Nat) (τ : Tm) (H : AH) : evCode Try.prog call n (lp Try.prog 61 4090) τ H = evN Try.prog call n 61 8180 (sub (Try.f61.body.getD .skip) 200 8180) τ H := lp_at Try.func61 4090 (by decide) 12 (by decide) (by kernel_rfl) call n τ H
/-! 62: spec.l03Digest -/
theorem ok62 : goodFn Try.f62 = true := by kernel_rfl
@[simp] theorem dr62_14 : dr Try.prog 62 14 = some [(0, 4)] := (dr_eq Try.func62 14).trans (by kernel_rfl)
@[simp] theorem dr62_126 : dr Try.prog 62 126 = some [(0, 4)] := (dr_eq Try.func62 126).trans (by kernel_rfl)
theorem lp62_1018 (call : CallF) (n : Nat) (τ : Tm) (H : AH) : evCode Try.prog call n (lp Try.prog 62 1018) τ H = evN Try.prog call n 62 2036 (sub (Try.f62.body.getD .skip) 200 2036) τ H := lp_at Try.func62 1018 (by decide) 10 (by decide) (by kernel_rfl) call n τ H
/-! 63: spec.l04Reader).fixed -/
theorem ok63 : goodFn Try.f63 = true := by kernel_rfl
/-! 64: spec.l04Reader).take -/
theorem ok64 : goodFn Try.f64 = true := by kernel_rfl
@[simp] theorem dr64_12 : dr Try.prog 64 12 = some [] := (dr_eq Try.func64 12).trans (by kernel_rfl)
@[simp] theorem dr64_30 : dr Try.prog 64 30 = some [] := (dr_eq Try.func64 30).trans (by kernel_rfl)
/-! 65: spec.l04Fault -/
theorem ok65 : goodFn Try.f65 = true := by kernel_rfl
/-! 66: spec.l04ReadVersions -/
theorem ok66 : goodFn Try.f66 = true := by kernel_rfl
@[simp] theorem dr66_14 : dr Try.prog 66 14 = some [] := (dr_eq Try.func66 14).trans (by kernel_rfl)
theorem lp66_124 (call : CallF) (n : Nat) (τ : Tm) (H : AH) : evCode Try.prog call n (lp Try.prog 66 124) τ H = evN Try.prog call n 66 248 (sub (Try.f66.body.getD .skip) 200 248) τ H := lp_at Try.func66 124 (by decide) 7 (by decide) (by kernel_rfl) call n τ H
@[simp] theorem dr66_992 : dr Try.prog 66 992 = some [] := (dr_eq Try.func66 992).trans (by kernel_rfl)
/-! 67: spec.l04Retry -/
theorem ok67 : goodFn Try.f67 = true := by kernel_rfl
@[simp] theorem dr67_6 : dr Try.prog 67 6 = some [] := (dr_eq Try.func67 6).trans (by kernel_rfl)
@[simp] theorem dr67_254 : dr Try.prog 67 254 = some [(4, 7), (5, 7)] := (dr_eq Try.func67 254).trans (by kernel_rfl)
/-! 68: spec.l04Reader).variable -/
theorem ok68 : goodFn Try.f68 = true := by kernel_rfl
@[simp] theorem dr68_14 : dr Try.prog 68 14 = some [] := (dr_eq Try.func68 14).trans (by kernel_rfl)
/-! 69: impl.scanner).octet -/
theorem ok69 : goodFn Try.f69 = true := by kernel_rfl
/-! 70: impl.scanner).fail -/
theorem ok70 : goodFn Try.f70 = true := by kernel_rfl
/-! 71: impl.scanner).take -/
theorem ok71 : goodFn Try.f71 = true := by kernel_rfl
@[simp] theorem dr71_28 : dr Try.prog 71 28 = some [] := (dr_eq Try.func71 28).trans (by kernel_rfl)
@[simp] theorem dr71_30 : dr Try.prog 71 30 = some [] := (dr_eq Try.func71 30).trans (by kernel_rfl)
/-! 72: impl.unfixed -/
theorem ok72 : goodFn Try.f72 = true := by kernel_rfl
theorem lp72_58 (call : CallF) (n : Nat) (τ : Tm) (H : AH) : evCode Try.prog call n (lp Try.prog 72 58) τ H = evN Try.prog call n 72 116 (sub (Try.f72.body.getD .skip) 200 116) τ H := lp_at Try.func72 58 (by decide) 6 (by decide) (by kernel_rfl) call n τ H
/-! 73: impl.scanner).cid -/
theorem ok73 : goodFn Try.f73 = true := by kernel_rfl
/-! 74: impl.scanner).number -/
theorem ok74 : goodFn Try.f74 = true := by kernel_rfl
@[simp] theorem dr74_14 : dr Try.prog 74 14 = some [] := (dr_eq Try.func74 14).trans (by kernel_rfl)
/-! 75: spec.l01Src).number -/
theorem ok75 : goodFn Try.f75 = true := by kernel_rfl
/-! 76: spec.l01Src).byte -/
theorem ok76 : goodFn Try.f76 = true := by kernel_rfl
@[simp] theorem dr76_28 : dr Try.prog 76 28 = some [] := (dr_eq Try.func76 28).trans (by kernel_rfl)
@[simp] theorem dr76_116 : dr Try.prog 76 116 = some [] := (dr_eq Try.func76 116).trans (by kernel_rfl)
@[simp] theorem dr76_234 : dr Try.prog 76 234 = some [] := (dr_eq Try.func76 234).trans (by kernel_rfl)
@[simp] theorem dr76_60 : dr Try.prog 76 60 = some [] := (dr_eq Try.func76 60).trans (by kernel_rfl)
/-! 77: impl.stirrer).stir -/
theorem ok77 : goodFn Try.f77 = true := by kernel_rfl
theorem lp77_6 (call : CallF) (n : Nat) (τ : Tm) (H : AH) : evCode Try.prog call n (lp Try.prog 77 6) τ H = evN Try.prog call n 77 12 (sub (Try.f77.body.getD .skip) 200 12) τ H := lp_at Try.func77 6 (by decide) 3 (by decide) (by kernel_rfl) call n τ H
@[simp] theorem dr77_1638 : dr Try.prog 77 1638 = some [] := (dr_eq Try.func77 1638).trans (by kernel_rfl)
@[simp] theorem dr77_3278 : dr Try.prog 77 3278 = some [] := (dr_eq Try.func77 3278).trans (by kernel_rfl)
@[simp] theorem dr77_6558 : dr Try.prog 77 6558 = some [] := (dr_eq Try.func77 6558).trans (by kernel_rfl)
@[simp] theorem dr77_6559 : dr Try.prog 77 6559 = some [] := (dr_eq Try.func77 6559).trans (by kernel_rfl)
/-! 78: spec.l03Stir -/
theorem ok78 : goodFn Try.f78 = true := by kernel_rfl
theorem lp78_26 (call : CallF) (n : Nat) (τ : Tm) (H : AH) : evCode Try.prog call n (lp Try.prog 78 26) τ H = evN Try.prog call n 78 52 (sub (Try.f78.body.getD .skip) 200 52) τ H := lp_at Try.func78 26 (by decide) 5 (by decide) (by kernel_rfl) call n τ H
@[simp] theorem dr78_840 : dr Try.prog 78 840 = some [] := (dr_eq Try.func78 840).trans (by kernel_rfl)
/-! 79: spec.l01Value -/
theorem ok79 : goodFn Try.f79 = true := by kernel_rfl
theorem lp79_58 (call : CallF) (n : Nat) (τ : Tm) (H : AH) : evCode Try.prog call n (lp Try.prog 79 58) τ H = evN Try.prog call n 79 116 (sub (Try.f79.body.getD .skip) 200 116) τ H := lp_at Try.func79 58 (by decide) 6 (by decide) (by kernel_rfl) call n τ H
/-! 80: spec.GetVar -/
theorem ok80 : goodFn Try.f80 = true := by kernel_rfl
theorem lp80_506 (call : CallF) (n : Nat) (τ : Tm) (H : AH) : evCode Try.prog call n (lp Try.prog 80 506) τ H = evN Try.prog call n 80 1012 (sub (Try.f80.body.getD .skip) 200 1012) τ H := lp_at Try.func80 506 (by decide) 9 (by decide) (by kernel_rfl) call n τ H
theorem lp80_4090 (call : CallF) (n : Nat) (τ : Tm) (H : AH) : evCode Try.prog call n (lp Try.prog 80 4090) τ H = evN Try.prog call n 80 8180 (sub (Try.f80.body.getD .skip) 200 8180) τ H := lp_at Try.func80 4090 (by decide) 12 (by decide) (by kernel_rfl) call n τ H
/-! 81: impl.GetVar -/
theorem ok81 : goodFn Try.f81 = true := by kernel_rfl
@[simp] theorem dr81_254 : dr Try.prog 81 254 = some [] := (dr_eq Try.func81 254).trans (by kernel_rfl)
/-! 82: bits.RotateLeft32 -/
theorem ok82 : goodFn Try.f82 = true := by kernel_rfl
/-! 83: spec.l03Rot -/
theorem ok83 : goodFn Try.f83 = true := by kernel_rfl
end Go.Ev

/- Byte slices: the laws' helpers. -/
namespace Go.Ev
open Go Go.Proofs
set_option linter.unusedSimpArgs false
set_option linter.unusedVariables false

/-- s shows the bytes l -/
abbrev Bs (H : AH) (s : AV) (l : List Int) : Prop := Sl Try.prog 22 5 H s (u8L l)
theorem Bs.len {H : AH} {s : AV} {l : List Int} (h : Bs H s l) (h' : AH) : lenA Try.prog 22 s h' = some (.int .i64 l.length) := by
  have := Sl.len h h'
  simpa [u8L] using this
theorem Bs.at_ {H : AH} {s : AV} {l : List Int} (h : Bs H s l) : ∃ b o, (0 < l.length → b < H.next) ∧ (∀ i : Nat, i < l.length → idxA Try.prog 22 s (.int .i64 i) = some (.ptr b (o + i))) ∧
    ∀ h' : AH, h'.get b = H.get b → ∀ i (hi : i < l.length), ldVar Try.prog 5 b (o + i) h' = some (.int .u8 l[i]) := by
  obtain ⟨b, o, h1, h2, h3⟩ := Sl.at_ h
  have hl : (u8L l).length = l.length := by simp [u8L]
  refine ⟨b, o, by rw [hl] at h1; exact h1, fun i hi => h2 i (by rw [hl]; exact hi), fun h' hh i hi => ?_⟩
  rw [h3 h' hh i (by rw [hl]; exact hi)]
  simp [u8L]
theorem Bs.mk' {H : AH} {b : Nat} {ro : Bool} {l : List Int} (hb : H.get b = some (.cells 5 ro (u8L l))) (hn : b < H.next) : Bs H (.slice b 0 l.length) l := by
  have := Sl.whole (P := Try.prog) (t := 22) (e := 5) (by simp) (by simp) (by simp) hb hn
  rw [u8L_len] at this; exact this

/-! toByteS -/
theorem toByteS_loop {s : AV} {l : List Int} {H : AH} (hs : Bs H s l) (hl : l.length ≤ 70368744177664) (call : CallF) (m : Nat) (hm : l.length + 1 ≤ m) (τ : Tm) (h : AH)
    (t0 : τ 0 = s) (t3 : τ 3 = .slice H.next 0 l.length) (t4 : τ 4 = .int .i64 0) (hK : Kp H h) (hN : h.next = H.next + 1) (hg : h.get H.next = some (.cells 5 false (List.replicate l.length (.int .u8 0)))) :
    ∃ e τ' H', evLoop Try.prog call m (lp Try.prog 8 58) τ h = some (e, τ', H') ∧ e = .exit 0 ∧ τ' 3 = .slice H.next 0 l.length ∧ Kp H H' ∧ H'.next = H.next + 1 ∧ H'.get H.next = some (.cells 5 false (u8L l)) := by
  refine loop_rule
    (fun d τ h => ∃ k : Nat, k + d = l.length ∧ τ 0 = s ∧ τ 3 = .slice H.next 0 l.length ∧ τ 4 = .int .i64 k ∧ Kp H h ∧ h.next = H.next + 1 ∧ h.get H.next = some (.cells 5 false (u8L (l.take k) ++ List.replicate d (.int .u8 0))))
    (fun e τ h => e = .exit 0 ∧ τ 3 = .slice H.next 0 l.length ∧ Kp H h ∧ h.next = H.next + 1 ∧ h.get H.next = some (.cells 5 false (u8L l)))
    ?_ (d := l.length) ⟨0, Nat.zero_add _, t0, t3, t4, hK, hN, by simpa [u8L] using hg⟩ (by omega)
  rintro d τ h ⟨k, hk, t0, t3, t4, hK, hN, hg⟩
  obtain ⟨b, o, a1, a2, a3⟩ := hs.at_
  by_cases hd : d = 0
  · subst hd
    have : k = l.length := by omega
    subst this
    rewrite [lp8_58]
    simp [Try.f8, t0, t3, t4, hs.len]
    exact ⟨hK, hN, by simpa using hg⟩
  · have hlt : k < l.length := by omega
    have hbn := a1 (by omega)
    have hbk := hK.get b hbn
    have hd0 : 1 ≤ d := by omega
    have hix : idxA Try.prog 22 (.slice H.next 0 l.length) (.int .i64 k) = some (.ptr H.next k) := by simp [idxA, hlt]
    have hst := st_one (P := Try.prog) (t := 5) (o := k) (v := .int .u8 l[k]) hg (by simp) rfl (by simp [u8L]; omega)
    rewrite [lp8_58]
    simp [Try.f8, t0, t3, t4, hs.len, hlt, a2 k hlt, a3 h hbk k hlt, hix, hst, wrap_i64 (n := (k : Int) + 1) (by omega) (by omega)]
    refine ⟨d - 1, by omega, k + 1, by omega, by simp, hK.set (Nat.le_refl _) _, hN, ?_⟩
    obtain ⟨q, rfl⟩ : ∃ q, d = q + 1 := ⟨d - 1, by omega⟩
    rw [List.set_append_right _ _ (by simp [u8L]; omega)]
    have hmin : min k l.length = k := by omega
    simp [u8L, List.replicate_succ, hmin]
    rw [List.take_add_one]
    simp [hlt]
theorem toByteS_ev {s : AV} {l : List Int} {H : AH} (hs : Bs H s l) (hl : l.length ≤ 70368744177664) (m : Nat) (hm : l.length + 1 ≤ m) :
    ∃ H', ev Try.prog (m + 1) 8 [s] H = some (.slice H.next 0 l.length, H') ∧ Kp H H' ∧ H'.next = H.next + 1 ∧ H'.get H.next = some (.cells 5 false (u8L l)) := by
  rw [ev_eq Try.func8 ok8 m _ H (by simp [Try.f8])]
  have h1 : 0 ≤ (l.length : Int) ∧ (l.length : Int) ≤ 281474976710656 := by omega
  simp [Try.f8, h1, hs.len]
  generalize hL : evLoop _ _ _ _ _ _ = R
  obtain ⟨e, τ', H', rfl, rfl, g3, g4, g5, g6⟩ := loop_at hL (toByteS_loop hs hl _ m hm _ _ (by simp) (by simp) (by simp) ((Kp.refl H).push _) rfl (by simp [zerosA_one_eq]))
  simp [g3]
  exact ⟨g4, g5, g6⟩

/-! eqByteS -/
theorem eqByteS_loop {s1 s2 : AV} {l1 l2 : List Int} {H : AH} (h1 : Bs H s1 l1) (h2 : Bs H s2 l2) (hlen : l1.length = l2.length) (hl : l1.length ≤ 70368744177664) (call : CallF) (m : Nat) (hm : l1.length + 1 ≤ m) (τ : Tm)
    (t0 : τ 0 = s1) (t1 : τ 1 = s2) (t5 : τ 5 = .int .i64 0) :
    ∃ e τ' H', evLoop Try.prog call m (lp Try.prog 11 58) τ H = some (e, τ', H') ∧ H' = H ∧ ((e = .exit 0 ∧ l1 = l2) ∨ (e = .ret ∧ τ' 4 = .bool false ∧ l1 ≠ l2)) := by
  refine loop_rule
    (fun d τ h => h = H ∧ ∃ k : Nat, k + d = l1.length ∧ τ 0 = s1 ∧ τ 1 = s2 ∧ τ 5 = .int .i64 k ∧ l1.take k = l2.take k)
    (fun e τ h => h = H ∧ ((e = .exit 0 ∧ l1 = l2) ∨ (e = .ret ∧ τ 4 = .bool false ∧ l1 ≠ l2)))
    ?_ (d := l1.length) ⟨rfl, 0, Nat.zero_add _, t0, t1, t5, by simp⟩ (by omega)
  rintro d τ h ⟨rfl, k, hk, t0, t1, t5, hg⟩
  obtain ⟨b, o, a1, a2, a3⟩ := h1.at_
  obtain ⟨b', o', c1, c2, c3⟩ := h2.at_
  by_cases hd : d = 0
  · subst hd
    have : k = l1.length := by omega
    subst this
    rewrite [lp11_58]
    simp [Try.f11, t0, t1, t5, h1.len, h2.len]
    rw [List.take_length, hlen, List.take_length] at hg; exact hg
  · have hlt : k < l1.length := by omega
    have hlt2 : k < l2.length := by omega
    by_cases he : l1[k] = l2[k]
    · rewrite [lp11_58]
      simp [Try.f11, t0, t1, t5, h1.len, h2.len, hlt, a2 k hlt, a3 h rfl k hlt, c2 k hlt2, c3 h rfl k hlt2, he, wrap_i64 (n := (k : Int) + 1) (by omega) (by omega)]
      refine ⟨d - 1, by omega, k + 1, by omega, by simp, ?_⟩
      rw [List.take_add_one, List.take_add_one, hg]; simp [hlt, hlt2, he]
    · rewrite [lp11_58]
      simp [Try.f11, t0, t1, t5, h1.len, h2.len, hlt, a2 k hlt, a3 h rfl k hlt, c2 k hlt2, c3 h rfl k hlt2, he]
      intro h; apply he; subst h; rfl
theorem eqByteS_ev {s1 s2 : AV} {l1 l2 : List Int} {H : AH} (h1 : Bs H s1 l1) (h2 : Bs H s2 l2) (hl : l1.length ≤ 70368744177664) (m : Nat) (hm : l1.length + 2 ≤ m) :
    ev Try.prog m 11 [s1, s2] H = some (.bool (decide (l1 = l2)), H) := by
  obtain ⟨m, rfl⟩ : ∃ k, m = k + 1 := ⟨m - 1, by omega⟩
  rw [ev_eq Try.func11 ok11 m _ H (by simp [Try.f11])]
  by_cases hlen : l1.length = l2.length
  · simp [Try.f11, h1.len, h2.len, hlen]
    generalize hL : evLoop _ _ _ _ _ _ = R
    obtain ⟨e, τ', H', rfl, rfl, ⟨rfl, g⟩ | ⟨rfl, g, g2⟩⟩ := loop_at hL (eqByteS_loop h1 h2 hlen hl _ m (by omega) _ (by simp) (by simp) (by simp))
    · simp [g]
    · simp [g, g2]
  · have hne : l1 ≠ l2 := fun h => hlen (by rw [h])
    have hlen' : ¬ ((l1.length : Int) = l2.length) := by omega
    simp [Try.f11, h1.len, h2.len, hlen', hne]

/-! markByteS, heldByteS -/
/-- what mark writes -/
def marks (k : Int) (n : Nat) : List Int := (List.range n).map fun (i : Nat) => (k + (i : Int)) % 256
theorem marks_len (k : Int) (n : Nat) : (marks k n).length = n := by simp [marks]
theorem marks_get (k : Int) (n i : Nat) (h : i < n) : (marks k n)[i]'(by simp [marks_len, h]) = (k + i) % 256 := by simp [marks]
theorem marks_succ (k : Int) (n : Nat) : marks k (n + 1) = marks k n ++ [(k + n) % 256] := by simp [marks, List.range_succ]
/-- s is a block of its own, in the span lo .. hi -/
def Ow (lo hi : Nat) (H : AH) (s : AV) (l : List Int) : Prop :=
  (s = .nilSlice ∧ l = []) ∨ ∃ b, lo ≤ b ∧ b < hi ∧ hi ≤ H.next ∧ s = .slice b 0 l.length ∧ H.get b = some (.cells 5 false (u8L l))
theorem Ow.bs {lo hi : Nat} {H : AH} {s : AV} {l : List Int} (h : Ow lo hi H s l) : Bs H s l := by
  rcases h with ⟨rfl, rfl⟩ | ⟨b, h1, h2, h3, rfl, h4⟩
  · exact ⟨by simp, by simp, by simp, .inl ⟨rfl, rfl⟩⟩
  · exact Bs.mk' h4 (by omega)
/-- nothing but the blocks of the span has turned -/
structure Ko (lo hi : Nat) (H H' : AH) : Prop where
  next : H.next ≤ H'.next
  get : ∀ b, b < H.next → (b < lo ∨ hi ≤ b) → H'.get b = H.get b
theorem wrap_u8 (n : Int) : IntKind.u8.wrap n = n % 256 := by rw [IntKind.wrap_u8]
theorem Ow.mark_loop {lo hi b : Nat} {l : List Int} {H : AH} (hb : H.get b = some (.cells 5 false (u8L l))) (hn : b < H.next) (hlo : lo ≤ b) (hhi : b < hi) (hl : l.length ≤ 70368744177664) (k0 : Int) (hk0 : 0 ≤ k0) (hk1 : k0 ≤ 70368744177664)
    (call : CallF) (m : Nat) (hm : l.length + 1 ≤ m) (τ : Tm) (t0 : τ 0 = .slice b 0 l.length) (t1 : τ 1 = .int .i64 k0) (t3 : τ 5 = .int .i64 0) :
    ∃ e τ' H', evLoop Try.prog call m (lp Try.prog 12 26) τ H = some (e, τ', H') ∧ e = .exit 0 ∧ τ' 1 = .int .i64 (k0 + l.length) ∧ Ko lo hi H H' ∧ H'.next = H.next ∧ H'.get b = some (.cells 5 false (u8L (marks k0 l.length))) := by
  refine loop_rule
    (fun d τ h => ∃ k : Nat, k + d = l.length ∧ τ 0 = .slice b 0 l.length ∧ τ 1 = .int .i64 (k0 + k) ∧ τ 5 = .int .i64 k ∧ Ko lo hi H h ∧ h.next = H.next ∧ h.get b = some (.cells 5 false (u8L (marks k0 k ++ l.drop k))))
    (fun e τ h => e = .exit 0 ∧ τ 1 = .int .i64 (k0 + l.length) ∧ Ko lo hi H h ∧ h.next = H.next ∧ h.get b = some (.cells 5 false (u8L (marks k0 l.length))))
    ?_ (d := l.length) ⟨0, Nat.zero_add _, t0, by simp [t1], t3, ⟨Nat.le_refl _, fun _ _ _ => rfl⟩, rfl, by simpa [marks] using hb⟩ (by omega)
  rintro d τ h ⟨k, hk, t0, t1, t3, hK, hN, hg⟩
  by_cases hd : d = 0
  · subst hd
    have : k = l.length := by omega
    subst this
    rewrite [lp12_26]
    simp [Try.f12, t0, t1, t3]
    exact ⟨hK, hN, by simpa using hg⟩
  · have hlt : k < l.length := by omega
    have hd0 : 1 ≤ d := by omega
    have hix : idxA Try.prog 22 (.slice b 0 l.length) (.int .i64 k) = some (.ptr b k) := by simp [idxA, hlt]
    have hst := st_one (P := Try.prog) (t := 5) (o := k) (v := .int .u8 ((k0 + k) % 256)) hg (by simp) rfl (by simp [u8L, marks_len]; omega)
    rewrite [lp12_26]
    simp [Try.f12, t0, t1, t3, hlt, hix, hst, convA, wrap_u8, wrap_i64 (n := (k : Int) + 1) (by omega) (by omega), wrap_i64 (n := k0 + (k : Int) + 1) (by omega) (by omega)]
    refine ⟨d - 1, by omega, k + 1, by omega, by simp; omega, by simp, ⟨hK.next, fun c hc hcc => ?_⟩, hN, ?_⟩
    · rw [AH.set_get, if_neg (by omega)]; exact hK.get c hc hcc
    · obtain ⟨q, rfl⟩ : ∃ q, d = q + 1 := ⟨d - 1, by omega⟩
      rw [marks_succ]
      have hml : (marks k0 k).length = k := marks_len _ _
      simp [u8L, List.set_append_right, hml]
      rw [List.drop_eq_getElem_cons (by simpa using hlt)]
      simp
theorem markByteS_ev {lo hi : Nat} {s : AV} {l : List Int} {H : AH} (h : Ow lo hi H s l) (hl : l.length ≤ 70368744177664) (k0 : Int) (hk0 : 0 ≤ k0) (hk1 : k0 ≤ 70368744177664) (m : Nat) (hm : l.length + 2 ≤ m) :
    ∃ H', ev Try.prog m 12 [s, .int .i64 k0] H = some (.int .i64 (k0 + l.length), H') ∧ Ko lo hi H H' ∧ H'.next = H.next ∧ Ow lo hi H' s (marks k0 l.length) := by
  obtain ⟨m, rfl⟩ : ∃ k, m = k + 1 := ⟨m - 1, by omega⟩
  rcases h with ⟨rfl, rfl⟩ | ⟨b, h1, h2, h3, rfl, h4⟩
  · refine ⟨H, ?_, ⟨Nat.le_refl _, fun _ _ _ => rfl⟩, rfl, .inl ⟨rfl, rfl⟩⟩
    rw [ev_eq Try.func12 ok12 m _ H (by simp [Try.f12])]
    simp [Try.f12]
    generalize hL : evLoop _ _ _ _ _ _ = R
    obtain ⟨e, τ', H', rfl, rfl, rfl, g⟩ := loop_at hL (loop_rule (d := 0) (fun d τ h => h = H ∧ τ 0 = .nilSlice ∧ τ 1 = .int .i64 k0 ∧ τ 5 = .int .i64 0) (fun e τ h => e = .exit 0 ∧ h = H ∧ τ 1 = .int .i64 k0)
      (by
        rintro d τ h ⟨rfl, t0, t1, t5⟩
        rewrite [lp12_26]
        simp [Try.f12, t0, t1, t5]) ⟨rfl, by simp, by simp, by simp⟩ (by simp at hm; omega))
    simp [g]
  · rw [ev_eq Try.func12 ok12 m _ H (by simp [Try.f12])]
    simp [Try.f12]
    generalize hL : evLoop _ _ _ _ _ _ = R
    obtain ⟨e, τ', H', rfl, rfl, g1, g2, g3, g4⟩ := loop_at hL (Ow.mark_loop h4 (by omega) h1 h2 hl k0 hk0 hk1 _ m (by omega) _ (by simp) (by simp) (by simp))
    simp [g1]
    exact ⟨g2, g3, .inr ⟨b, h1, h2, by omega, by simp [marks_len], g4⟩⟩
theorem heldByteS_ev {s : AV} {H : AH} (k0 : Int) (n : Nat) (h : Bs H s (marks k0 n)) (hl : n ≤ 70368744177664) (hk0 : 0 ≤ k0) (hk1 : k0 ≤ 70368744177664) (m : Nat) (hm : n + 2 ≤ m) :
    ev Try.prog m 42 [s, .int .i64 k0] H = some (.int .i64 (k0 + n), H) := by
  obtain ⟨m, rfl⟩ : ∃ k, m = k + 1 := ⟨m - 1, by omega⟩
  rw [ev_eq Try.func42 ok42 m _ H (by simp [Try.f42])]
  simp [Try.f42]
  generalize hL : evLoop _ _ _ _ _ _ = R
  obtain ⟨e, τ', H', rfl, rfl, rfl, g⟩ := loop_at hL (loop_rule (d := n) (fun d τ h => h = H ∧ ∃ k : Nat, k + d = n ∧ τ 0 = s ∧ τ 1 = .int .i64 (k0 + k) ∧ τ 5 = .int .i64 k) (fun e τ h => e = .exit 0 ∧ h = H ∧ τ 1 = .int .i64 (k0 + n))
    (by
      rintro d τ h' ⟨rfl, k, hk, t0, t1, t5⟩
      obtain ⟨b, o, a1, a2, a3⟩ := h.at_
      simp only [marks_len] at a1 a2 a3
      by_cases hd : d = 0
      · subst hd
        have : k = n := by omega
        subst this
        rewrite [lp42_26]
        simp [Try.f42, t0, t1, t5, h.len, marks_len]
      · have hlt : k < n := by omega
        have hd0 : 1 ≤ d := by omega
        rewrite [lp42_26]
        simp [Try.f42, t0, t1, t5, h.len, marks_len, hlt, a2 k hlt, a3 h' rfl k hlt, marks_get, convA, wrap_u8, wrap_i64 (n := (k : Int) + 1) (by omega) (by omega), wrap_i64 (n := k0 + (k : Int) + 1) (by omega) (by omega)]
        exact ⟨d - 1, by omega, k + 1, by omega, by simp; omega, by simp⟩) ⟨rfl, 0, by simp, by simp, by simp, by simp⟩ (by omega))
  simp [g]
end Go.Ev

/- Headers; the scanner's first steps. -/
namespace Go.Ev
open Go Go.Proofs
set_option linter.unusedSimpArgs false
set_option linter.unusedVariables false

theorem Bs.kp {H H' : AH} {s : AV} {l : List Int} (h : Bs H s l) (hK : Kp H H') : Bs H' s l := Sl.kp h hK
theorem Bs.nil (H : AH) : Bs H .nilSlice [] := ⟨by simp, by simp, by simp, .inl ⟨rfl, rfl⟩⟩
theorem Ow.kp {lo hi : Nat} {H H' : AH} {s : AV} {l : List Int} (h : Ow lo hi H s l) (hK : Kp H H') : Ow lo hi H' s l := by
  rcases h with h | ⟨b, h1, h2, h3, h4, h5⟩
  · exact .inl h
  · exact .inr ⟨b, h1, h2, Nat.le_trans h3 hK.next, h4, by rw [hK.get b (by omega)]; exact h5⟩
theorem Ow.ko {lo hi lo' hi' : Nat} {H H' : AH} {s : AV} {l : List Int} (h : Ow lo hi H s l) (hK : Ko lo' hi' H H') (hd : hi ≤ lo' ∨ hi' ≤ lo) : Ow lo hi H' s l := by
  rcases h with h | ⟨b, h1, h2, h3, h4, h5⟩
  · exact .inl h
  · exact .inr ⟨b, h1, h2, Nat.le_trans h3 hK.next, h4, by rw [hK.get b (by omega) (by omega)]; exact h5⟩
theorem Ow.wide {lo hi lo' hi' : Nat} {H : AH} {s : AV} {l : List Int} (h : Ow lo hi H s l) (h1 : lo' ≤ lo) (h2 : hi ≤ hi') (h3 : hi' ≤ H.next) : Ow lo' hi' H s l := by
  rcases h with h | ⟨b, g1, g2, g3, g4, g5⟩
  · exact .inl h
  · exact .inr ⟨b, by omega, by omega, h3, g4, g5⟩
theorem Ko.kp {lo hi : Nat} {A H H' : AH} (h : Kp A H) (k : Ko lo hi H H') (hlo : A.next ≤ lo) : Kp A H' :=
  ⟨Nat.le_trans h.next k.next, fun b hb => by rw [k.get b (by have := h.next; omega) (by omega)]; exact h.get b hb⟩

theorem appBytes {H : AH} {s : AV} {l : List Int} (hs : Bs H s l) (hl : l.length ≤ 70368744177664) {h : AH} (hK : Kp H h) :
    ∃ r H', appA Try.prog 22 22 (.slice h.next 0 0) s (h.push (.cells 5 false [])) = some (r, H') ∧ Kp h H' ∧ Ow h.next H'.next H' r l := by
  have hs' : Bs (h.push (.cells 5 false [])) s l := hs.kp (hK.push _)
  have hn := hs'.news
  rw [u8L_len] at hn
  unfold appA
  simp only [tyE22, tyS5, tyB5, tyZ5, hn]
  by_cases h0 : l.length = 0
  · have : l = [] := List.eq_nil_of_length_eq_zero h0
    subst this
    refine ⟨_, _, rfl, (Kp.refl h).push _, .inr ⟨h.next, Nat.le_refl _, by simp, Nat.le_refl _, rfl, by simp [u8L]⟩⟩
  · simp [h0, hl]
    refine ⟨_, _, ⟨rfl, rfl⟩, ?_, .inr ⟨h.next + 1, by omega, by simp, by simp, rfl, by simp⟩⟩
    exact (((Kp.refl h).push _).kill (Nat.le_refl _)).push _
theorem copied_ev {Hb H : AH} {s : AV} {l : List Int} (hs : Bs Hb s l) (hK : Kp Hb H) (hl : l.length ≤ 70368744177664) (m : Nat) (hm : 1 ≤ m) :
    ∃ r H', ev Try.prog m 41 [s] H = some (r, H') ∧ Kp H H' ∧ Ow H.next H'.next H' r l := by
  obtain ⟨m, rfl⟩ : ∃ k, m = k + 1 := ⟨m - 1, by omega⟩
  obtain ⟨r, H', h1, h2, h3⟩ := appBytes hs hl hK
  refine ⟨r, H', ?_, h2, h3⟩
  rw [ev_eq Try.func41 ok41 m _ H (by simp [Try.f41])]
  simp [Try.f41, h1]
theorem l03Copy_ev {Hb H : AH} {s : AV} {l : List Int} (hs : Bs Hb s l) (hK : Kp Hb H) (hl : l.length ≤ 70368744177664) (m : Nat) (hm : 1 ≤ m) :
    ∃ r H', ev Try.prog m 39 [s] H = some (r, H') ∧ Kp H H' ∧ Ow H.next H'.next H' r l := by
  obtain ⟨m, rfl⟩ : ∃ k, m = k + 1 := ⟨m - 1, by omega⟩
  obtain ⟨r, H', h1, h2, h3⟩ := appBytes hs hl hK
  refine ⟨r, H', ?_, h2, h3⟩
  rw [ev_eq Try.func39 ok39 m _ H (by simp [Try.f39])]
  simp [Try.f39, h1]
theorem tooLong_ev {H : AH} {s : AV} {l : List Int} (hs : Bs H s l) (h : AH) (m : Nat) (hm : 1 ≤ m) :
    ev Try.prog m 40 [s] h = some (.bool (decide (65536 < (l.length : Int))), h) := by
  obtain ⟨m, rfl⟩ : ∃ k, m = k + 1 := ⟨m - 1, by omega⟩
  rw [ev_eq Try.func40 ok40 m _ h (by simp [Try.f40])]
  simp [Try.f40, hs.len]

/-! headers -/
def hdr (f v : Int) (d s t : AV) : AV := .agg [.int .i64 f, .int .i64 v, d, s, t, .int .i64 0, .int .i64 0, .int .i64 0]
theorem eqHeader_ev {H : AH} {f v : Int} {d1 s1 t1 d2 s2 t2 : AV} {D S T : List Int} (hd1 : Bs H d1 D) (hd2 : Bs H d2 D) (hs1 : Bs H s1 S) (hs2 : Bs H s2 S) (ht1 : Bs H t1 T) (ht2 : Bs H t2 T)
    {B : Nat} (hB : B ≤ 70368744177664) (lD : D.length ≤ B) (lS : S.length ≤ B) (lT : T.length ≤ B) (m : Nat) (hm : B + 3 ≤ m) :
    ∃ H', ev Try.prog m 17 [hdr f v d1 s1 t1, hdr f v d2 s2 t2] H = some (.bool true, H') ∧ Kp H H' := by
  obtain ⟨m, rfl⟩ : ∃ k, m = k + 1 := ⟨m - 1, by omega⟩
  have e1 : ∀ h, Kp H h → ev Try.prog m 11 [d1, d2] h = some (.bool true, h) := fun h hk => by rw [eqByteS_ev (hd1.kp hk) (hd2.kp hk) (by omega) m (by omega)]; simp
  have e2 : ∀ h, Kp H h → ev Try.prog m 11 [s1, s2] h = some (.bool true, h) := fun h hk => by rw [eqByteS_ev (hs1.kp hk) (hs2.kp hk) (by omega) m (by omega)]; simp
  have e3 : ∀ h, Kp H h → ev Try.prog m 11 [t1, t2] h = some (.bool true, h) := fun h hk => by rw [eqByteS_ev (ht1.kp hk) (ht2.kp hk) (by omega) m (by omega)]; simp
  rw [ev_eq Try.func17 ok17 m _ H (by simp [Try.f17])]
  simp (maxDischargeDepth := 20) [Try.f17, hdr, ldVar, e1, e2, e3, Kp.refl, Kp.push, hd1.one, hd2.one, hs1.one, hs2.one, ht1.one, ht2.one]
theorem markHeader_ev {H : AH} {f v : Int} {d s t : AV} {D S T : List Int} {a b c e : Nat} (hd : Ow a b H d D) (hs : Ow b c H s S) (ht : Ow c e H t T) (hb : a ≤ b) (hc : b ≤ c) (he : c ≤ e) (hn : e ≤ H.next)
    {B : Nat} (hB : B ≤ 281474976710) (lD : D.length ≤ B) (lS : S.length ≤ B) (lT : T.length ≤ B) (k : Int) (hk0 : 0 ≤ k) (hk1 : k ≤ 281474976710) (m : Nat) (hm : B + 3 ≤ m) :
    ∃ H', ev Try.prog m 18 [hdr f v d s t, .int .i64 k] H = some (.int .i64 (k + D.length + S.length + T.length), H') ∧ Ko a e H H' ∧
      Ow a b H' d (marks k D.length) ∧ Ow b c H' s (marks (k + D.length) S.length) ∧ Ow c e H' t (marks (k + D.length + S.length) T.length) := by
  obtain ⟨m, rfl⟩ : ∃ k, m = k + 1 := ⟨m - 1, by omega⟩
  obtain ⟨H1, a1, a2, a3, a4⟩ := markByteS_ev (hd.kp ((Kp.refl H).push (.cells 32 false [.int .i64 f, .int .i64 v, d, s, t, .int .i64 0, .int .i64 0, .int .i64 0]))) (by omega) k hk0 (by omega) m (by omega)
  obtain ⟨H2, b1, b2, b3, b4⟩ := markByteS_ev ((hs.kp ((Kp.refl H).push _)).ko a2 (.inr (Nat.le_refl _))) (by omega) (k + D.length) (by omega) (by omega) m (by omega)
  obtain ⟨H3, c1, c2, c3, c4⟩ := markByteS_ev (((ht.kp ((Kp.refl H).push _)).ko a2 (.inr hc)).ko b2 (.inr (Nat.le_refl _))) (by omega) (k + D.length + S.length) (by omega) (by omega) m (by omega)
  simp only [AH.push_next] at a3
  have g1 := a2.get H.next (by simp) (by omega)
  have g2 := (b2.get H.next (by omega) (by omega)).trans g1
  refine ⟨H3, ?_, ⟨by have := a2.next; have := b2.next; have := c2.next; simp at *; omega, fun x hx hxx => ?_⟩, (a4.ko b2 (.inl (Nat.le_refl _))).ko c2 (.inl hc), b4.ko c2 (.inl (Nat.le_refl _)), c4⟩
  · rw [ev_eq Try.func18 ok18 m _ H (by simp [Try.f18])]
    simp [Try.f18, hdr, ldVar, a1, b1, c1, g1, g2, hd.bs.one, hs.bs.one, ht.bs.one]
  · rw [c2.get x (by omega) (by omega), b2.get x (by omega) (by omega), a2.get x (by simp; omega) (by omega), AH.push_get, if_neg (by omega)]
theorem heldHeader_ev {H : AH} {f v : Int} {d s t : AV} {D S T : Nat} {k : Int} (hd : Bs H d (marks k D)) (hs : Bs H s (marks (k + D) S)) (ht : Bs H t (marks (k + D + S) T))
    {B : Nat} (hB : B ≤ 281474976710) (lD : D ≤ B) (lS : S ≤ B) (lT : T ≤ B) (hk0 : 0 ≤ k) (hk1 : k ≤ 281474976710) (m : Nat) (hm : B + 3 ≤ m) :
    ∃ H', ev Try.prog m 19 [hdr f v d s t, .int .i64 k] H = some (.int .i64 (k + D + S + T), H') ∧ Kp H H' := by
  obtain ⟨m, rfl⟩ : ∃ k, m = k + 1 := ⟨m - 1, by omega⟩
  have e1 : ∀ h, Kp H h → ev Try.prog m 42 [d, .int .i64 k] h = some (.int .i64 (k + D), h) := fun h hk => heldByteS_ev _ _ (hd.kp hk) (by omega) (by omega) (by omega) m (by omega)
  have e2 : ∀ h, Kp H h → ev Try.prog m 42 [s, .int .i64 (k + D)] h = some (.int .i64 (k + D + S), h) := fun h hk => heldByteS_ev _ _ (hs.kp hk) (by omega) (by omega) (by omega) m (by omega)
  have e3 : ∀ h, Kp H h → ev Try.prog m 42 [t, .int .i64 (k + D + S)] h = some (.int .i64 (k + D + S + T), h) := fun h hk => heldByteS_ev _ _ (ht.kp hk) (by omega) (by omega) (by omega) m (by omega)
  have p1 : ¬ (k + (D : Int) < 0) := by omega
  have p2 : ¬ (k + (D : Int) + S < 0) := by omega
  have p3 : ¬ (k + (D : Int) + S + T < 0) := by omega
  rw [ev_eq Try.func19 ok19 m _ H (by simp [Try.f19])]
  simp (maxDischargeDepth := 20) [Try.f19, hdr, ldVar, e1, e2, e3, Kp.refl, Kp.push, p1, p2, p3, hd.one, hs.one, ht.one]
end Go.Ev
