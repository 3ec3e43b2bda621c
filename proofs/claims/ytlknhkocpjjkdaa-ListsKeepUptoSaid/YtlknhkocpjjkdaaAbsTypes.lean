/- The types of this translation, as far as the walks ask for them. Printed by types.py. -/
import Derived.Test.YtlknhkocpjjkdaaAbsEval
import Derived.Test.YtlknhkocpjjkdaaProg
set_option linter.all false
set_option linter.unusedVariables false
set_option linter.unusedSimpArgs false
namespace Go.Proofs.Ytlknhkocpjjkdaa
open Go.Abs
def tyTab : List (Nat × TI) := [
  (2, ⟨.int .i64, 1, 8, [DV.int 0], some .int, false, true⟩),
  (3, ⟨.int .i64, 1, 8, [DV.int 0], some .int, false, true⟩),
  (4, ⟨.bool, 1, 1, [DV.bo false], some .bool, false, true⟩),
  (5, ⟨.int .u8, 1, 1, [.lit (.int .u8 (0))], none, false, true⟩),
  (7, ⟨.st [(0, 2), (1, 3), (2, 4), (3, 6)], 4, 24, [DV.int 0, DV.int 0, DV.bo false, .lit (.int .u8 (0))], none, true, true⟩),
  (12, ⟨.int .u64, 1, 8, [.lit (.int .u64 (0))], none, false, true⟩),
  (15, ⟨.other, 1, 8, [.lit (.pointer none)], none, false, true⟩),
  (16, ⟨.other, 1, 8, [.lit (.pointer none)], none, false, true⟩),
  (17, ⟨.other, 1, 8, [.lit (.pointer none)], none, false, true⟩),
  (18, ⟨.st [(0, 17)], 1, 8, [.lit (.pointer none)], none, false, true⟩),
  (21, ⟨.int .i32, 1, 4, [.lit (.int .i32 (0))], none, false, true⟩),
  (22, ⟨.arr 4 3, 4, 32, [DV.int 0, DV.int 0, DV.int 0, DV.int 0], none, true, true⟩),
  (23, ⟨.slc 3, 1, 24, [DV.nilsl], some .ints, false, true⟩),
  (24, ⟨.arr 3 23, 3, 72, [DV.nilsl, DV.nilsl, DV.nilsl], none, false, true⟩),
  (25, ⟨.arr 3 23, 3, 72, [DV.nilsl, DV.nilsl, DV.nilsl], some .lists, false, true⟩),
  (26, ⟨.slc 69, 1, 24, [DV.nilsl], some .opss, false, true⟩),
  (27, ⟨.st [(0, 4), (1, 22), (5, 25), (8, 3), (9, 3), (10, 3), (11, 26), (12, 3), (13, 3), (14, 3)], 15, 184, [DV.bo false, DV.int 0, DV.int 0, DV.int 0, DV.int 0, DV.nilsl, DV.nilsl, DV.nilsl, DV.int 0, DV.int 0, DV.int 0, DV.nilsl, DV.int 0, DV.int 0, DV.int 0], none, false, true⟩),
  (28, ⟨.st [(0, 4), (1, 22), (5, 25), (8, 3), (9, 3), (10, 3), (11, 26), (12, 3), (13, 3), (14, 3)], 15, 184, [DV.bo false, DV.int 0, DV.int 0, DV.int 0, DV.int 0, DV.nilsl, DV.nilsl, DV.nilsl, DV.int 0, DV.int 0, DV.int 0, DV.nilsl, DV.int 0, DV.int 0, DV.int 0], some .thread, false, true⟩),
  (32, ⟨.int .i64, 1, 8, [DV.int 0], some .int, false, true⟩),
  (41, ⟨.st [(0, 3), (1, 3), (2, 4), (3, 23), (4, 4), (5, 3), (6, 3), (7, 3), (8, 3), (9, 4)], 10, 96, [DV.int 0, DV.int 0, DV.bo false, DV.nilsl, DV.bo false, DV.int 0, DV.int 0, DV.int 0, DV.int 0, DV.bo false], none, false, true⟩),
  (42, ⟨.st [(0, 3), (1, 3), (2, 4), (3, 23), (4, 4), (5, 3), (6, 3), (7, 3), (8, 3), (9, 4)], 10, 96, [DV.int 0, DV.int 0, DV.bo false, DV.nilsl, DV.bo false, DV.int 0, DV.int 0, DV.int 0, DV.int 0, DV.bo false], none, false, true⟩),
  (44, ⟨.slc 25, 1, 24, [DV.nilsl], none, false, true⟩),
  (68, ⟨.st [(0, 3), (1, 3), (2, 3), (3, 3)], 4, 32, [DV.int 0, DV.int 0, DV.int 0, DV.int 0], none, true, true⟩),
  (69, ⟨.st [(0, 3), (1, 3), (2, 3), (3, 3)], 4, 32, [DV.int 0, DV.int 0, DV.int 0, DV.int 0], some .op, true, true⟩),
  (71, ⟨.slc 23, 1, 24, [DV.nilsl], none, false, true⟩),
  (79, ⟨.int .u64, 1, 8, [.lit (.int .u64 (0))], none, false, true⟩),
  (81, ⟨.int .i64, 1, 8, [DV.int 0], some .int, false, true⟩),
  (90, ⟨.int .u32, 1, 4, [.lit (.int .u32 (0))], none, false, true⟩),
  (92, ⟨.int .u64, 1, 8, [.lit (.int .u64 (0))], none, false, true⟩),
  (93, ⟨.int .u64, 1, 8, [.lit (.int .u64 (0))], none, false, true⟩),
  (97, ⟨.other, 1, 8, [.lit (.pointer none)], none, false, true⟩),
  (99, ⟨.other, 1, 8, [.lit (.pointer none)], none, false, true⟩),
  (112, ⟨.other, 1, 8, [.lit (.pointer none)], none, false, true⟩),
  (115, ⟨.st [(0, 12), (1, 12), (2, 90), (3, 109), (4, 5), (5, 5), (6, 110), (7, 111), (8, 112), (9, 113), (10, 114)], 11, 48, [.lit (.int .u64 (0)), .lit (.int .u64 (0)), .lit (.int .u32 (0)), .lit (.int .u8 (0)), .lit (.int .u8 (0)), .lit (.int .u8 (0)), .lit (.int .u8 (0)), .lit .nilFunc, .lit (.pointer none), .lit (.int .i32 (0)), .lit (.int .i32 (0))], none, false, true⟩)]
end Go.Proofs.Ytlknhkocpjjkdaa
