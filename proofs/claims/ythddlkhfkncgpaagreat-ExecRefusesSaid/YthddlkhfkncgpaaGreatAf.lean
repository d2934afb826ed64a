/-
  The functions of the program in the small language, reckoned, and that they are so told.
-/
import Derived.Test.YthddlkhfkncgpaaGreatKA
import Derived.Test.YthddlkhfkncgpaaGreatProg
set_option linter.unusedVariables false
set_option maxRecDepth 100000
set_option maxHeartbeats 4000000
namespace Go.Proofs.YthddlkhfkncgpaaGreat
open Go.RowKit

def tb : Tb := [⟨.o, 0, 0, []⟩,
⟨.fn, 1, 8, [.nilf]⟩,
⟨.int .i64, 1, 8, [(.t (.int .i64 0))]⟩,
⟨.int .i64, 1, 8, [(.t (.int .i64 0))]⟩,
⟨.bool, 1, 1, [(.t (.bool false))]⟩,
⟨.int .u8, 1, 1, [(.t (.int .u8 0))]⟩,
⟨.int .u8, 1, 1, [(.t (.int .u8 0))]⟩,
⟨.st [(0, 1, none), (1, 1, none), (2, 1, none), (3, 1, none)] [.int, .int, .bool, .int], 4, 24, [(.t (.int .i64 0)), (.t (.int .i64 0)), (.t (.bool false)), (.t (.int .u8 0))]⟩,
⟨.st [(0, 1, none), (1, 1, none), (2, 1, none), (3, 1, none)] [.int, .int, .bool, .int], 4, 24, [(.t (.int .i64 0)), (.t (.int .i64 0)), (.t (.bool false)), (.t (.int .u8 0))]⟩,
⟨.str, 1, 16, [(.t (.str ⟨#[]⟩))]⟩,
⟨.str, 1, 16, [(.t (.str ⟨#[]⟩))]⟩,
⟨.str, 1, 16, [(.t (.str ⟨#[]⟩))]⟩,
⟨.int .u64, 1, 8, [(.t (.int .u64 0))]⟩,
⟨.st [(0, 1, none), (1, 1, none)] [], 2, 24, [(.t (.str ⟨#[]⟩)), (.t (.int .u64 0))]⟩,
⟨.st [(0, 1, none), (1, 1, none)] [], 2, 24, [(.t (.str ⟨#[]⟩)), (.t (.int .u64 0))]⟩,
⟨.pt, 1, 8, [.nilp]⟩,
⟨.pt, 1, 8, [.nilp]⟩,
⟨.pt, 1, 8, [.nilp]⟩,
⟨.st [(0, 1, none)] [], 1, 8, [.nilp]⟩,
⟨.st [(0, 1, none)] [], 1, 8, [.nilp]⟩,
⟨.o, 0, 0, []⟩,
⟨.int .i32, 1, 4, [(.t (.int .i32 0))]⟩,
⟨.int .u16, 1, 2, [(.t (.int .u16 0))]⟩,
⟨.sl 4, 1, 24, [(.t .nil)]⟩,
⟨.sl 22, 1, 24, [(.t .nil)]⟩,
⟨.st [(0, 1, none), (1, 1, none), (2, 1, none), (3, 1, none), (4, 1, none), (5, 1, none), (6, 1, none), (7, 1, none), (8, 1, none), (9, 1, none), (10, 1, none), (11, 1, none)] [], 12, 112, [(.t (.int .i64 0)), (.t (.int .i64 0)), (.t (.int .i64 0)), (.t (.int .u16 0)), (.t (.int .u16 0)), (.t (.int .u16 0)), (.t .nil), (.t .nil), (.t (.int .i64 0)), (.t (.int .i64 0)), (.t (.int .i64 0)), (.t (.int .i64 0))]⟩,
⟨.st [(0, 1, none), (1, 1, none), (2, 1, none), (3, 1, none), (4, 1, none), (5, 1, none), (6, 1, none), (7, 1, none), (8, 1, none), (9, 1, none), (10, 1, none), (11, 1, none)] [], 12, 112, [(.t (.int .i64 0)), (.t (.int .i64 0)), (.t (.int .i64 0)), (.t (.int .u16 0)), (.t (.int .u16 0)), (.t (.int .u16 0)), (.t .nil), (.t .nil), (.t (.int .i64 0)), (.t (.int .i64 0)), (.t (.int .i64 0)), (.t (.int .i64 0))]⟩,
⟨.fn, 1, 8, [.nilf]⟩,
⟨.fn, 1, 8, [.nilf]⟩,
⟨.sl 36, 1, 24, [(.t .nil)]⟩,
⟨.fn, 1, 8, [.nilf]⟩,
⟨.fn, 1, 8, [.nilf]⟩,
⟨.int .u64, 1, 8, [(.t (.int .u64 0))]⟩,
⟨.st [(0, 1, none), (1, 1, none)] [.int, .int], 2, 16, [(.t (.int .i64 0)), (.t (.int .i64 0))]⟩,
⟨.st [(0, 1, none), (1, 1, none)] [.int, .int], 2, 16, [(.t (.int .i64 0)), (.t (.int .i64 0))]⟩,
⟨.st [(0, 2, (some 2)), (2, 1, none)] [.int, .int, .int], 3, 24, [(.t (.int .i64 0)), (.t (.int .i64 0)), (.t (.int .u16 0))]⟩,
⟨.st [(0, 2, (some 2)), (2, 1, none)] [.int, .int, .int], 3, 24, [(.t (.int .i64 0)), (.t (.int .i64 0)), (.t (.int .u16 0))]⟩,
⟨.fn, 1, 8, [.nilf]⟩,
⟨.sl 3, 1, 24, [(.t .nil)]⟩,
⟨.sl 131, 1, 24, [(.t .nil)]⟩,
⟨.sl 156, 1, 24, [(.t .nil)]⟩,
⟨.int .u64, 1, 8, [(.t (.int .u64 0))]⟩,
⟨.sl 140, 1, 24, [(.t .nil)]⟩,
⟨.st [(0, 1, none), (1, 1, none), (2, 1, none), (3, 1, none), (4, 1, none), (5, 1, none), (6, 1, none), (7, 1, none), (8, 1, none), (9, 1, none), (10, 1, none), (11, 1, none), (12, 1, none)] [], 13, 152, [(.t .nil), (.t .nil), (.t (.int .i64 0)), (.t (.int .i64 0)), (.t (.int .i64 0)), (.t (.int .i64 0)), (.t (.int .i64 0)), (.t (.int .i64 0)), (.t (.int .i64 0)), (.t (.int .i64 0)), (.t (.int .i64 0)), (.t (.int .u64 0)), (.t .nil)]⟩,
⟨.st [(0, 1, none), (1, 1, none), (2, 1, none), (3, 1, none), (4, 1, none), (5, 1, none), (6, 1, none), (7, 1, none), (8, 1, none), (9, 1, none), (10, 1, none), (11, 1, none), (12, 1, none)] [], 13, 152, [(.t .nil), (.t .nil), (.t (.int .i64 0)), (.t (.int .i64 0)), (.t (.int .i64 0)), (.t (.int .i64 0)), (.t (.int .i64 0)), (.t (.int .i64 0)), (.t (.int .i64 0)), (.t (.int .i64 0)), (.t (.int .i64 0)), (.t (.int .u64 0)), (.t .nil)]⟩,
⟨.fn, 1, 8, [.nilf]⟩,
⟨.pt, 1, 8, [.nilp]⟩,
⟨.pt, 1, 8, [.nilp]⟩,
⟨.o, 0, 0, []⟩,
⟨.fn, 1, 8, [.nilf]⟩,
⟨.fn, 1, 8, [.nilf]⟩,
⟨.fn, 1, 8, [.nilf]⟩,
⟨.fn, 1, 8, [.nilf]⟩,
⟨.st [(0, 1, none), (1, 1, none), (2, 1, none), (3, 1, none), (4, 1, none), (5, 1, none), (6, 1, none), (7, 1, none), (8, 1, none), (9, 1, none), (10, 1, none), (11, 1, none), (12, 1, none), (13, 1, none)] [], 14, 144, [(.t (.int .i64 0)), (.t (.int .i64 0)), (.t .nil), (.t .nil), (.t (.int .i64 0)), (.t (.int .i64 0)), (.t (.int .u16 0)), (.t (.int .u16 0)), (.t (.int .u16 0)), (.t (.int .i64 0)), (.t (.int .i64 0)), (.t (.bool false)), (.t (.int .i64 0)), (.t .nil)]⟩,
⟨.st [(0, 1, none), (1, 1, none), (2, 1, none), (3, 1, none), (4, 1, none), (5, 1, none), (6, 1, none), (7, 1, none), (8, 1, none), (9, 1, none), (10, 1, none), (11, 1, none), (12, 1, none), (13, 1, none)] [], 14, 144, [(.t (.int .i64 0)), (.t (.int .i64 0)), (.t .nil), (.t .nil), (.t (.int .i64 0)), (.t (.int .i64 0)), (.t (.int .u16 0)), (.t (.int .u16 0)), (.t (.int .u16 0)), (.t (.int .i64 0)), (.t (.int .i64 0)), (.t (.bool false)), (.t (.int .i64 0)), (.t .nil)]⟩,
⟨.fn, 1, 8, [.nilf]⟩,
⟨.fn, 1, 8, [.nilf]⟩,
⟨.fn, 1, 8, [.nilf]⟩,
⟨.st [(0, 1, none), (1, 1, none), (2, 1, none), (3, 1, none)] [.int, .int, .int, .int], 4, 32, [(.t (.int .i64 0)), (.t (.int .i64 0)), (.t (.int .i64 0)), (.t (.int .u64 0))]⟩,
⟨.st [(0, 1, none), (1, 1, none), (2, 1, none), (3, 1, none)] [.int, .int, .int, .int], 4, 32, [(.t (.int .i64 0)), (.t (.int .i64 0)), (.t (.int .i64 0)), (.t (.int .u64 0))]⟩,
⟨.fn, 1, 8, [.nilf]⟩,
⟨.pt, 1, 8, [.nilp]⟩,
⟨.pt, 1, 8, [.nilp]⟩,
⟨.fn, 1, 8, [.nilf]⟩,
⟨.fn, 1, 8, [.nilf]⟩,
⟨.fn, 1, 8, [.nilf]⟩,
⟨.fn, 1, 8, [.nilf]⟩,
⟨.fn, 1, 8, [.nilf]⟩,
⟨.fn, 1, 8, [.nilf]⟩,
⟨.fn, 1, 8, [.nilf]⟩,
⟨.st [(0, 1, none), (1, 1, none), (2, 1, none)] [], 3, 56, [(.t (.int .u64 0)), (.t .nil), (.t .nil)]⟩,
⟨.st [(0, 1, none), (1, 1, none), (2, 1, none)] [], 3, 56, [(.t (.int .u64 0)), (.t .nil), (.t .nil)]⟩,
⟨.o, 0, 0, []⟩,
⟨.fn, 1, 8, [.nilf]⟩,
⟨.fn, 1, 8, [.nilf]⟩,
⟨.fn, 1, 8, [.nilf]⟩,
⟨.fn, 1, 8, [.nilf]⟩,
⟨.o, 0, 0, []⟩,
⟨.fn, 1, 8, [.nilf]⟩,
⟨.fn, 1, 8, [.nilf]⟩,
⟨.fn, 1, 8, [.nilf]⟩,
⟨.fn, 1, 8, [.nilf]⟩,
⟨.fn, 1, 8, [.nilf]⟩,
⟨.st [(0, 1, none), (1, 1, none), (2, 1, none), (3, 1, none)] [.int, .int, .int, .int], 4, 32, [(.t (.int .i64 0)), (.t (.int .i64 0)), (.t (.int .i64 0)), (.t (.int .u64 0))]⟩,
⟨.fn, 1, 8, [.nilf]⟩,
⟨.sl 171, 1, 24, [(.t .nil)]⟩,
⟨.st [(0, 1, none), (1, 1, none), (2, 1, none)] [], 3, 40, [(.t (.int .u64 0)), (.t (.int .i64 0)), (.t .nil)]⟩,
⟨.st [(0, 1, none), (1, 1, none), (2, 1, none)] [], 3, 40, [(.t (.int .u64 0)), (.t (.int .i64 0)), (.t .nil)]⟩,
⟨.pt, 1, 8, [.nilp]⟩,
⟨.sl 247, 1, 24, [(.t .nil)]⟩,
⟨.st [(0, 1, none), (1, 1, none), (2, 1, none), (3, 1, none), (4, 1, none)] [], 5, 56, [.nilp, (.t (.int .i64 0)), (.t (.int .i64 0)), (.t (.int .i64 0)), (.t .nil)]⟩,
⟨.st [(0, 1, none), (1, 1, none), (2, 1, none), (3, 1, none), (4, 1, none)] [], 5, 56, [.nilp, (.t (.int .i64 0)), (.t (.int .i64 0)), (.t (.int .i64 0)), (.t .nil)]⟩,
⟨.pt, 1, 8, [.nilp]⟩,
⟨.pt, 1, 8, [.nilp]⟩,
⟨.sl 165, 1, 24, [(.t .nil)]⟩,
⟨.st [(0, 1, none), (1, 1, none), (2, 1, none)] [], 3, 40, [.nilp, .nilp, (.t .nil)]⟩,
⟨.st [(0, 1, none), (1, 1, none), (2, 1, none)] [], 3, 40, [.nilp, .nilp, (.t .nil)]⟩,
⟨.fn, 1, 8, [.nilf]⟩,
⟨.pt, 1, 8, [.nilp]⟩,
⟨.st [(0, 1, none)] [], 1, 24, [(.t .nil)]⟩,
⟨.st [(0, 1, none)] [], 1, 24, [(.t .nil)]⟩,
⟨.o, 0, 0, []⟩,
⟨.fn, 1, 8, [.nilf]⟩,
⟨.sl 104, 1, 24, [(.t .nil)]⟩,
⟨.sl 5, 1, 24, [(.t .nil)]⟩,
⟨.int .i64, 1, 8, [(.t (.int .i64 0))]⟩,
⟨.o, 0, 0, []⟩,
⟨.fn, 1, 8, [.nilf]⟩,
⟨.fn, 1, 8, [.nilf]⟩,
⟨.fn, 1, 8, [.nilf]⟩,
⟨.fn, 1, 8, [.nilf]⟩,
⟨.fn, 1, 8, [.nilf]⟩,
⟨.fn, 1, 8, [.nilf]⟩,
⟨.fn, 1, 8, [.nilf]⟩,
⟨.fn, 1, 8, [.nilf]⟩,
⟨.fn, 1, 8, [.nilf]⟩,
⟨.o, 0, 0, []⟩,
⟨.fn, 1, 8, [.nilf]⟩,
⟨.fn, 1, 8, [.nilf]⟩,
⟨.fn, 1, 8, [.nilf]⟩,
⟨.fn, 1, 8, [.nilf]⟩,
⟨.fn, 1, 8, [.nilf]⟩,
⟨.fn, 1, 8, [.nilf]⟩,
⟨.fn, 1, 8, [.nilf]⟩,
⟨.fn, 1, 8, [.nilf]⟩,
⟨.fn, 1, 8, [.nilf]⟩,
⟨.fn, 1, 8, [.nilf]⟩,
⟨.o, 0, 0, []⟩,
⟨.fn, 1, 8, [.nilf]⟩,
⟨.fn, 1, 8, [.nilf]⟩,
⟨.st [(0, 1, none), (1, 1, none), (2, 1, none)] [.int, .int, .int], 3, 24, [(.t (.int .i64 0)), (.t (.int .i64 0)), (.t (.int .i64 0))]⟩,
⟨.st [(0, 1, none), (1, 1, none), (2, 1, none)] [.int, .int, .int], 3, 24, [(.t (.int .i64 0)), (.t (.int .i64 0)), (.t (.int .i64 0))]⟩,
⟨.fn, 1, 8, [.nilf]⟩,
⟨.fn, 1, 8, [.nilf]⟩,
⟨.fn, 1, 8, [.nilf]⟩,
⟨.fn, 1, 8, [.nilf]⟩,
⟨.fn, 1, 8, [.nilf]⟩,
⟨.fn, 1, 8, [.nilf]⟩,
⟨.fn, 1, 8, [.nilf]⟩,
⟨.st [(0, 1, none), (1, 1, none)] [.int, .str], 2, 24, [(.t (.int .i64 0)), (.t (.str ⟨#[]⟩))]⟩,
⟨.st [(0, 1, none), (1, 1, none)] [.int, .str], 2, 24, [(.t (.int .i64 0)), (.t (.str ⟨#[]⟩))]⟩,
⟨.fn, 1, 8, [.nilf]⟩,
⟨.fn, 1, 8, [.nilf]⟩,
⟨.st [(0, 4, (some 4))] [.int, .int, .int, .int], 4, 32, [(.t (.int .i64 0)), (.t (.int .i64 0)), (.t (.int .i64 0)), (.t (.int .u64 0))]⟩,
⟨.st [(0, 4, (some 4))] [.int, .int, .int, .int], 4, 32, [(.t (.int .i64 0)), (.t (.int .i64 0)), (.t (.int .i64 0)), (.t (.int .u64 0))]⟩,
⟨.pt, 1, 8, [.nilp]⟩,
⟨.mp 144, 1, 8, [.nilm]⟩,
⟨.st [(0, 1, none), (1, 1, none), (2, 1, none), (3, 1, none)] [], 4, 32, [.nilp, (.t (.int .i64 0)), .nilp, .nilm]⟩,
⟨.st [(0, 1, none), (1, 1, none), (2, 1, none), (3, 1, none)] [], 4, 32, [.nilp, (.t (.int .i64 0)), .nilp, .nilm]⟩,
⟨.mp 71, 1, 8, [.nilm]⟩,
⟨.st [(0, 1, none), (1, 1, none), (2, 1, none), (3, 1, none), (4, 1, none)] [], 5, 40, [.nilp, (.t (.int .i64 0)), (.t (.int .i64 0)), (.t (.int .i64 0)), .nilm]⟩,
⟨.st [(0, 1, none), (1, 1, none), (2, 1, none), (3, 1, none), (4, 1, none)] [], 5, 40, [.nilp, (.t (.int .i64 0)), (.t (.int .i64 0)), (.t (.int .i64 0)), .nilm]⟩,
⟨.mc 169, 1, 8, [.nilm]⟩,
⟨.st [(0, 1, none), (1, 1, none), (2, 1, none), (3, 1, none)] [], 4, 32, [(.t (.int .u64 0)), (.t (.int .i64 0)), (.t (.int .i64 0)), .nilm]⟩,
⟨.st [(0, 1, none), (1, 1, none), (2, 1, none), (3, 1, none)] [], 4, 32, [(.t (.int .u64 0)), (.t (.int .i64 0)), (.t (.int .i64 0)), .nilm]⟩,
⟨.st [(0, 1, none), (1, 1, none), (2, 1, none)] [.int, .int, .int], 3, 24, [(.t (.int .i64 0)), (.t (.int .i64 0)), (.t (.int .i64 0))]⟩,
⟨.st [(0, 1, none), (1, 1, none), (2, 1, none)] [.int, .int, .int], 3, 24, [(.t (.int .i64 0)), (.t (.int .i64 0)), (.t (.int .i64 0))]⟩,
⟨.fn, 1, 8, [.nilf]⟩,
⟨.fn, 1, 8, [.nilf]⟩,
⟨.fn, 1, 8, [.nilf]⟩,
⟨.fn, 1, 8, [.nilf]⟩,
⟨.fn, 1, 8, [.nilf]⟩,
⟨.arr 4 3, 4, 32, [(.t (.int .i64 0)), (.t (.int .i64 0)), (.t (.int .i64 0)), (.t (.int .i64 0))]⟩,
⟨.fn, 1, 8, [.nilf]⟩,
⟨.st [(0, 1, none), (1, 4, (some 4))] [.int, .int, .int, .int, .int], 5, 40, [(.t (.int .i64 0)), (.t (.int .i64 0)), (.t (.int .i64 0)), (.t (.int .i64 0)), (.t (.int .u64 0))]⟩,
⟨.st [(0, 1, none), (1, 4, (some 4))] [.int, .int, .int, .int, .int], 5, 40, [(.t (.int .i64 0)), (.t (.int .i64 0)), (.t (.int .i64 0)), (.t (.int .i64 0)), (.t (.int .u64 0))]⟩,
⟨.sl 216, 1, 24, [(.t .nil)]⟩,
⟨.st [(0, 1, none), (1, 1, none)] [], 2, 32, [(.t (.int .i64 0)), (.t .nil)]⟩,
⟨.st [(0, 1, none), (1, 1, none)] [], 2, 32, [(.t (.int .i64 0)), (.t .nil)]⟩,
⟨.sl 278, 1, 24, [(.t .nil)]⟩,
⟨.st [(0, 2, (some 2)), (2, 1, none)] [], 3, 40, [(.t (.int .i64 0)), (.t (.int .i64 0)), (.t .nil)]⟩,
⟨.st [(0, 2, (some 2)), (2, 1, none)] [], 3, 40, [(.t (.int .i64 0)), (.t (.int .i64 0)), (.t .nil)]⟩,
⟨.fn, 1, 8, [.nilf]⟩,
⟨.fn, 1, 8, [.nilf]⟩,
⟨.fn, 1, 8, [.nilf]⟩,
⟨.fn, 1, 8, [.nilf]⟩,
⟨.fn, 1, 8, [.nilf]⟩,
⟨.fn, 1, 8, [.nilf]⟩,
⟨.fn, 1, 8, [.nilf]⟩,
⟨.fn, 1, 8, [.nilf]⟩,
⟨.fn, 1, 8, [.nilf]⟩,
⟨.fn, 1, 8, [.nilf]⟩,
⟨.fn, 1, 8, [.nilf]⟩,
⟨.fn, 1, 8, [.nilf]⟩,
⟨.o, 0, 0, []⟩,
⟨.fn, 1, 8, [.nilf]⟩,
⟨.fn, 1, 8, [.nilf]⟩,
⟨.arr 11 3, 11, 88, [(.t (.int .i64 0)), (.t (.int .i64 0)), (.t (.int .i64 0)), (.t (.int .i64 0)), (.t (.int .i64 0)), (.t (.int .i64 0)), (.t (.int .i64 0)), (.t (.int .i64 0)), (.t (.int .i64 0)), (.t (.int .i64 0)), (.t (.int .i64 0))]⟩,
⟨.fn, 1, 8, [.nilf]⟩,
⟨.fn, 1, 8, [.nilf]⟩,
⟨.o, 0, 0, []⟩,
⟨.fn, 1, 8, [.nilf]⟩,
⟨.fn, 1, 8, [.nilf]⟩,
⟨.o, 0, 0, []⟩,
⟨.fn, 1, 8, [.nilf]⟩,
⟨.fn, 1, 8, [.nilf]⟩,
⟨.fn, 1, 8, [.nilf]⟩,
⟨.sl 39, 1, 24, [(.t .nil)]⟩,
⟨.fn, 1, 8, [.nilf]⟩,
⟨.fn, 1, 8, [.nilf]⟩,
⟨.fn, 1, 8, [.nilf]⟩,
⟨.fn, 1, 8, [.nilf]⟩,
⟨.fn, 1, 8, [.nilf]⟩,
⟨.fn, 1, 8, [.nilf]⟩,
⟨.fn, 1, 8, [.nilf]⟩,
⟨.fn, 1, 8, [.nilf]⟩,
⟨.fn, 1, 8, [.nilf]⟩,
⟨.fn, 1, 8, [.nilf]⟩,
⟨.o, 0, 0, []⟩,
⟨.fn, 1, 8, [.nilf]⟩,
⟨.fn, 1, 8, [.nilf]⟩,
⟨.mp 3, 1, 8, [.nilm]⟩,
⟨.st [(0, 1, none), (1, 1, none)] [], 2, 16, [(.t (.int .i64 0)), .nilm]⟩,
⟨.st [(0, 1, none), (1, 1, none)] [], 2, 16, [(.t (.int .i64 0)), .nilm]⟩,
⟨.fn, 1, 8, [.nilf]⟩,
⟨.st [(0, 1, none), (1, 1, none)] [.int, .int], 2, 16, [(.t (.int .i64 0)), (.t (.int .i64 0))]⟩,
⟨.st [(0, 1, none), (1, 1, none)] [.int, .int], 2, 16, [(.t (.int .i64 0)), (.t (.int .i64 0))]⟩,
⟨.fn, 1, 8, [.nilf]⟩,
⟨.fn, 1, 8, [.nilf]⟩,
⟨.fn, 1, 8, [.nilf]⟩,
⟨.o, 0, 0, []⟩,
⟨.fn, 1, 8, [.nilf]⟩,
⟨.fn, 1, 8, [.nilf]⟩,
⟨.fn, 1, 8, [.nilf]⟩,
⟨.pt, 1, 8, [.nilp]⟩,
⟨.st [(0, 1, none), (1, 1, none)] [], 2, 32, [(.t .nil), (.t (.bool false))]⟩,
⟨.st [(0, 1, none), (1, 1, none)] [], 2, 32, [(.t .nil), (.t (.bool false))]⟩,
⟨.fn, 1, 8, [.nilf]⟩,
⟨.fn, 1, 8, [.nilf]⟩,
⟨.fn, 1, 8, [.nilf]⟩,
⟨.o, 0, 0, []⟩,
⟨.fn, 1, 8, [.nilf]⟩,
⟨.fn, 1, 8, [.nilf]⟩,
⟨.fn, 1, 8, [.nilf]⟩,
⟨.fn, 1, 8, [.nilf]⟩,
⟨.fn, 1, 8, [.nilf]⟩,
⟨.fn, 1, 8, [.nilf]⟩,
⟨.arr 8 22, 8, 16, [(.t (.int .u16 0)), (.t (.int .u16 0)), (.t (.int .u16 0)), (.t (.int .u16 0)), (.t (.int .u16 0)), (.t (.int .u16 0)), (.t (.int .u16 0)), (.t (.int .u16 0))]⟩,
⟨.fn, 1, 8, [.nilf]⟩,
⟨.fn, 1, 8, [.nilf]⟩,
⟨.fn, 1, 8, [.nilf]⟩,
⟨.o, 0, 0, []⟩,
⟨.fn, 1, 8, [.nilf]⟩,
⟨.fn, 1, 8, [.nilf]⟩,
⟨.fn, 1, 8, [.nilf]⟩,
⟨.st [(0, 1, none), (1, 1, none), (2, 1, none)] [], 3, 56, [(.t (.int .u64 0)), (.t .nil), (.t .nil)]⟩,
⟨.st [(0, 1, none), (1, 3, (some 3))] [], 4, 64, [(.t (.int .i64 0)), (.t (.int .u64 0)), (.t .nil), (.t .nil)]⟩,
⟨.st [(0, 1, none), (1, 3, (some 3))] [], 4, 64, [(.t (.int .i64 0)), (.t (.int .u64 0)), (.t .nil), (.t .nil)]⟩,
⟨.fn, 1, 8, [.nilf]⟩,
⟨.fn, 1, 8, [.nilf]⟩,
⟨.fn, 1, 8, [.nilf]⟩,
⟨.fn, 1, 8, [.nilf]⟩,
⟨.fn, 1, 8, [.nilf]⟩,
⟨.fn, 1, 8, [.nilf]⟩,
⟨.fn, 1, 8, [.nilf]⟩,
⟨.fn, 1, 8, [.nilf]⟩,
⟨.fn, 1, 8, [.nilf]⟩,
⟨.arr 12 3, 12, 96, [(.t (.int .i64 0)), (.t (.int .i64 0)), (.t (.int .i64 0)), (.t (.int .i64 0)), (.t (.int .i64 0)), (.t (.int .i64 0)), (.t (.int .i64 0)), (.t (.int .i64 0)), (.t (.int .i64 0)), (.t (.int .i64 0)), (.t (.int .i64 0)), (.t (.int .i64 0))]⟩,
⟨.fn, 1, 8, [.nilf]⟩,
⟨.fn, 1, 8, [.nilf]⟩,
⟨.fn, 1, 8, [.nilf]⟩,
⟨.fn, 1, 8, [.nilf]⟩,
⟨.o, 0, 0, []⟩,
⟨.fn, 1, 8, [.nilf]⟩,
⟨.o, 0, 0, []⟩,
⟨.fn, 1, 8, [.nilf]⟩,
⟨.fn, 1, 8, [.nilf]⟩,
⟨.fn, 1, 8, [.nilf]⟩,
⟨.fn, 1, 8, [.nilf]⟩,
⟨.fn, 1, 8, [.nilf]⟩,
⟨.o, 0, 0, []⟩,
⟨.fn, 1, 8, [.nilf]⟩,
⟨.fn, 1, 8, [.nilf]⟩,
⟨.fn, 1, 8, [.nilf]⟩,
⟨.fn, 1, 8, [.nilf]⟩,
⟨.o, 0, 0, []⟩,
⟨.fn, 1, 8, [.nilf]⟩,
⟨.st [(0, 1, none), (1, 1, none)] [.int, .int], 2, 16, [(.t (.int .u64 0)), (.t (.int .u16 0))]⟩,
⟨.st [(0, 1, none), (1, 1, none)] [.int, .int], 2, 16, [(.t (.int .u64 0)), (.t (.int .u16 0))]⟩,
⟨.fn, 1, 8, [.nilf]⟩,
⟨.int .i64, 1, 8, [(.t (.int .i64 0))]⟩,
⟨.o, 0, 0, []⟩,
⟨.fn, 1, 8, [.nilf]⟩,
⟨.fn, 1, 8, [.nilf]⟩,
⟨.fn, 1, 8, [.nilf]⟩,
⟨.fn, 1, 8, [.nilf]⟩,
⟨.fn, 1, 8, [.nilf]⟩,
⟨.int .u32, 1, 4, [(.t (.int .u32 0))]⟩,
⟨.fn, 1, 8, [.nilf]⟩,
⟨.o, 0, 0, []⟩,
⟨.fn, 1, 8, [.nilf]⟩,
⟨.o, 0, 0, []⟩,
⟨.fn, 1, 8, [.nilf]⟩,
⟨.o, 0, 0, []⟩,
⟨.fn, 1, 8, [.nilf]⟩,
⟨.fn, 1, 8, [.nilf]⟩,
⟨.o, 0, 0, []⟩,
⟨.fn, 1, 8, [.nilf]⟩,
⟨.fn, 1, 8, [.nilf]⟩,
⟨.o, 0, 0, []⟩,
⟨.fn, 1, 8, [.nilf]⟩,
⟨.fn, 1, 8, [.nilf]⟩,
⟨.fn, 1, 8, [.nilf]⟩,
⟨.fn, 1, 8, [.nilf]⟩,
⟨.arr 3 3, 3, 24, [(.t (.int .i64 0)), (.t (.int .i64 0)), (.t (.int .i64 0))]⟩,
⟨.fn, 1, 8, [.nilf]⟩,
⟨.fn, 1, 8, [.nilf]⟩,
⟨.fn, 1, 8, [.nilf]⟩,
⟨.fn, 1, 8, [.nilf]⟩,
⟨.fn, 1, 8, [.nilf]⟩,
⟨.fn, 1, 8, [.nilf]⟩,
⟨.fn, 1, 8, [.nilf]⟩,
⟨.mc 4, 1, 8, [.nilm]⟩,
⟨.int .u64, 1, 8, [(.t (.int .u64 0))]⟩,
⟨.fn, 1, 8, [.nilf]⟩,
⟨.fn, 1, 8, [.nilf]⟩,
⟨.pt, 1, 8, [.nilp]⟩,
⟨.fn, 1, 8, [.nilf]⟩,
⟨.fn, 1, 8, [.nilf]⟩,
⟨.fn, 1, 8, [.nilf]⟩,
⟨.fn, 1, 8, [.nilf]⟩,
⟨.fn, 1, 8, [.nilf]⟩,
⟨.fn, 1, 8, [.nilf]⟩,
⟨.fn, 1, 8, [.nilf]⟩,
⟨.fn, 1, 8, [.nilf]⟩,
⟨.fn, 1, 8, [.nilf]⟩,
⟨.fn, 1, 8, [.nilf]⟩,
⟨.fn, 1, 8, [.nilf]⟩,
⟨.pt, 1, 8, [.nilp]⟩,
⟨.fn, 1, 8, [.nilf]⟩,
⟨.fn, 1, 8, [.nilf]⟩,
⟨.fn, 1, 8, [.nilf]⟩,
⟨.fn, 1, 8, [.nilf]⟩,
⟨.st [(0, 1, none), (1, 1, none), (2, 1, none), (3, 1, none)] [], 4, 40, [.nilp, .nilp, .nilp, (.t (.str ⟨#[]⟩))]⟩,
⟨.st [(0, 1, none), (1, 1, none), (2, 1, none), (3, 1, none)] [], 4, 40, [.nilp, .nilp, .nilp, (.t (.str ⟨#[]⟩))]⟩,
⟨.arr 0 16, 0, 0, []⟩,
⟨.st [(0, 0, (some 0))] [], 0, 0, []⟩,
⟨.st [(0, 0, (some 0))] [], 0, 0, []⟩,
⟨.int .u8, 1, 1, [(.t (.int .u8 0))]⟩,
⟨.int .u8, 1, 1, [(.t (.int .u8 0))]⟩,
⟨.fn, 1, 8, [.nilf]⟩,
⟨.pt, 1, 8, [.nilp]⟩,
⟨.int .i32, 1, 4, [(.t (.int .i32 0))]⟩,
⟨.int .i32, 1, 4, [(.t (.int .i32 0))]⟩,
⟨.st [(0, 1, none), (1, 1, none), (2, 1, none), (3, 1, none), (4, 1, none), (5, 1, none), (6, 1, none), (7, 1, none), (8, 1, none), (9, 1, none), (10, 1, none)] [], 11, 48, [(.t (.int .u64 0)), (.t (.int .u64 0)), (.t (.int .u32 0)), (.t (.int .u8 0)), (.t (.int .u8 0)), (.t (.int .u8 0)), (.t (.int .u8 0)), .nilf, .nilp, (.t (.int .i32 0)), (.t (.int .i32 0))]⟩,
⟨.st [(0, 1, none), (1, 1, none), (2, 1, none), (3, 1, none), (4, 1, none), (5, 1, none), (6, 1, none), (7, 1, none), (8, 1, none), (9, 1, none), (10, 1, none)] [], 11, 48, [(.t (.int .u64 0)), (.t (.int .u64 0)), (.t (.int .u32 0)), (.t (.int .u8 0)), (.t (.int .u8 0)), (.t (.int .u8 0)), (.t (.int .u8 0)), .nilf, .nilp, (.t (.int .i32 0)), (.t (.int .i32 0))]⟩]

def a3 : AF := (⟨_, rfl⟩ : {x : AF // kF tb Tryz.f3 6 99 = some x}).1
theorem t3 : FnAt Tryz.prog 3 a3 := .mk Tryz.func3 (by kernel_rfl) (by kernel_rfl)
def a4 : AF := (⟨_, rfl⟩ : {x : AF // kF tb Tryz.f4 1 117 = some x}).1
theorem t4 : FnAt Tryz.prog 4 a4 := .mk Tryz.func4 (by kernel_rfl) (by kernel_rfl)
def a5 : AF := (⟨_, rfl⟩ : {x : AF // kF tb Tryz.f5 5 177 = some x}).1
theorem t5 : FnAt Tryz.prog 5 a5 := .mk Tryz.func5 (by kernel_rfl) (by kernel_rfl)
def a6 : AF := (⟨_, rfl⟩ : {x : AF // kF tb Tryz.f6 5 99 = some x}).1
theorem t6 : FnAt Tryz.prog 6 a6 := .mk Tryz.func6 (by kernel_rfl) (by kernel_rfl)
def a7 : AF := (⟨_, rfl⟩ : {x : AF // kF tb Tryz.f7 3 162 = some x}).1
theorem t7 : FnAt Tryz.prog 7 a7 := .mk Tryz.func7 (by kernel_rfl) (by kernel_rfl)
def a8 : AF := (⟨_, rfl⟩ : {x : AF // kF tb Tryz.f8 4 160 = some x}).1
theorem t8 : FnAt Tryz.prog 8 a8 := .mk Tryz.func8 (by kernel_rfl) (by kernel_rfl)
def a9 : AF := (⟨_, rfl⟩ : {x : AF // kF tb Tryz.f9 2 97 = some x}).1
theorem t9 : FnAt Tryz.prog 9 a9 := .mk Tryz.func9 (by kernel_rfl) (by kernel_rfl)
def a10 : AF := (⟨_, rfl⟩ : {x : AF // kF tb Tryz.f10 3 173 = some x}).1
theorem t10 : FnAt Tryz.prog 10 a10 := .mk Tryz.func10 (by kernel_rfl) (by kernel_rfl)
def a11 : AF := (⟨_, rfl⟩ : {x : AF // kF tb Tryz.f11 0 30 = some x}).1
theorem t11 : FnAt Tryz.prog 11 a11 := .mk Tryz.func11 (by kernel_rfl) (by kernel_rfl)
def a12 : AF := (⟨_, rfl⟩ : {x : AF // kF tb Tryz.f12 2 134 = some x}).1
theorem t12 : FnAt Tryz.prog 12 a12 := .mk Tryz.func12 (by kernel_rfl) (by kernel_rfl)
def a13 : AF := (⟨_, rfl⟩ : {x : AF // kF tb Tryz.f13 2 70 = some x}).1
theorem t13 : FnAt Tryz.prog 13 a13 := .mk Tryz.func13 (by kernel_rfl) (by kernel_rfl)
def a14 : AF := (⟨_, rfl⟩ : {x : AF // kF tb Tryz.f14 2 26 = some x}).1
theorem t14 : FnAt Tryz.prog 14 a14 := .mk Tryz.func14 (by kernel_rfl) (by kernel_rfl)
def a15 : AF := (⟨_, rfl⟩ : {x : AF // kF tb Tryz.f15 2 78 = some x}).1
theorem t15 : FnAt Tryz.prog 15 a15 := .mk Tryz.func15 (by kernel_rfl) (by kernel_rfl)
def a16 : AF := (⟨_, rfl⟩ : {x : AF // kF tb Tryz.f16 0 11 = some x}).1
theorem t16 : FnAt Tryz.prog 16 a16 := .mk Tryz.func16 (by kernel_rfl) (by kernel_rfl)
def a17 : AF := (⟨_, rfl⟩ : {x : AF // kF tb Tryz.f17 1 46 = some x}).1
theorem t17 : FnAt Tryz.prog 17 a17 := .mk Tryz.func17 (by kernel_rfl) (by kernel_rfl)
def a18 : AF := (⟨_, rfl⟩ : {x : AF // kF tb Tryz.f18 2 14 = some x}).1
theorem t18 : FnAt Tryz.prog 18 a18 := .mk Tryz.func18 (by kernel_rfl) (by kernel_rfl)
def a19 : AF := (⟨_, rfl⟩ : {x : AF // kF tb Tryz.f19 1 7 = some x}).1
theorem t19 : FnAt Tryz.prog 19 a19 := .mk Tryz.func19 (by kernel_rfl) (by kernel_rfl)
def a20 : AF := (⟨_, rfl⟩ : {x : AF // kF tb Tryz.f20 3 12 = some x}).1
theorem t20 : FnAt Tryz.prog 20 a20 := .mk Tryz.func20 (by kernel_rfl) (by kernel_rfl)
def a21 : AF := (⟨_, rfl⟩ : {x : AF // kF tb Tryz.f21 4 78 = some x}).1
theorem t21 : FnAt Tryz.prog 21 a21 := .mk Tryz.func21 (by kernel_rfl) (by kernel_rfl)
def a22 : AF := (⟨_, rfl⟩ : {x : AF // kF tb Tryz.f22 2 120 = some x}).1
theorem t22 : FnAt Tryz.prog 22 a22 := .mk Tryz.func22 (by kernel_rfl) (by kernel_rfl)
def a23 : AF := (⟨_, rfl⟩ : {x : AF // kF tb Tryz.f23 1 39 = some x}).1
theorem t23 : FnAt Tryz.prog 23 a23 := .mk Tryz.func23 (by kernel_rfl) (by kernel_rfl)
def a24 : AF := (⟨_, rfl⟩ : {x : AF // kF tb Tryz.f24 2 19 = some x}).1
theorem t24 : FnAt Tryz.prog 24 a24 := .mk Tryz.func24 (by kernel_rfl) (by kernel_rfl)
def a25 : AF := (⟨_, rfl⟩ : {x : AF // kF tb Tryz.f25 1 7 = some x}).1
theorem t25 : FnAt Tryz.prog 25 a25 := .mk Tryz.func25 (by kernel_rfl) (by kernel_rfl)
def a26 : AF := (⟨_, rfl⟩ : {x : AF // kF tb Tryz.f26 1 7 = some x}).1
theorem t26 : FnAt Tryz.prog 26 a26 := .mk Tryz.func26 (by kernel_rfl) (by kernel_rfl)
def a27 : AF := (⟨_, rfl⟩ : {x : AF // kF tb Tryz.f27 1 7 = some x}).1
theorem t27 : FnAt Tryz.prog 27 a27 := .mk Tryz.func27 (by kernel_rfl) (by kernel_rfl)
def a28 : AF := (⟨_, rfl⟩ : {x : AF // kF tb Tryz.f28 1 71 = some x}).1
theorem t28 : FnAt Tryz.prog 28 a28 := .mk Tryz.func28 (by kernel_rfl) (by kernel_rfl)
def a29 : AF := (⟨_, rfl⟩ : {x : AF // kF tb Tryz.f29 3 54 = some x}).1
theorem t29 : FnAt Tryz.prog 29 a29 := .mk Tryz.func29 (by kernel_rfl) (by kernel_rfl)
def a30 : AF := (⟨_, rfl⟩ : {x : AF // kF tb Tryz.f30 1 7 = some x}).1
theorem t30 : FnAt Tryz.prog 30 a30 := .mk Tryz.func30 (by kernel_rfl) (by kernel_rfl)
def a31 : AF := (⟨_, rfl⟩ : {x : AF // kF tb Tryz.f31 1 8 = some x}).1
theorem t31 : FnAt Tryz.prog 31 a31 := .mk Tryz.func31 (by kernel_rfl) (by kernel_rfl)
def a32 : AF := (⟨_, rfl⟩ : {x : AF // kF tb Tryz.f32 2 27 = some x}).1
theorem t32 : FnAt Tryz.prog 32 a32 := .mk Tryz.func32 (by kernel_rfl) (by kernel_rfl)
def a33 : AF := (⟨_, rfl⟩ : {x : AF // kF tb Tryz.f33 2 26 = some x}).1
theorem t33 : FnAt Tryz.prog 33 a33 := .mk Tryz.func33 (by kernel_rfl) (by kernel_rfl)
def a34 : AF := (⟨_, rfl⟩ : {x : AF // kF tb Tryz.f34 1 28 = some x}).1
theorem t34 : FnAt Tryz.prog 34 a34 := .mk Tryz.func34 (by kernel_rfl) (by kernel_rfl)
def a35 : AF := (⟨_, rfl⟩ : {x : AF // kF tb Tryz.f35 3 121 = some x}).1
theorem t35 : FnAt Tryz.prog 35 a35 := .mk Tryz.func35 (by kernel_rfl) (by kernel_rfl)
def a36 : AF := (⟨_, rfl⟩ : {x : AF // kF tb Tryz.f36 2 26 = some x}).1
theorem t36 : FnAt Tryz.prog 36 a36 := .mk Tryz.func36 (by kernel_rfl) (by kernel_rfl)
def a37 : AF := (⟨_, rfl⟩ : {x : AF // kF tb Tryz.f37 1 32 = some x}).1
theorem t37 : FnAt Tryz.prog 37 a37 := .mk Tryz.func37 (by kernel_rfl) (by kernel_rfl)
def a38 : AF := (⟨_, rfl⟩ : {x : AF // kF tb Tryz.f38 4 117 = some x}).1
theorem t38 : FnAt Tryz.prog 38 a38 := .mk Tryz.func38 (by kernel_rfl) (by kernel_rfl)
def a39 : AF := (⟨_, rfl⟩ : {x : AF // kF tb Tryz.f39 2 41 = some x}).1
theorem t39 : FnAt Tryz.prog 39 a39 := .mk Tryz.func39 (by kernel_rfl) (by kernel_rfl)
def a40 : AF := (⟨_, rfl⟩ : {x : AF // kF tb Tryz.f40 1 26 = some x}).1
theorem t40 : FnAt Tryz.prog 40 a40 := .mk Tryz.func40 (by kernel_rfl) (by kernel_rfl)
def a41 : AF := (⟨_, rfl⟩ : {x : AF // kF tb Tryz.f41 2 94 = some x}).1
theorem t41 : FnAt Tryz.prog 41 a41 := .mk Tryz.func41 (by kernel_rfl) (by kernel_rfl)
def a42 : AF := (⟨_, rfl⟩ : {x : AF // kF tb Tryz.f42 1 9 = some x}).1
theorem t42 : FnAt Tryz.prog 42 a42 := .mk Tryz.func42 (by kernel_rfl) (by kernel_rfl)
def a43 : AF := (⟨_, rfl⟩ : {x : AF // kF tb Tryz.f43 1 133 = some x}).1
theorem t43 : FnAt Tryz.prog 43 a43 := .mk Tryz.func43 (by kernel_rfl) (by kernel_rfl)
def a44 : AF := (⟨_, rfl⟩ : {x : AF // kF tb Tryz.f44 4 39 = some x}).1
theorem t44 : FnAt Tryz.prog 44 a44 := .mk Tryz.func44 (by kernel_rfl) (by kernel_rfl)
def a45 : AF := (⟨_, rfl⟩ : {x : AF // kF tb Tryz.f45 4 39 = some x}).1
theorem t45 : FnAt Tryz.prog 45 a45 := .mk Tryz.func45 (by kernel_rfl) (by kernel_rfl)
def a46 : AF := (⟨_, rfl⟩ : {x : AF // kF tb Tryz.f46 1 27 = some x}).1
theorem t46 : FnAt Tryz.prog 46 a46 := .mk Tryz.func46 (by kernel_rfl) (by kernel_rfl)
def a47 : AF := (⟨_, rfl⟩ : {x : AF // kF tb Tryz.f47 2 51 = some x}).1
theorem t47 : FnAt Tryz.prog 47 a47 := .mk Tryz.func47 (by kernel_rfl) (by kernel_rfl)
def a48 : AF := (⟨_, rfl⟩ : {x : AF // kF tb Tryz.f48 2 21 = some x}).1
theorem t48 : FnAt Tryz.prog 48 a48 := .mk Tryz.func48 (by kernel_rfl) (by kernel_rfl)
def a49 : AF := (⟨_, rfl⟩ : {x : AF // kF tb Tryz.f49 1 101 = some x}).1
theorem t49 : FnAt Tryz.prog 49 a49 := .mk Tryz.func49 (by kernel_rfl) (by kernel_rfl)
def a50 : AF := (⟨_, rfl⟩ : {x : AF // kF tb Tryz.f50 1 11 = some x}).1
theorem t50 : FnAt Tryz.prog 50 a50 := .mk Tryz.func50 (by kernel_rfl) (by kernel_rfl)
def a51 : AF := (⟨_, rfl⟩ : {x : AF // kF tb Tryz.f51 1 19 = some x}).1
theorem t51 : FnAt Tryz.prog 51 a51 := .mk Tryz.func51 (by kernel_rfl) (by kernel_rfl)
def a52 : AF := (⟨_, rfl⟩ : {x : AF // kF tb Tryz.f52 2 32 = some x}).1
theorem t52 : FnAt Tryz.prog 52 a52 := .mk Tryz.func52 (by kernel_rfl) (by kernel_rfl)
def a53 : AF := (⟨_, rfl⟩ : {x : AF // kF tb Tryz.f53 1 136 = some x}).1
theorem t53 : FnAt Tryz.prog 53 a53 := .mk Tryz.func53 (by kernel_rfl) (by kernel_rfl)
def a54 : AF := (⟨_, rfl⟩ : {x : AF // kF tb Tryz.f54 1 19 = some x}).1
theorem t54 : FnAt Tryz.prog 54 a54 := .mk Tryz.func54 (by kernel_rfl) (by kernel_rfl)
def a55 : AF := (⟨_, rfl⟩ : {x : AF // kF tb Tryz.f55 2 29 = some x}).1
theorem t55 : FnAt Tryz.prog 55 a55 := .mk Tryz.func55 (by kernel_rfl) (by kernel_rfl)
def a56 : AF := (⟨_, rfl⟩ : {x : AF // kF tb Tryz.f56 2 10 = some x}).1
theorem t56 : FnAt Tryz.prog 56 a56 := .mk Tryz.func56 (by kernel_rfl) (by kernel_rfl)
def a57 : AF := (⟨_, rfl⟩ : {x : AF // kF tb Tryz.f57 4 18 = some x}).1
theorem t57 : FnAt Tryz.prog 57 a57 := .mk Tryz.func57 (by kernel_rfl) (by kernel_rfl)
def a58 : AF := (⟨_, rfl⟩ : {x : AF // kF tb Tryz.f58 2 11 = some x}).1
theorem t58 : FnAt Tryz.prog 58 a58 := .mk Tryz.func58 (by kernel_rfl) (by kernel_rfl)
def a59 : AF := (⟨_, rfl⟩ : {x : AF // kF tb Tryz.f59 2 12 = some x}).1
theorem t59 : FnAt Tryz.prog 59 a59 := .mk Tryz.func59 (by kernel_rfl) (by kernel_rfl)
def a60 : AF := (⟨_, rfl⟩ : {x : AF // kF tb Tryz.f60 4 19 = some x}).1
theorem t60 : FnAt Tryz.prog 60 a60 := .mk Tryz.func60 (by kernel_rfl) (by kernel_rfl)
def a61 : AF := (⟨_, rfl⟩ : {x : AF // kF tb Tryz.f61 2 15 = some x}).1
theorem t61 : FnAt Tryz.prog 61 a61 := .mk Tryz.func61 (by kernel_rfl) (by kernel_rfl)
def a62 : AF := (⟨_, rfl⟩ : {x : AF // kF tb Tryz.f62 2 8 = some x}).1
theorem t62 : FnAt Tryz.prog 62 a62 := .mk Tryz.func62 (by kernel_rfl) (by kernel_rfl)
def a63 : AF := (⟨_, rfl⟩ : {x : AF // kF tb Tryz.f63 2 24 = some x}).1
theorem t63 : FnAt Tryz.prog 63 a63 := .mk Tryz.func63 (by kernel_rfl) (by kernel_rfl)
def a64 : AF := (⟨_, rfl⟩ : {x : AF // kF tb Tryz.f64 1 64 = some x}).1
theorem t64 : FnAt Tryz.prog 64 a64 := .mk Tryz.func64 (by kernel_rfl) (by kernel_rfl)
def a65 : AF := (⟨_, rfl⟩ : {x : AF // kF tb Tryz.f65 1 36 = some x}).1
theorem t65 : FnAt Tryz.prog 65 a65 := .mk Tryz.func65 (by kernel_rfl) (by kernel_rfl)
def a66 : AF := (⟨_, rfl⟩ : {x : AF // kF tb Tryz.f66 2 5 = some x}).1
theorem t66 : FnAt Tryz.prog 66 a66 := .mk Tryz.func66 (by kernel_rfl) (by kernel_rfl)
def a67 : AF := (⟨_, rfl⟩ : {x : AF // kF tb Tryz.f67 3 13 = some x}).1
theorem t67 : FnAt Tryz.prog 67 a67 := .mk Tryz.func67 (by kernel_rfl) (by kernel_rfl)
def a68 : AF := (⟨_, rfl⟩ : {x : AF // kF tb Tryz.f68 3 21 = some x}).1
theorem t68 : FnAt Tryz.prog 68 a68 := .mk Tryz.func68 (by kernel_rfl) (by kernel_rfl)
def a69 : AF := (⟨_, rfl⟩ : {x : AF // kF tb Tryz.f69 2 8 = some x}).1
theorem t69 : FnAt Tryz.prog 69 a69 := .mk Tryz.func69 (by kernel_rfl) (by kernel_rfl)
def a70 : AF := (⟨_, rfl⟩ : {x : AF // kF tb Tryz.f70 2 30 = some x}).1
theorem t70 : FnAt Tryz.prog 70 a70 := .mk Tryz.func70 (by kernel_rfl) (by kernel_rfl)
def a71 : AF := (⟨_, rfl⟩ : {x : AF // kF tb Tryz.f71 2 9 = some x}).1
theorem t71 : FnAt Tryz.prog 71 a71 := .mk Tryz.func71 (by kernel_rfl) (by kernel_rfl)
def a72 : AF := (⟨_, rfl⟩ : {x : AF // kF tb Tryz.f72 4 74 = some x}).1
theorem t72 : FnAt Tryz.prog 72 a72 := .mk Tryz.func72 (by kernel_rfl) (by kernel_rfl)
def a73 : AF := (⟨_, rfl⟩ : {x : AF // kF tb Tryz.f73 5 76 = some x}).1
theorem t73 : FnAt Tryz.prog 73 a73 := .mk Tryz.func73 (by kernel_rfl) (by kernel_rfl)
def a74 : AF := (⟨_, rfl⟩ : {x : AF // kF tb Tryz.f74 2 26 = some x}).1
theorem t74 : FnAt Tryz.prog 74 a74 := .mk Tryz.func74 (by kernel_rfl) (by kernel_rfl)
def a75 : AF := (⟨_, rfl⟩ : {x : AF // kF tb Tryz.f75 2 26 = some x}).1
theorem t75 : FnAt Tryz.prog 75 a75 := .mk Tryz.func75 (by kernel_rfl) (by kernel_rfl)
def a76 : AF := (⟨_, rfl⟩ : {x : AF // kF tb Tryz.f76 0 21 = some x}).1
theorem t76 : FnAt Tryz.prog 76 a76 := .mk Tryz.func76 (by kernel_rfl) (by kernel_rfl)
def a77 : AF := (⟨_, rfl⟩ : {x : AF // kF tb Tryz.f77 2 17 = some x}).1
theorem t77 : FnAt Tryz.prog 77 a77 := .mk Tryz.func77 (by kernel_rfl) (by kernel_rfl)
def a78 : AF := (⟨_, rfl⟩ : {x : AF // kF tb Tryz.f78 1 8 = some x}).1
theorem t78 : FnAt Tryz.prog 78 a78 := .mk Tryz.func78 (by kernel_rfl) (by kernel_rfl)
def a79 : AF := (⟨_, rfl⟩ : {x : AF // kF tb Tryz.f79 1 8 = some x}).1
theorem t79 : FnAt Tryz.prog 79 a79 := .mk Tryz.func79 (by kernel_rfl) (by kernel_rfl)
def a80 : AF := (⟨_, rfl⟩ : {x : AF // kF tb Tryz.f80 1 46 = some x}).1
theorem t80 : FnAt Tryz.prog 80 a80 := .mk Tryz.func80 (by kernel_rfl) (by kernel_rfl)
def a81 : AF := (⟨_, rfl⟩ : {x : AF // kF tb Tryz.f81 2 22 = some x}).1
theorem t81 : FnAt Tryz.prog 81 a81 := .mk Tryz.func81 (by kernel_rfl) (by kernel_rfl)
def a82 : AF := (⟨_, rfl⟩ : {x : AF // kF tb Tryz.f82 5 28 = some x}).1
theorem t82 : FnAt Tryz.prog 82 a82 := .mk Tryz.func82 (by kernel_rfl) (by kernel_rfl)
def a83 : AF := (⟨_, rfl⟩ : {x : AF // kF tb Tryz.f83 1 9 = some x}).1
theorem t83 : FnAt Tryz.prog 83 a83 := .mk Tryz.func83 (by kernel_rfl) (by kernel_rfl)
def a84 : AF := (⟨_, rfl⟩ : {x : AF // kF tb Tryz.f84 1 30 = some x}).1
theorem t84 : FnAt Tryz.prog 84 a84 := .mk Tryz.func84 (by kernel_rfl) (by kernel_rfl)
def a85 : AF := (⟨_, rfl⟩ : {x : AF // kF tb Tryz.f85 1 61 = some x}).1
theorem t85 : FnAt Tryz.prog 85 a85 := .mk Tryz.func85 (by kernel_rfl) (by kernel_rfl)
def a86 : AF := (⟨_, rfl⟩ : {x : AF // kF tb Tryz.f86 2 16 = some x}).1
theorem t86 : FnAt Tryz.prog 86 a86 := .mk Tryz.func86 (by kernel_rfl) (by kernel_rfl)
def a87 : AF := (⟨_, rfl⟩ : {x : AF // kF tb Tryz.f87 5 69 = some x}).1
theorem t87 : FnAt Tryz.prog 87 a87 := .mk Tryz.func87 (by kernel_rfl) (by kernel_rfl)
def a88 : AF := (⟨_, rfl⟩ : {x : AF // kF tb Tryz.f88 1 79 = some x}).1
theorem t88 : FnAt Tryz.prog 88 a88 := .mk Tryz.func88 (by kernel_rfl) (by kernel_rfl)
def a89 : AF := (⟨_, rfl⟩ : {x : AF // kF tb Tryz.f89 3 21 = some x}).1
theorem t89 : FnAt Tryz.prog 89 a89 := .mk Tryz.func89 (by kernel_rfl) (by kernel_rfl)
def a90 : AF := (⟨_, rfl⟩ : {x : AF // kF tb Tryz.f90 4 76 = some x}).1
theorem t90 : FnAt Tryz.prog 90 a90 := .mk Tryz.func90 (by kernel_rfl) (by kernel_rfl)
def a91 : AF := (⟨_, rfl⟩ : {x : AF // kF tb Tryz.f91 2 58 = some x}).1
theorem t91 : FnAt Tryz.prog 91 a91 := .mk Tryz.func91 (by kernel_rfl) (by kernel_rfl)
def a92 : AF := (⟨_, rfl⟩ : {x : AF // kF tb Tryz.f92 5 68 = some x}).1
theorem t92 : FnAt Tryz.prog 92 a92 := .mk Tryz.func92 (by kernel_rfl) (by kernel_rfl)
def a93 : AF := (⟨_, rfl⟩ : {x : AF // kF tb Tryz.f93 1 28 = some x}).1
theorem t93 : FnAt Tryz.prog 93 a93 := .mk Tryz.func93 (by kernel_rfl) (by kernel_rfl)
def a94 : AF := (⟨_, rfl⟩ : {x : AF // kF tb Tryz.f94 2 47 = some x}).1
theorem t94 : FnAt Tryz.prog 94 a94 := .mk Tryz.func94 (by kernel_rfl) (by kernel_rfl)
def a95 : AF := (⟨_, rfl⟩ : {x : AF // kF tb Tryz.f95 2 17 = some x}).1
theorem t95 : FnAt Tryz.prog 95 a95 := .mk Tryz.func95 (by kernel_rfl) (by kernel_rfl)
def a96 : AF := (⟨_, rfl⟩ : {x : AF // kF tb Tryz.f96 2 39 = some x}).1
theorem t96 : FnAt Tryz.prog 96 a96 := .mk Tryz.func96 (by kernel_rfl) (by kernel_rfl)
def a97 : AF := (⟨_, rfl⟩ : {x : AF // kF tb Tryz.f97 1 9 = some x}).1
theorem t97 : FnAt Tryz.prog 97 a97 := .mk Tryz.func97 (by kernel_rfl) (by kernel_rfl)
def a98 : AF := (⟨_, rfl⟩ : {x : AF // kF tb Tryz.f98 1 4 = some x}).1
theorem t98 : FnAt Tryz.prog 98 a98 := .mk Tryz.func98 (by kernel_rfl) (by kernel_rfl)
def a99 : AF := (⟨_, rfl⟩ : {x : AF // kF tb Tryz.f99 2 9 = some x}).1
theorem t99 : FnAt Tryz.prog 99 a99 := .mk Tryz.func99 (by kernel_rfl) (by kernel_rfl)
def a100 : AF := (⟨_, rfl⟩ : {x : AF // kF tb Tryz.f100 1 9 = some x}).1
theorem t100 : FnAt Tryz.prog 100 a100 := .mk Tryz.func100 (by kernel_rfl) (by kernel_rfl)
def a101 : AF := (⟨_, rfl⟩ : {x : AF // kF tb Tryz.f101 1 30 = some x}).1
theorem t101 : FnAt Tryz.prog 101 a101 := .mk Tryz.func101 (by kernel_rfl) (by kernel_rfl)
def a102 : AF := (⟨_, rfl⟩ : {x : AF // kF tb Tryz.f102 2 20 = some x}).1
theorem t102 : FnAt Tryz.prog 102 a102 := .mk Tryz.func102 (by kernel_rfl) (by kernel_rfl)
def a103 : AF := (⟨_, rfl⟩ : {x : AF // kF tb Tryz.f103 2 13 = some x}).1
theorem t103 : FnAt Tryz.prog 103 a103 := .mk Tryz.func103 (by kernel_rfl) (by kernel_rfl)
def a104 : AF := (⟨_, rfl⟩ : {x : AF // kF tb Tryz.f104 1 75 = some x}).1
theorem t104 : FnAt Tryz.prog 104 a104 := .mk Tryz.func104 (by kernel_rfl) (by kernel_rfl)
def a105 : AF := (⟨_, rfl⟩ : {x : AF // kF tb Tryz.f105 1 143 = some x}).1
theorem t105 : FnAt Tryz.prog 105 a105 := .mk Tryz.func105 (by kernel_rfl) (by kernel_rfl)
def a106 : AF := (⟨_, rfl⟩ : {x : AF // kF tb Tryz.f106 2 15 = some x}).1
theorem t106 : FnAt Tryz.prog 106 a106 := .mk Tryz.func106 (by kernel_rfl) (by kernel_rfl)
def a107 : AF := (⟨_, rfl⟩ : {x : AF // kF tb Tryz.f107 1 54 = some x}).1
theorem t107 : FnAt Tryz.prog 107 a107 := .mk Tryz.func107 (by kernel_rfl) (by kernel_rfl)
def a108 : AF := (⟨_, rfl⟩ : {x : AF // kF tb Tryz.f108 1 149 = some x}).1
theorem t108 : FnAt Tryz.prog 108 a108 := .mk Tryz.func108 (by kernel_rfl) (by kernel_rfl)
def a109 : AF := (⟨_, rfl⟩ : {x : AF // kF tb Tryz.f109 1 15 = some x}).1
theorem t109 : FnAt Tryz.prog 109 a109 := .mk Tryz.func109 (by kernel_rfl) (by kernel_rfl)
def a110 : AF := (⟨_, rfl⟩ : {x : AF // kF tb Tryz.f110 1 31 = some x}).1
theorem t110 : FnAt Tryz.prog 110 a110 := .mk Tryz.func110 (by kernel_rfl) (by kernel_rfl)
def a111 : AF := (⟨_, rfl⟩ : {x : AF // kF tb Tryz.f111 1 73 = some x}).1
theorem t111 : FnAt Tryz.prog 111 a111 := .mk Tryz.func111 (by kernel_rfl) (by kernel_rfl)
def a112 : AF := (⟨_, rfl⟩ : {x : AF // kF tb Tryz.f112 1 9 = some x}).1
theorem t112 : FnAt Tryz.prog 112 a112 := .mk Tryz.func112 (by kernel_rfl) (by kernel_rfl)
def a113 : AF := (⟨_, rfl⟩ : {x : AF // kF tb Tryz.f113 1 21 = some x}).1
theorem t113 : FnAt Tryz.prog 113 a113 := .mk Tryz.func113 (by kernel_rfl) (by kernel_rfl)
def a114 : AF := (⟨_, rfl⟩ : {x : AF // kF tb Tryz.f114 2 12 = some x}).1
theorem t114 : FnAt Tryz.prog 114 a114 := .mk Tryz.func114 (by kernel_rfl) (by kernel_rfl)
def a115 : AF := (⟨_, rfl⟩ : {x : AF // kF tb Tryz.f115 1 20 = some x}).1
theorem t115 : FnAt Tryz.prog 115 a115 := .mk Tryz.func115 (by kernel_rfl) (by kernel_rfl)
def a116 : AF := (⟨_, rfl⟩ : {x : AF // kF tb Tryz.f116 1 29 = some x}).1
theorem t116 : FnAt Tryz.prog 116 a116 := .mk Tryz.func116 (by kernel_rfl) (by kernel_rfl)
def a117 : AF := (⟨_, rfl⟩ : {x : AF // kF tb Tryz.f117 1 136 = some x}).1
theorem t117 : FnAt Tryz.prog 117 a117 := .mk Tryz.func117 (by kernel_rfl) (by kernel_rfl)
def a118 : AF := (⟨_, rfl⟩ : {x : AF // kF tb Tryz.f118 1 9 = some x}).1
theorem t118 : FnAt Tryz.prog 118 a118 := .mk Tryz.func118 (by kernel_rfl) (by kernel_rfl)
def a119 : AF := (⟨_, rfl⟩ : {x : AF // kF tb Tryz.f119 1 21 = some x}).1
theorem t119 : FnAt Tryz.prog 119 a119 := .mk Tryz.func119 (by kernel_rfl) (by kernel_rfl)
def a120 : AF := (⟨_, rfl⟩ : {x : AF // kF tb Tryz.f120 1 8 = some x}).1
theorem t120 : FnAt Tryz.prog 120 a120 := .mk Tryz.func120 (by kernel_rfl) (by kernel_rfl)
def a121 : AF := (⟨_, rfl⟩ : {x : AF // kF tb Tryz.f121 1 9 = some x}).1
theorem t121 : FnAt Tryz.prog 121 a121 := .mk Tryz.func121 (by kernel_rfl) (by kernel_rfl)
def a122 : AF := (⟨_, rfl⟩ : {x : AF // kF tb Tryz.f122 3 80 = some x}).1
theorem t122 : FnAt Tryz.prog 122 a122 := .mk Tryz.func122 (by kernel_rfl) (by kernel_rfl)
def a123 : AF := (⟨_, rfl⟩ : {x : AF // kF tb Tryz.f123 2 27 = some x}).1
theorem t123 : FnAt Tryz.prog 123 a123 := .mk Tryz.func123 (by kernel_rfl) (by kernel_rfl)
def a124 : AF := (⟨_, rfl⟩ : {x : AF // kF tb Tryz.f124 1 28 = some x}).1
theorem t124 : FnAt Tryz.prog 124 a124 := .mk Tryz.func124 (by kernel_rfl) (by kernel_rfl)
def a125 : AF := (⟨_, rfl⟩ : {x : AF // kF tb Tryz.f125 2 19 = some x}).1
theorem t125 : FnAt Tryz.prog 125 a125 := .mk Tryz.func125 (by kernel_rfl) (by kernel_rfl)
def a126 : AF := (⟨_, rfl⟩ : {x : AF // kF tb Tryz.f126 1 7 = some x}).1
theorem t126 : FnAt Tryz.prog 126 a126 := .mk Tryz.func126 (by kernel_rfl) (by kernel_rfl)
def a127 : AF := (⟨_, rfl⟩ : {x : AF // kF tb Tryz.f127 1 13 = some x}).1
theorem t127 : FnAt Tryz.prog 127 a127 := .mk Tryz.func127 (by kernel_rfl) (by kernel_rfl)
def a128 : AF := (⟨_, rfl⟩ : {x : AF // kF tb Tryz.f128 2 18 = some x}).1
theorem t128 : FnAt Tryz.prog 128 a128 := .mk Tryz.func128 (by kernel_rfl) (by kernel_rfl)
def a129 : AF := (⟨_, rfl⟩ : {x : AF // kF tb Tryz.f129 2 19 = some x}).1
theorem t129 : FnAt Tryz.prog 129 a129 := .mk Tryz.func129 (by kernel_rfl) (by kernel_rfl)
def a130 : AF := (⟨_, rfl⟩ : {x : AF // kF tb Tryz.f130 2 32 = some x}).1
theorem t130 : FnAt Tryz.prog 130 a130 := .mk Tryz.func130 (by kernel_rfl) (by kernel_rfl)
def a131 : AF := (⟨_, rfl⟩ : {x : AF // kF tb Tryz.f131 3 25 = some x}).1
theorem t131 : FnAt Tryz.prog 131 a131 := .mk Tryz.func131 (by kernel_rfl) (by kernel_rfl)
def a132 : AF := (⟨_, rfl⟩ : {x : AF // kF tb Tryz.f132 2 38 = some x}).1
theorem t132 : FnAt Tryz.prog 132 a132 := .mk Tryz.func132 (by kernel_rfl) (by kernel_rfl)
def a133 : AF := (⟨_, rfl⟩ : {x : AF // kF tb Tryz.f133 1 10 = some x}).1
theorem t133 : FnAt Tryz.prog 133 a133 := .mk Tryz.func133 (by kernel_rfl) (by kernel_rfl)
def a134 : AF := (⟨_, rfl⟩ : {x : AF // kF tb Tryz.f134 1 41 = some x}).1
theorem t134 : FnAt Tryz.prog 134 a134 := .mk Tryz.func134 (by kernel_rfl) (by kernel_rfl)
def a135 : AF := (⟨_, rfl⟩ : {x : AF // kF tb Tryz.f135 3 52 = some x}).1
theorem t135 : FnAt Tryz.prog 135 a135 := .mk Tryz.func135 (by kernel_rfl) (by kernel_rfl)
def a136 : AF := (⟨_, rfl⟩ : {x : AF // kF tb Tryz.f136 3 42 = some x}).1
theorem t136 : FnAt Tryz.prog 136 a136 := .mk Tryz.func136 (by kernel_rfl) (by kernel_rfl)
def a137 : AF := (⟨_, rfl⟩ : {x : AF // kF tb Tryz.f137 1 11 = some x}).1
theorem t137 : FnAt Tryz.prog 137 a137 := .mk Tryz.func137 (by kernel_rfl) (by kernel_rfl)
def a138 : AF := (⟨_, rfl⟩ : {x : AF // kF tb Tryz.f138 2 22 = some x}).1
theorem t138 : FnAt Tryz.prog 138 a138 := .mk Tryz.func138 (by kernel_rfl) (by kernel_rfl)
def a139 : AF := (⟨_, rfl⟩ : {x : AF // kF tb Tryz.f139 2 26 = some x}).1
theorem t139 : FnAt Tryz.prog 139 a139 := .mk Tryz.func139 (by kernel_rfl) (by kernel_rfl)
def a140 : AF := (⟨_, rfl⟩ : {x : AF // kF tb Tryz.f140 2 24 = some x}).1
theorem t140 : FnAt Tryz.prog 140 a140 := .mk Tryz.func140 (by kernel_rfl) (by kernel_rfl)
def a141 : AF := (⟨_, rfl⟩ : {x : AF // kF tb Tryz.f141 2 50 = some x}).1
theorem t141 : FnAt Tryz.prog 141 a141 := .mk Tryz.func141 (by kernel_rfl) (by kernel_rfl)
def a142 : AF := (⟨_, rfl⟩ : {x : AF // kF tb Tryz.f142 2 40 = some x}).1
theorem t142 : FnAt Tryz.prog 142 a142 := .mk Tryz.func142 (by kernel_rfl) (by kernel_rfl)
def a143 : AF := (⟨_, rfl⟩ : {x : AF // kF tb Tryz.f143 1 7 = some x}).1
theorem t143 : FnAt Tryz.prog 143 a143 := .mk Tryz.func143 (by kernel_rfl) (by kernel_rfl)
def a144 : AF := (⟨_, rfl⟩ : {x : AF // kF tb Tryz.f144 3 23 = some x}).1
theorem t144 : FnAt Tryz.prog 144 a144 := .mk Tryz.func144 (by kernel_rfl) (by kernel_rfl)
def a145 : AF := (⟨_, rfl⟩ : {x : AF // kF tb Tryz.f145 2 37 = some x}).1
theorem t145 : FnAt Tryz.prog 145 a145 := .mk Tryz.func145 (by kernel_rfl) (by kernel_rfl)
def a146 : AF := (⟨_, rfl⟩ : {x : AF // kF tb Tryz.f146 2 39 = some x}).1
theorem t146 : FnAt Tryz.prog 146 a146 := .mk Tryz.func146 (by kernel_rfl) (by kernel_rfl)
def a147 : AF := (⟨_, rfl⟩ : {x : AF // kF tb Tryz.f147 2 33 = some x}).1
theorem t147 : FnAt Tryz.prog 147 a147 := .mk Tryz.func147 (by kernel_rfl) (by kernel_rfl)
def a148 : AF := (⟨_, rfl⟩ : {x : AF // kF tb Tryz.f148 2 19 = some x}).1
theorem t148 : FnAt Tryz.prog 148 a148 := .mk Tryz.func148 (by kernel_rfl) (by kernel_rfl)
def a149 : AF := (⟨_, rfl⟩ : {x : AF // kF tb Tryz.f149 3 58 = some x}).1
theorem t149 : FnAt Tryz.prog 149 a149 := .mk Tryz.func149 (by kernel_rfl) (by kernel_rfl)
def a150 : AF := (⟨_, rfl⟩ : {x : AF // kF tb Tryz.f150 3 44 = some x}).1
theorem t150 : FnAt Tryz.prog 150 a150 := .mk Tryz.func150 (by kernel_rfl) (by kernel_rfl)
def a151 : AF := (⟨_, rfl⟩ : {x : AF // kF tb Tryz.f151 2 31 = some x}).1
theorem t151 : FnAt Tryz.prog 151 a151 := .mk Tryz.func151 (by kernel_rfl) (by kernel_rfl)
def a152 : AF := (⟨_, rfl⟩ : {x : AF // kF tb Tryz.f152 2 21 = some x}).1
theorem t152 : FnAt Tryz.prog 152 a152 := .mk Tryz.func152 (by kernel_rfl) (by kernel_rfl)
def a153 : AF := (⟨_, rfl⟩ : {x : AF // kF tb Tryz.f153 1 5 = some x}).1
theorem t153 : FnAt Tryz.prog 153 a153 := .mk Tryz.func153 (by kernel_rfl) (by kernel_rfl)
def a154 : AF := (⟨_, rfl⟩ : {x : AF // kF tb Tryz.f154 2 14 = some x}).1
theorem t154 : FnAt Tryz.prog 154 a154 := .mk Tryz.func154 (by kernel_rfl) (by kernel_rfl)
def a155 : AF := (⟨_, rfl⟩ : {x : AF // kF tb Tryz.f155 2 15 = some x}).1
theorem t155 : FnAt Tryz.prog 155 a155 := .mk Tryz.func155 (by kernel_rfl) (by kernel_rfl)
def a156 : AF := (⟨_, rfl⟩ : {x : AF // kF tb Tryz.f156 1 13 = some x}).1
theorem t156 : FnAt Tryz.prog 156 a156 := .mk Tryz.func156 (by kernel_rfl) (by kernel_rfl)
def a157 : AF := (⟨_, rfl⟩ : {x : AF // kF tb Tryz.f157 2 14 = some x}).1
theorem t157 : FnAt Tryz.prog 157 a157 := .mk Tryz.func157 (by kernel_rfl) (by kernel_rfl)
def a158 : AF := (⟨_, rfl⟩ : {x : AF // kF tb Tryz.f158 2 13 = some x}).1
theorem t158 : FnAt Tryz.prog 158 a158 := .mk Tryz.func158 (by kernel_rfl) (by kernel_rfl)
def a159 : AF := (⟨_, rfl⟩ : {x : AF // kF tb Tryz.f159 2 92 = some x}).1
theorem t159 : FnAt Tryz.prog 159 a159 := .mk Tryz.func159 (by kernel_rfl) (by kernel_rfl)
def a160 : AF := (⟨_, rfl⟩ : {x : AF // kF tb Tryz.f160 1 102 = some x}).1
theorem t160 : FnAt Tryz.prog 160 a160 := .mk Tryz.func160 (by kernel_rfl) (by kernel_rfl)
def a161 : AF := (⟨_, rfl⟩ : {x : AF // kF tb Tryz.f161 1 31 = some x}).1
theorem t161 : FnAt Tryz.prog 161 a161 := .mk Tryz.func161 (by kernel_rfl) (by kernel_rfl)
def a162 : AF := (⟨_, rfl⟩ : {x : AF // kF tb Tryz.f162 2 18 = some x}).1
theorem t162 : FnAt Tryz.prog 162 a162 := .mk Tryz.func162 (by kernel_rfl) (by kernel_rfl)
def a163 : AF := (⟨_, rfl⟩ : {x : AF // kF tb Tryz.f163 1 4 = some x}).1
theorem t163 : FnAt Tryz.prog 163 a163 := .mk Tryz.func163 (by kernel_rfl) (by kernel_rfl)
def a164 : AF := (⟨_, rfl⟩ : {x : AF // kF tb Tryz.f164 2 63 = some x}).1
theorem t164 : FnAt Tryz.prog 164 a164 := .mk Tryz.func164 (by kernel_rfl) (by kernel_rfl)
def a165 : AF := (⟨_, rfl⟩ : {x : AF // kF tb Tryz.f165 1 203 = some x}).1
theorem t165 : FnAt Tryz.prog 165 a165 := .mk Tryz.func165 (by kernel_rfl) (by kernel_rfl)
def a166 : AF := (⟨_, rfl⟩ : {x : AF // kF tb Tryz.f166 1 91 = some x}).1
theorem t166 : FnAt Tryz.prog 166 a166 := .mk Tryz.func166 (by kernel_rfl) (by kernel_rfl)
def a167 : AF := (⟨_, rfl⟩ : {x : AF // kF tb Tryz.f167 1 24 = some x}).1
theorem t167 : FnAt Tryz.prog 167 a167 := .mk Tryz.func167 (by kernel_rfl) (by kernel_rfl)
def a168 : AF := (⟨_, rfl⟩ : {x : AF // kF tb Tryz.f168 2 8 = some x}).1
theorem t168 : FnAt Tryz.prog 168 a168 := .mk Tryz.func168 (by kernel_rfl) (by kernel_rfl)
def a169 : AF := (⟨_, rfl⟩ : {x : AF // kF tb Tryz.f169 2 9 = some x}).1
theorem t169 : FnAt Tryz.prog 169 a169 := .mk Tryz.func169 (by kernel_rfl) (by kernel_rfl)
def a170 : AF := (⟨_, rfl⟩ : {x : AF // kF tb Tryz.f170 1 8 = some x}).1
theorem t170 : FnAt Tryz.prog 170 a170 := .mk Tryz.func170 (by kernel_rfl) (by kernel_rfl)
def a171 : AF := (⟨_, rfl⟩ : {x : AF // kF tb Tryz.f171 1 5 = some x}).1
theorem t171 : FnAt Tryz.prog 171 a171 := .mk Tryz.func171 (by kernel_rfl) (by kernel_rfl)
def a172 : AF := (⟨_, rfl⟩ : {x : AF // kF tb Tryz.f172 2 24 = some x}).1
theorem t172 : FnAt Tryz.prog 172 a172 := .mk Tryz.func172 (by kernel_rfl) (by kernel_rfl)
def a173 : AF := (⟨_, rfl⟩ : {x : AF // kF tb Tryz.f173 1 8 = some x}).1
theorem t173 : FnAt Tryz.prog 173 a173 := .mk Tryz.func173 (by kernel_rfl) (by kernel_rfl)
def a174 : AF := (⟨_, rfl⟩ : {x : AF // kF tb Tryz.f174 1 28 = some x}).1
theorem t174 : FnAt Tryz.prog 174 a174 := .mk Tryz.func174 (by kernel_rfl) (by kernel_rfl)
def a175 : AF := (⟨_, rfl⟩ : {x : AF // kF tb Tryz.f175 2 33 = some x}).1
theorem t175 : FnAt Tryz.prog 175 a175 := .mk Tryz.func175 (by kernel_rfl) (by kernel_rfl)
def a176 : AF := (⟨_, rfl⟩ : {x : AF // kF tb Tryz.f176 2 27 = some x}).1
theorem t176 : FnAt Tryz.prog 176 a176 := .mk Tryz.func176 (by kernel_rfl) (by kernel_rfl)
def a177 : AF := (⟨_, rfl⟩ : {x : AF // kF tb Tryz.f177 2 18 = some x}).1
theorem t177 : FnAt Tryz.prog 177 a177 := .mk Tryz.func177 (by kernel_rfl) (by kernel_rfl)
def a178 : AF := (⟨_, rfl⟩ : {x : AF // kF tb Tryz.f178 3 48 = some x}).1
theorem t178 : FnAt Tryz.prog 178 a178 := .mk Tryz.func178 (by kernel_rfl) (by kernel_rfl)
def a179 : AF := (⟨_, rfl⟩ : {x : AF // kF tb Tryz.f179 3 13 = some x}).1
theorem t179 : FnAt Tryz.prog 179 a179 := .mk Tryz.func179 (by kernel_rfl) (by kernel_rfl)
def a180 : AF := (⟨_, rfl⟩ : {x : AF // kF tb Tryz.f180 3 43 = some x}).1
theorem t180 : FnAt Tryz.prog 180 a180 := .mk Tryz.func180 (by kernel_rfl) (by kernel_rfl)
def a181 : AF := (⟨_, rfl⟩ : {x : AF // kF tb Tryz.f181 3 40 = some x}).1
theorem t181 : FnAt Tryz.prog 181 a181 := .mk Tryz.func181 (by kernel_rfl) (by kernel_rfl)
def a182 : AF := (⟨_, rfl⟩ : {x : AF // kF tb Tryz.f182 2 76 = some x}).1
theorem t182 : FnAt Tryz.prog 182 a182 := .mk Tryz.func182 (by kernel_rfl) (by kernel_rfl)
def a183 : AF := (⟨_, rfl⟩ : {x : AF // kF tb Tryz.f183 4 134 = some x}).1
theorem t183 : FnAt Tryz.prog 183 a183 := .mk Tryz.func183 (by kernel_rfl) (by kernel_rfl)
def a184 : AF := (⟨_, rfl⟩ : {x : AF // kF tb Tryz.f184 1 8 = some x}).1
theorem t184 : FnAt Tryz.prog 184 a184 := .mk Tryz.func184 (by kernel_rfl) (by kernel_rfl)
def a185 : AF := (⟨_, rfl⟩ : {x : AF // kF tb Tryz.f185 1 25 = some x}).1
theorem t185 : FnAt Tryz.prog 185 a185 := .mk Tryz.func185 (by kernel_rfl) (by kernel_rfl)
def a186 : AF := (⟨_, rfl⟩ : {x : AF // kF tb Tryz.f186 2 79 = some x}).1
theorem t186 : FnAt Tryz.prog 186 a186 := .mk Tryz.func186 (by kernel_rfl) (by kernel_rfl)
def a187 : AF := (⟨_, rfl⟩ : {x : AF // kF tb Tryz.f187 2 54 = some x}).1
theorem t187 : FnAt Tryz.prog 187 a187 := .mk Tryz.func187 (by kernel_rfl) (by kernel_rfl)
def a188 : AF := (⟨_, rfl⟩ : {x : AF // kF tb Tryz.f188 1 8 = some x}).1
theorem t188 : FnAt Tryz.prog 188 a188 := .mk Tryz.func188 (by kernel_rfl) (by kernel_rfl)
def a189 : AF := (⟨_, rfl⟩ : {x : AF // kF tb Tryz.f189 3 43 = some x}).1
theorem t189 : FnAt Tryz.prog 189 a189 := .mk Tryz.func189 (by kernel_rfl) (by kernel_rfl)
def a190 : AF := (⟨_, rfl⟩ : {x : AF // kF tb Tryz.f190 3 57 = some x}).1
theorem t190 : FnAt Tryz.prog 190 a190 := .mk Tryz.func190 (by kernel_rfl) (by kernel_rfl)
def a191 : AF := (⟨_, rfl⟩ : {x : AF // kF tb Tryz.f191 2 127 = some x}).1
theorem t191 : FnAt Tryz.prog 191 a191 := .mk Tryz.func191 (by kernel_rfl) (by kernel_rfl)
def a192 : AF := (⟨_, rfl⟩ : {x : AF // kF tb Tryz.f192 3 67 = some x}).1
theorem t192 : FnAt Tryz.prog 192 a192 := .mk Tryz.func192 (by kernel_rfl) (by kernel_rfl)
def a193 : AF := (⟨_, rfl⟩ : {x : AF // kF tb Tryz.f193 2 42 = some x}).1
theorem t193 : FnAt Tryz.prog 193 a193 := .mk Tryz.func193 (by kernel_rfl) (by kernel_rfl)
def a195 : AF := (⟨_, rfl⟩ : {x : AF // kF tb Tryz.f195 1 6 = some x}).1
theorem t195 : FnAt Tryz.prog 195 a195 := .mk Tryz.func195 (by kernel_rfl) (by kernel_rfl)
def a196 : AF := (⟨_, rfl⟩ : {x : AF // kF tb Tryz.f196 1 17 = some x}).1
theorem t196 : FnAt Tryz.prog 196 a196 := .mk Tryz.func196 (by kernel_rfl) (by kernel_rfl)
def a197 : AF := (⟨_, rfl⟩ : {x : AF // kF tb Tryz.f197 1 27 = some x}).1
theorem t197 : FnAt Tryz.prog 197 a197 := .mk Tryz.func197 (by kernel_rfl) (by kernel_rfl)
def a198 : AF := (⟨_, rfl⟩ : {x : AF // kF tb Tryz.f198 2 44 = some x}).1
theorem t198 : FnAt Tryz.prog 198 a198 := .mk Tryz.func198 (by kernel_rfl) (by kernel_rfl)
def a199 : AF := (⟨_, rfl⟩ : {x : AF // kF tb Tryz.f199 2 39 = some x}).1
theorem t199 : FnAt Tryz.prog 199 a199 := .mk Tryz.func199 (by kernel_rfl) (by kernel_rfl)
def a200 : AF := (⟨_, rfl⟩ : {x : AF // kF tb Tryz.f200 1 29 = some x}).1
theorem t200 : FnAt Tryz.prog 200 a200 := .mk Tryz.func200 (by kernel_rfl) (by kernel_rfl)
def a201 : AF := (⟨_, rfl⟩ : {x : AF // kF tb Tryz.f201 1 10 = some x}).1
theorem t201 : FnAt Tryz.prog 201 a201 := .mk Tryz.func201 (by kernel_rfl) (by kernel_rfl)
def a202 : AF := (⟨_, rfl⟩ : {x : AF // kF tb Tryz.f202 1 9 = some x}).1
theorem t202 : FnAt Tryz.prog 202 a202 := .mk Tryz.func202 (by kernel_rfl) (by kernel_rfl)
def a203 : AF := (⟨_, rfl⟩ : {x : AF // kF tb Tryz.f203 1 35 = some x}).1
theorem t203 : FnAt Tryz.prog 203 a203 := .mk Tryz.func203 (by kernel_rfl) (by kernel_rfl)
def a204 : AF := (⟨_, rfl⟩ : {x : AF // kF tb Tryz.f204 1 69 = some x}).1
theorem t204 : FnAt Tryz.prog 204 a204 := .mk Tryz.func204 (by kernel_rfl) (by kernel_rfl)
def a205 : AF := (⟨_, rfl⟩ : {x : AF // kF tb Tryz.f205 2 12 = some x}).1
theorem t205 : FnAt Tryz.prog 205 a205 := .mk Tryz.func205 (by kernel_rfl) (by kernel_rfl)
def a206 : AF := (⟨_, rfl⟩ : {x : AF // kF tb Tryz.f206 1 27 = some x}).1
theorem t206 : FnAt Tryz.prog 206 a206 := .mk Tryz.func206 (by kernel_rfl) (by kernel_rfl)
def a207 : AF := (⟨_, rfl⟩ : {x : AF // kF tb Tryz.f207 1 9 = some x}).1
theorem t207 : FnAt Tryz.prog 207 a207 := .mk Tryz.func207 (by kernel_rfl) (by kernel_rfl)
def a208 : AF := (⟨_, rfl⟩ : {x : AF // kF tb Tryz.f208 2 21 = some x}).1
theorem t208 : FnAt Tryz.prog 208 a208 := .mk Tryz.func208 (by kernel_rfl) (by kernel_rfl)
def a209 : AF := (⟨_, rfl⟩ : {x : AF // kF tb Tryz.f209 2 15 = some x}).1
theorem t209 : FnAt Tryz.prog 209 a209 := .mk Tryz.func209 (by kernel_rfl) (by kernel_rfl)
def a210 : AF := (⟨_, rfl⟩ : {x : AF // kF tb Tryz.f210 2 29 = some x}).1
theorem t210 : FnAt Tryz.prog 210 a210 := .mk Tryz.func210 (by kernel_rfl) (by kernel_rfl)
def a211 : AF := (⟨_, rfl⟩ : {x : AF // kF tb Tryz.f211 3 33 = some x}).1
theorem t211 : FnAt Tryz.prog 211 a211 := .mk Tryz.func211 (by kernel_rfl) (by kernel_rfl)
def a212 : AF := (⟨_, rfl⟩ : {x : AF // kF tb Tryz.f212 1 131 = some x}).1
theorem t212 : FnAt Tryz.prog 212 a212 := .mk Tryz.func212 (by kernel_rfl) (by kernel_rfl)
def a213 : AF := (⟨_, rfl⟩ : {x : AF // kF tb Tryz.f213 1 13 = some x}).1
theorem t213 : FnAt Tryz.prog 213 a213 := .mk Tryz.func213 (by kernel_rfl) (by kernel_rfl)
def a214 : AF := (⟨_, rfl⟩ : {x : AF // kF tb Tryz.f214 1 62 = some x}).1
theorem t214 : FnAt Tryz.prog 214 a214 := .mk Tryz.func214 (by kernel_rfl) (by kernel_rfl)
def a215 : AF := (⟨_, rfl⟩ : {x : AF // kF tb Tryz.f215 1 7 = some x}).1
theorem t215 : FnAt Tryz.prog 215 a215 := .mk Tryz.func215 (by kernel_rfl) (by kernel_rfl)
def a216 : AF := (⟨_, rfl⟩ : {x : AF // kF tb Tryz.f216 2 19 = some x}).1
theorem t216 : FnAt Tryz.prog 216 a216 := .mk Tryz.func216 (by kernel_rfl) (by kernel_rfl)
def a217 : AF := (⟨_, rfl⟩ : {x : AF // kF tb Tryz.f217 2 8 = some x}).1
theorem t217 : FnAt Tryz.prog 217 a217 := .mk Tryz.func217 (by kernel_rfl) (by kernel_rfl)
def a218 : AF := (⟨_, rfl⟩ : {x : AF // kF tb Tryz.f218 2 42 = some x}).1
theorem t218 : FnAt Tryz.prog 218 a218 := .mk Tryz.func218 (by kernel_rfl) (by kernel_rfl)
def a219 : AF := (⟨_, rfl⟩ : {x : AF // kF tb Tryz.f219 2 9 = some x}).1
theorem t219 : FnAt Tryz.prog 219 a219 := .mk Tryz.func219 (by kernel_rfl) (by kernel_rfl)
def a220 : AF := (⟨_, rfl⟩ : {x : AF // kF tb Tryz.f220 3 47 = some x}).1
theorem t220 : FnAt Tryz.prog 220 a220 := .mk Tryz.func220 (by kernel_rfl) (by kernel_rfl)
def a221 : AF := (⟨_, rfl⟩ : {x : AF // kF tb Tryz.f221 2 38 = some x}).1
theorem t221 : FnAt Tryz.prog 221 a221 := .mk Tryz.func221 (by kernel_rfl) (by kernel_rfl)
def a222 : AF := (⟨_, rfl⟩ : {x : AF // kF tb Tryz.f222 2 54 = some x}).1
theorem t222 : FnAt Tryz.prog 222 a222 := .mk Tryz.func222 (by kernel_rfl) (by kernel_rfl)
def a223 : AF := (⟨_, rfl⟩ : {x : AF // kF tb Tryz.f223 1 10 = some x}).1
theorem t223 : FnAt Tryz.prog 223 a223 := .mk Tryz.func223 (by kernel_rfl) (by kernel_rfl)
def a224 : AF := (⟨_, rfl⟩ : {x : AF // kF tb Tryz.f224 4 43 = some x}).1
theorem t224 : FnAt Tryz.prog 224 a224 := .mk Tryz.func224 (by kernel_rfl) (by kernel_rfl)
def a225 : AF := (⟨_, rfl⟩ : {x : AF // kF tb Tryz.f225 4 23 = some x}).1
theorem t225 : FnAt Tryz.prog 225 a225 := .mk Tryz.func225 (by kernel_rfl) (by kernel_rfl)
def a226 : AF := (⟨_, rfl⟩ : {x : AF // kF tb Tryz.f226 2 21 = some x}).1
theorem t226 : FnAt Tryz.prog 226 a226 := .mk Tryz.func226 (by kernel_rfl) (by kernel_rfl)
def a227 : AF := (⟨_, rfl⟩ : {x : AF // kF tb Tryz.f227 3 15 = some x}).1
theorem t227 : FnAt Tryz.prog 227 a227 := .mk Tryz.func227 (by kernel_rfl) (by kernel_rfl)
def a228 : AF := (⟨_, rfl⟩ : {x : AF // kF tb Tryz.f228 1 17 = some x}).1
theorem t228 : FnAt Tryz.prog 228 a228 := .mk Tryz.func228 (by kernel_rfl) (by kernel_rfl)
def a229 : AF := (⟨_, rfl⟩ : {x : AF // kF tb Tryz.f229 3 33 = some x}).1
theorem t229 : FnAt Tryz.prog 229 a229 := .mk Tryz.func229 (by kernel_rfl) (by kernel_rfl)
def a230 : AF := (⟨_, rfl⟩ : {x : AF // kF tb Tryz.f230 1 31 = some x}).1
theorem t230 : FnAt Tryz.prog 230 a230 := .mk Tryz.func230 (by kernel_rfl) (by kernel_rfl)
def a231 : AF := (⟨_, rfl⟩ : {x : AF // kF tb Tryz.f231 3 49 = some x}).1
theorem t231 : FnAt Tryz.prog 231 a231 := .mk Tryz.func231 (by kernel_rfl) (by kernel_rfl)
def a232 : AF := (⟨_, rfl⟩ : {x : AF // kF tb Tryz.f232 3 56 = some x}).1
theorem t232 : FnAt Tryz.prog 232 a232 := .mk Tryz.func232 (by kernel_rfl) (by kernel_rfl)
def a233 : AF := (⟨_, rfl⟩ : {x : AF // kF tb Tryz.f233 3 65 = some x}).1
theorem t233 : FnAt Tryz.prog 233 a233 := .mk Tryz.func233 (by kernel_rfl) (by kernel_rfl)
def a234 : AF := (⟨_, rfl⟩ : {x : AF // kF tb Tryz.f234 3 57 = some x}).1
theorem t234 : FnAt Tryz.prog 234 a234 := .mk Tryz.func234 (by kernel_rfl) (by kernel_rfl)
def a235 : AF := (⟨_, rfl⟩ : {x : AF // kF tb Tryz.f235 3 32 = some x}).1
theorem t235 : FnAt Tryz.prog 235 a235 := .mk Tryz.func235 (by kernel_rfl) (by kernel_rfl)
def a236 : AF := (⟨_, rfl⟩ : {x : AF // kF tb Tryz.f236 3 133 = some x}).1
theorem t236 : FnAt Tryz.prog 236 a236 := .mk Tryz.func236 (by kernel_rfl) (by kernel_rfl)
def a237 : AF := (⟨_, rfl⟩ : {x : AF // kF tb Tryz.f237 2 17 = some x}).1
theorem t237 : FnAt Tryz.prog 237 a237 := .mk Tryz.func237 (by kernel_rfl) (by kernel_rfl)
def a238 : AF := (⟨_, rfl⟩ : {x : AF // kF tb Tryz.f238 4 84 = some x}).1
theorem t238 : FnAt Tryz.prog 238 a238 := .mk Tryz.func238 (by kernel_rfl) (by kernel_rfl)
def a239 : AF := (⟨_, rfl⟩ : {x : AF // kF tb Tryz.f239 4 168 = some x}).1
theorem t239 : FnAt Tryz.prog 239 a239 := .mk Tryz.func239 (by kernel_rfl) (by kernel_rfl)
def a240 : AF := (⟨_, rfl⟩ : {x : AF // kF tb Tryz.f240 1 19 = some x}).1
theorem t240 : FnAt Tryz.prog 240 a240 := .mk Tryz.func240 (by kernel_rfl) (by kernel_rfl)
def a241 : AF := (⟨_, rfl⟩ : {x : AF // kF tb Tryz.f241 1 25 = some x}).1
theorem t241 : FnAt Tryz.prog 241 a241 := .mk Tryz.func241 (by kernel_rfl) (by kernel_rfl)
def a242 : AF := (⟨_, rfl⟩ : {x : AF // kF tb Tryz.f242 3 41 = some x}).1
theorem t242 : FnAt Tryz.prog 242 a242 := .mk Tryz.func242 (by kernel_rfl) (by kernel_rfl)
def a243 : AF := (⟨_, rfl⟩ : {x : AF // kF tb Tryz.f243 3 50 = some x}).1
theorem t243 : FnAt Tryz.prog 243 a243 := .mk Tryz.func243 (by kernel_rfl) (by kernel_rfl)
def a244 : AF := (⟨_, rfl⟩ : {x : AF // kF tb Tryz.f244 3 27 = some x}).1
theorem t244 : FnAt Tryz.prog 244 a244 := .mk Tryz.func244 (by kernel_rfl) (by kernel_rfl)
def a245 : AF := (⟨_, rfl⟩ : {x : AF // kF tb Tryz.f245 4 47 = some x}).1
theorem t245 : FnAt Tryz.prog 245 a245 := .mk Tryz.func245 (by kernel_rfl) (by kernel_rfl)
def a246 : AF := (⟨_, rfl⟩ : {x : AF // kF tb Tryz.f246 1 38 = some x}).1
theorem t246 : FnAt Tryz.prog 246 a246 := .mk Tryz.func246 (by kernel_rfl) (by kernel_rfl)
def a247 : AF := (⟨_, rfl⟩ : {x : AF // kF tb Tryz.f247 2 54 = some x}).1
theorem t247 : FnAt Tryz.prog 247 a247 := .mk Tryz.func247 (by kernel_rfl) (by kernel_rfl)
def a248 : AF := (⟨_, rfl⟩ : {x : AF // kF tb Tryz.f248 2 16 = some x}).1
theorem t248 : FnAt Tryz.prog 248 a248 := .mk Tryz.func248 (by kernel_rfl) (by kernel_rfl)
def a249 : AF := (⟨_, rfl⟩ : {x : AF // kF tb Tryz.f249 1 34 = some x}).1
theorem t249 : FnAt Tryz.prog 249 a249 := .mk Tryz.func249 (by kernel_rfl) (by kernel_rfl)
def a250 : AF := (⟨_, rfl⟩ : {x : AF // kF tb Tryz.f250 1 23 = some x}).1
theorem t250 : FnAt Tryz.prog 250 a250 := .mk Tryz.func250 (by kernel_rfl) (by kernel_rfl)
def a251 : AF := (⟨_, rfl⟩ : {x : AF // kF tb Tryz.f251 3 35 = some x}).1
theorem t251 : FnAt Tryz.prog 251 a251 := .mk Tryz.func251 (by kernel_rfl) (by kernel_rfl)
def a252 : AF := (⟨_, rfl⟩ : {x : AF // kF tb Tryz.f252 2 24 = some x}).1
theorem t252 : FnAt Tryz.prog 252 a252 := .mk Tryz.func252 (by kernel_rfl) (by kernel_rfl)
def a253 : AF := (⟨_, rfl⟩ : {x : AF // kF tb Tryz.f253 2 28 = some x}).1
theorem t253 : FnAt Tryz.prog 253 a253 := .mk Tryz.func253 (by kernel_rfl) (by kernel_rfl)
def a254 : AF := (⟨_, rfl⟩ : {x : AF // kF tb Tryz.f254 2 32 = some x}).1
theorem t254 : FnAt Tryz.prog 254 a254 := .mk Tryz.func254 (by kernel_rfl) (by kernel_rfl)
def a255 : AF := (⟨_, rfl⟩ : {x : AF // kF tb Tryz.f255 2 28 = some x}).1
theorem t255 : FnAt Tryz.prog 255 a255 := .mk Tryz.func255 (by kernel_rfl) (by kernel_rfl)
def a256 : AF := (⟨_, rfl⟩ : {x : AF // kF tb Tryz.f256 2 25 = some x}).1
theorem t256 : FnAt Tryz.prog 256 a256 := .mk Tryz.func256 (by kernel_rfl) (by kernel_rfl)
def a257 : AF := (⟨_, rfl⟩ : {x : AF // kF tb Tryz.f257 3 17 = some x}).1
theorem t257 : FnAt Tryz.prog 257 a257 := .mk Tryz.func257 (by kernel_rfl) (by kernel_rfl)
def a258 : AF := (⟨_, rfl⟩ : {x : AF // kF tb Tryz.f258 3 18 = some x}).1
theorem t258 : FnAt Tryz.prog 258 a258 := .mk Tryz.func258 (by kernel_rfl) (by kernel_rfl)
def a259 : AF := (⟨_, rfl⟩ : {x : AF // kF tb Tryz.f259 1 12 = some x}).1
theorem t259 : FnAt Tryz.prog 259 a259 := .mk Tryz.func259 (by kernel_rfl) (by kernel_rfl)
def a260 : AF := (⟨_, rfl⟩ : {x : AF // kF tb Tryz.f260 2 83 = some x}).1
theorem t260 : FnAt Tryz.prog 260 a260 := .mk Tryz.func260 (by kernel_rfl) (by kernel_rfl)
def a261 : AF := (⟨_, rfl⟩ : {x : AF // kF tb Tryz.f261 2 67 = some x}).1
theorem t261 : FnAt Tryz.prog 261 a261 := .mk Tryz.func261 (by kernel_rfl) (by kernel_rfl)
def a262 : AF := (⟨_, rfl⟩ : {x : AF // kF tb Tryz.f262 2 28 = some x}).1
theorem t262 : FnAt Tryz.prog 262 a262 := .mk Tryz.func262 (by kernel_rfl) (by kernel_rfl)
def a263 : AF := (⟨_, rfl⟩ : {x : AF // kF tb Tryz.f263 2 17 = some x}).1
theorem t263 : FnAt Tryz.prog 263 a263 := .mk Tryz.func263 (by kernel_rfl) (by kernel_rfl)
def a264 : AF := (⟨_, rfl⟩ : {x : AF // kF tb Tryz.f264 1 6 = some x}).1
theorem t264 : FnAt Tryz.prog 264 a264 := .mk Tryz.func264 (by kernel_rfl) (by kernel_rfl)
def a265 : AF := (⟨_, rfl⟩ : {x : AF // kF tb Tryz.f265 1 18 = some x}).1
theorem t265 : FnAt Tryz.prog 265 a265 := .mk Tryz.func265 (by kernel_rfl) (by kernel_rfl)
def a266 : AF := (⟨_, rfl⟩ : {x : AF // kF tb Tryz.f266 2 9 = some x}).1
theorem t266 : FnAt Tryz.prog 266 a266 := .mk Tryz.func266 (by kernel_rfl) (by kernel_rfl)
def a267 : AF := (⟨_, rfl⟩ : {x : AF // kF tb Tryz.f267 1 23 = some x}).1
theorem t267 : FnAt Tryz.prog 267 a267 := .mk Tryz.func267 (by kernel_rfl) (by kernel_rfl)
def a268 : AF := (⟨_, rfl⟩ : {x : AF // kF tb Tryz.f268 2 46 = some x}).1
theorem t268 : FnAt Tryz.prog 268 a268 := .mk Tryz.func268 (by kernel_rfl) (by kernel_rfl)
def a269 : AF := (⟨_, rfl⟩ : {x : AF // kF tb Tryz.f269 4 76 = some x}).1
theorem t269 : FnAt Tryz.prog 269 a269 := .mk Tryz.func269 (by kernel_rfl) (by kernel_rfl)
def a270 : AF := (⟨_, rfl⟩ : {x : AF // kF tb Tryz.f270 1 7 = some x}).1
theorem t270 : FnAt Tryz.prog 270 a270 := .mk Tryz.func270 (by kernel_rfl) (by kernel_rfl)
def a271 : AF := (⟨_, rfl⟩ : {x : AF // kF tb Tryz.f271 1 33 = some x}).1
theorem t271 : FnAt Tryz.prog 271 a271 := .mk Tryz.func271 (by kernel_rfl) (by kernel_rfl)
def a272 : AF := (⟨_, rfl⟩ : {x : AF // kF tb Tryz.f272 3 15 = some x}).1
theorem t272 : FnAt Tryz.prog 272 a272 := .mk Tryz.func272 (by kernel_rfl) (by kernel_rfl)
def a273 : AF := (⟨_, rfl⟩ : {x : AF // kF tb Tryz.f273 5 36 = some x}).1
theorem t273 : FnAt Tryz.prog 273 a273 := .mk Tryz.func273 (by kernel_rfl) (by kernel_rfl)
def a274 : AF := (⟨_, rfl⟩ : {x : AF // kF tb Tryz.f274 1 6 = some x}).1
theorem t274 : FnAt Tryz.prog 274 a274 := .mk Tryz.func274 (by kernel_rfl) (by kernel_rfl)
def a275 : AF := (⟨_, rfl⟩ : {x : AF // kF tb Tryz.f275 1 13 = some x}).1
theorem t275 : FnAt Tryz.prog 275 a275 := .mk Tryz.func275 (by kernel_rfl) (by kernel_rfl)
def a276 : AF := (⟨_, rfl⟩ : {x : AF // kF tb Tryz.f276 2 40 = some x}).1
theorem t276 : FnAt Tryz.prog 276 a276 := .mk Tryz.func276 (by kernel_rfl) (by kernel_rfl)
def a277 : AF := (⟨_, rfl⟩ : {x : AF // kF tb Tryz.f277 2 28 = some x}).1
theorem t277 : FnAt Tryz.prog 277 a277 := .mk Tryz.func277 (by kernel_rfl) (by kernel_rfl)
def a278 : AF := (⟨_, rfl⟩ : {x : AF // kF tb Tryz.f278 2 51 = some x}).1
theorem t278 : FnAt Tryz.prog 278 a278 := .mk Tryz.func278 (by kernel_rfl) (by kernel_rfl)
def a279 : AF := (⟨_, rfl⟩ : {x : AF // kF tb Tryz.f279 2 78 = some x}).1
theorem t279 : FnAt Tryz.prog 279 a279 := .mk Tryz.func279 (by kernel_rfl) (by kernel_rfl)
def a280 : AF := (⟨_, rfl⟩ : {x : AF // kF tb Tryz.f280 2 27 = some x}).1
theorem t280 : FnAt Tryz.prog 280 a280 := .mk Tryz.func280 (by kernel_rfl) (by kernel_rfl)
def a281 : AF := (⟨_, rfl⟩ : {x : AF // kF tb Tryz.f281 3 41 = some x}).1
theorem t281 : FnAt Tryz.prog 281 a281 := .mk Tryz.func281 (by kernel_rfl) (by kernel_rfl)
def a282 : AF := (⟨_, rfl⟩ : {x : AF // kF tb Tryz.f282 2 24 = some x}).1
theorem t282 : FnAt Tryz.prog 282 a282 := .mk Tryz.func282 (by kernel_rfl) (by kernel_rfl)
def a283 : AF := (⟨_, rfl⟩ : {x : AF // kF tb Tryz.f283 3 49 = some x}).1
theorem t283 : FnAt Tryz.prog 283 a283 := .mk Tryz.func283 (by kernel_rfl) (by kernel_rfl)
def a284 : AF := (⟨_, rfl⟩ : {x : AF // kF tb Tryz.f284 2 9 = some x}).1
theorem t284 : FnAt Tryz.prog 284 a284 := .mk Tryz.func284 (by kernel_rfl) (by kernel_rfl)
def a285 : AF := (⟨_, rfl⟩ : {x : AF // kF tb Tryz.f285 2 17 = some x}).1
theorem t285 : FnAt Tryz.prog 285 a285 := .mk Tryz.func285 (by kernel_rfl) (by kernel_rfl)
def a286 : AF := (⟨_, rfl⟩ : {x : AF // kF tb Tryz.f286 2 28 = some x}).1
theorem t286 : FnAt Tryz.prog 286 a286 := .mk Tryz.func286 (by kernel_rfl) (by kernel_rfl)
def a287 : AF := (⟨_, rfl⟩ : {x : AF // kF tb Tryz.f287 1 21 = some x}).1
theorem t287 : FnAt Tryz.prog 287 a287 := .mk Tryz.func287 (by kernel_rfl) (by kernel_rfl)
def a288 : AF := (⟨_, rfl⟩ : {x : AF // kF tb Tryz.f288 1 9 = some x}).1
theorem t288 : FnAt Tryz.prog 288 a288 := .mk Tryz.func288 (by kernel_rfl) (by kernel_rfl)
def a289 : AF := (⟨_, rfl⟩ : {x : AF // kF tb Tryz.f289 2 19 = some x}).1
theorem t289 : FnAt Tryz.prog 289 a289 := .mk Tryz.func289 (by kernel_rfl) (by kernel_rfl)
def a290 : AF := (⟨_, rfl⟩ : {x : AF // kF tb Tryz.f290 4 28 = some x}).1
theorem t290 : FnAt Tryz.prog 290 a290 := .mk Tryz.func290 (by kernel_rfl) (by kernel_rfl)
def a291 : AF := (⟨_, rfl⟩ : {x : AF // kF tb Tryz.f291 2 72 = some x}).1
theorem t291 : FnAt Tryz.prog 291 a291 := .mk Tryz.func291 (by kernel_rfl) (by kernel_rfl)
def a292 : AF := (⟨_, rfl⟩ : {x : AF // kF tb Tryz.f292 2 12 = some x}).1
theorem t292 : FnAt Tryz.prog 292 a292 := .mk Tryz.func292 (by kernel_rfl) (by kernel_rfl)
def a293 : AF := (⟨_, rfl⟩ : {x : AF // kF tb Tryz.f293 1 18 = some x}).1
theorem t293 : FnAt Tryz.prog 293 a293 := .mk Tryz.func293 (by kernel_rfl) (by kernel_rfl)
def a294 : AF := (⟨_, rfl⟩ : {x : AF // kF tb Tryz.f294 2 20 = some x}).1
theorem t294 : FnAt Tryz.prog 294 a294 := .mk Tryz.func294 (by kernel_rfl) (by kernel_rfl)
def a295 : AF := (⟨_, rfl⟩ : {x : AF // kF tb Tryz.f295 1 13 = some x}).1
theorem t295 : FnAt Tryz.prog 295 a295 := .mk Tryz.func295 (by kernel_rfl) (by kernel_rfl)
end Go.Proofs.YthddlkhfkncgpaaGreat
