/-
  The functions of the program in the small language, reckoned, and that they are so told.
-/
import Derived.Test.YtheaeddojcebjaaKA
import Derived.Test.YtheaeddojcebjaaProg
set_option linter.unusedVariables false
set_option maxRecDepth 100000
set_option maxHeartbeats 4000000
namespace Go.Proofs.Ytheaeddojcebjaa
open Go.RowKit

def tb : Tb := [⟨.o, 0, 0, []⟩,
⟨.o, 0, 0, []⟩,
⟨.int .i64, 1, 8, [(.t (.int .i64 0))]⟩,
⟨.int .i64, 1, 8, [(.t (.int .i64 0))]⟩,
⟨.bool, 1, 1, [(.t (.bool false))]⟩,
⟨.int .u8, 1, 1, [(.t (.int .u8 0))]⟩,
⟨.int .u8, 1, 1, [(.t (.int .u8 0))]⟩,
⟨.st [(0, 1, none), (1, 1, none), (2, 1, none), (3, 1, none)] [.int, .int, .bool, .int], 4, 24, [(.t (.int .i64 0)), (.t (.int .i64 0)), (.t (.bool false)), (.t (.int .u8 0))]⟩,
⟨.st [(0, 1, none), (1, 1, none), (2, 1, none), (3, 1, none)] [.int, .int, .bool, .int], 4, 24, [(.t (.int .i64 0)), (.t (.int .i64 0)), (.t (.bool false)), (.t (.int .u8 0))]⟩,
⟨.str, 1, 16, [(.t (.str ⟨#[]⟩))]⟩,
⟨.str, 1, 16, [(.t (.str ⟨#[]⟩))]⟩,
⟨.str, 1, 16, [(.t (.str ⟨#[]⟩))]⟩,
⟨.int .u64, 1, 8, [(.t (.int .u64 0))]⟩,
⟨.st [(0, 1, none), (1, 1, none)] [], 2, 24, [(.t (.str ⟨#[]⟩)), (.t (.int .u64 0))]⟩,
⟨.st [(0, 1, none), (1, 1, none)] [], 2, 24, [(.t (.str ⟨#[]⟩)), (.t (.int .u64 0))]⟩,
⟨.pt, 1, 8, [.nilp]⟩,
⟨.pt, 1, 8, [.nilp]⟩,
⟨.pt, 1, 8, [.nilp]⟩,
⟨.st [(0, 1, none)] [], 1, 8, [.nilp]⟩,
⟨.st [(0, 1, none)] [], 1, 8, [.nilp]⟩,
⟨.o, 0, 0, []⟩,
⟨.int .i32, 1, 4, [(.t (.int .i32 0))]⟩,
⟨.sl 3, 1, 24, [(.t .nil)]⟩,
⟨.o, 0, 0, []⟩,
⟨.sl 36, 1, 24, [(.t .nil)]⟩,
⟨.o, 0, 0, []⟩,
⟨.o, 0, 0, []⟩,
⟨.arr 4 3, 4, 32, [(.t (.int .i64 0)), (.t (.int .i64 0)), (.t (.int .i64 0)), (.t (.int .i64 0))]⟩,
⟨.sl 4, 1, 24, [(.t .nil)]⟩,
⟨.sl 30, 1, 24, [(.t .nil)]⟩,
⟨.int .u16, 1, 2, [(.t (.int .u16 0))]⟩,
⟨.st [(0, 1, none), (1, 1, none), (2, 1, none), (3, 1, none), (4, 1, none), (5, 1, none), (6, 1, none), (7, 1, none), (8, 1, none), (9, 1, none), (10, 1, none), (11, 1, none), (12, 1, none), (13, 1, none)] [], 14, 144, [(.t (.int .i64 0)), (.t (.int .i64 0)), (.t .nil), (.t .nil), (.t (.int .i64 0)), (.t (.int .i64 0)), (.t (.int .u16 0)), (.t (.int .u16 0)), (.t (.int .u16 0)), (.t (.int .i64 0)), (.t (.int .i64 0)), (.t (.bool false)), (.t (.int .i64 0)), (.t .nil)]⟩,
⟨.st [(0, 1, none), (1, 1, none), (2, 1, none), (3, 1, none), (4, 1, none), (5, 1, none), (6, 1, none), (7, 1, none), (8, 1, none), (9, 1, none), (10, 1, none), (11, 1, none), (12, 1, none), (13, 1, none)] [], 14, 144, [(.t (.int .i64 0)), (.t (.int .i64 0)), (.t .nil), (.t .nil), (.t (.int .i64 0)), (.t (.int .i64 0)), (.t (.int .u16 0)), (.t (.int .u16 0)), (.t (.int .u16 0)), (.t (.int .i64 0)), (.t (.int .i64 0)), (.t (.bool false)), (.t (.int .i64 0)), (.t .nil)]⟩,
⟨.o, 0, 0, []⟩,
⟨.o, 0, 0, []⟩,
⟨.st [(0, 1, none), (1, 1, none)] [.int, .str], 2, 24, [(.t (.int .i64 0)), (.t (.str ⟨#[]⟩))]⟩,
⟨.st [(0, 1, none), (1, 1, none)] [.int, .str], 2, 24, [(.t (.int .i64 0)), (.t (.str ⟨#[]⟩))]⟩,
⟨.o, 0, 0, []⟩,
⟨.o, 0, 0, []⟩,
⟨.o, 0, 0, []⟩,
⟨.o, 0, 0, []⟩,
⟨.int .i64, 1, 8, [(.t (.int .i64 0))]⟩,
⟨.o, 0, 0, []⟩,
⟨.o, 0, 0, []⟩,
⟨.sl 5, 1, 24, [(.t .nil)]⟩,
⟨.o, 0, 0, []⟩,
⟨.o, 0, 0, []⟩,
⟨.st [(0, 1, none), (1, 1, none), (2, 1, none), (3, 1, none), (4, 1, none), (5, 1, none), (6, 1, none), (7, 1, none), (8, 1, none), (9, 1, none), (10, 1, none), (11, 1, none)] [], 12, 112, [(.t (.int .i64 0)), (.t (.int .i64 0)), (.t (.int .i64 0)), (.t (.int .u16 0)), (.t (.int .u16 0)), (.t (.int .u16 0)), (.t .nil), (.t .nil), (.t (.int .i64 0)), (.t (.int .i64 0)), (.t (.int .i64 0)), (.t (.int .i64 0))]⟩,
⟨.st [(0, 1, none), (1, 1, none), (2, 1, none), (3, 1, none), (4, 1, none), (5, 1, none), (6, 1, none), (7, 1, none), (8, 1, none), (9, 1, none), (10, 1, none), (11, 1, none)] [], 12, 112, [(.t (.int .i64 0)), (.t (.int .i64 0)), (.t (.int .i64 0)), (.t (.int .u16 0)), (.t (.int .u16 0)), (.t (.int .u16 0)), (.t .nil), (.t .nil), (.t (.int .i64 0)), (.t (.int .i64 0)), (.t (.int .i64 0)), (.t (.int .i64 0))]⟩,
⟨.o, 0, 0, []⟩,
⟨.o, 0, 0, []⟩,
⟨.o, 0, 0, []⟩,
⟨.o, 0, 0, []⟩,
⟨.o, 0, 0, []⟩,
⟨.o, 0, 0, []⟩,
⟨.sl 61, 1, 24, [(.t .nil)]⟩,
⟨.o, 0, 0, []⟩,
⟨.o, 0, 0, []⟩,
⟨.o, 0, 0, []⟩,
⟨.o, 0, 0, []⟩,
⟨.st [(0, 1, none), (1, 1, none), (2, 1, none)] [.int, .int, .int], 3, 24, [(.t (.int .i64 0)), (.t (.int .i64 0)), (.t (.int .i64 0))]⟩,
⟨.st [(0, 1, none), (1, 1, none), (2, 1, none)] [.int, .int, .int], 3, 24, [(.t (.int .i64 0)), (.t (.int .i64 0)), (.t (.int .i64 0))]⟩,
⟨.arr 2 3, 2, 16, [(.t (.int .i64 0)), (.t (.int .i64 0))]⟩,
⟨.o, 0, 0, []⟩,
⟨.o, 0, 0, []⟩,
⟨.o, 0, 0, []⟩,
⟨.o, 0, 0, []⟩,
⟨.o, 0, 0, []⟩,
⟨.o, 0, 0, []⟩,
⟨.o, 0, 0, []⟩,
⟨.o, 0, 0, []⟩,
⟨.o, 0, 0, []⟩,
⟨.o, 0, 0, []⟩,
⟨.int .u64, 1, 8, [(.t (.int .u64 0))]⟩,
⟨.o, 0, 0, []⟩,
⟨.arr 8 3, 8, 64, [(.t (.int .i64 0)), (.t (.int .i64 0)), (.t (.int .i64 0)), (.t (.int .i64 0)), (.t (.int .i64 0)), (.t (.int .i64 0)), (.t (.int .i64 0)), (.t (.int .i64 0))]⟩,
⟨.o, 0, 0, []⟩,
⟨.o, 0, 0, []⟩,
⟨.arr 5 3, 5, 40, [(.t (.int .i64 0)), (.t (.int .i64 0)), (.t (.int .i64 0)), (.t (.int .i64 0)), (.t (.int .i64 0))]⟩,
⟨.o, 0, 0, []⟩,
⟨.o, 0, 0, []⟩,
⟨.o, 0, 0, []⟩,
⟨.o, 0, 0, []⟩,
⟨.o, 0, 0, []⟩,
⟨.o, 0, 0, []⟩,
⟨.o, 0, 0, []⟩,
⟨.o, 0, 0, []⟩,
⟨.o, 0, 0, []⟩,
⟨.o, 0, 0, []⟩,
⟨.o, 0, 0, []⟩,
⟨.o, 0, 0, []⟩,
⟨.o, 0, 0, []⟩,
⟨.o, 0, 0, []⟩,
⟨.o, 0, 0, []⟩,
⟨.pt, 1, 8, [.nilp]⟩,
⟨.sl 137, 1, 24, [(.t .nil)]⟩,
⟨.st [(0, 1, none)] [], 1, 24, [(.t .nil)]⟩,
⟨.st [(0, 1, none)] [], 1, 24, [(.t .nil)]⟩,
⟨.o, 0, 0, []⟩,
⟨.o, 0, 0, []⟩,
⟨.o, 0, 0, []⟩,
⟨.o, 0, 0, []⟩,
⟨.o, 0, 0, []⟩,
⟨.o, 0, 0, []⟩,
⟨.o, 0, 0, []⟩,
⟨.o, 0, 0, []⟩,
⟨.o, 0, 0, []⟩,
⟨.o, 0, 0, []⟩,
⟨.o, 0, 0, []⟩,
⟨.pt, 1, 8, [.nilp]⟩,
⟨.st [(0, 1, none), (1, 1, none)] [], 2, 32, [(.t .nil), (.t (.bool false))]⟩,
⟨.st [(0, 1, none), (1, 1, none)] [], 2, 32, [(.t .nil), (.t (.bool false))]⟩,
⟨.o, 0, 0, []⟩,
⟨.o, 0, 0, []⟩,
⟨.o, 0, 0, []⟩,
⟨.o, 0, 0, []⟩,
⟨.o, 0, 0, []⟩,
⟨.o, 0, 0, []⟩,
⟨.o, 0, 0, []⟩,
⟨.arr 11 3, 11, 88, [(.t (.int .i64 0)), (.t (.int .i64 0)), (.t (.int .i64 0)), (.t (.int .i64 0)), (.t (.int .i64 0)), (.t (.int .i64 0)), (.t (.int .i64 0)), (.t (.int .i64 0)), (.t (.int .i64 0)), (.t (.int .i64 0)), (.t (.int .i64 0))]⟩,
⟨.o, 0, 0, []⟩,
⟨.o, 0, 0, []⟩,
⟨.o, 0, 0, []⟩,
⟨.o, 0, 0, []⟩,
⟨.o, 0, 0, []⟩,
⟨.o, 0, 0, []⟩,
⟨.o, 0, 0, []⟩,
⟨.arr 12 3, 12, 96, [(.t (.int .i64 0)), (.t (.int .i64 0)), (.t (.int .i64 0)), (.t (.int .i64 0)), (.t (.int .i64 0)), (.t (.int .i64 0)), (.t (.int .i64 0)), (.t (.int .i64 0)), (.t (.int .i64 0)), (.t (.int .i64 0)), (.t (.int .i64 0)), (.t (.int .i64 0))]⟩,
⟨.o, 0, 0, []⟩,
⟨.o, 0, 0, []⟩,
⟨.pt, 1, 8, [.nilp]⟩,
⟨.st [(0, 1, none), (1, 1, none)] [], 2, 32, [(.t .nil), (.t (.bool false))]⟩,
⟨.st [(0, 1, none), (1, 1, none)] [], 2, 32, [(.t .nil), (.t (.bool false))]⟩,
⟨.o, 0, 0, []⟩,
⟨.st [(0, 1, none), (1, 1, none)] [.int, .int], 2, 16, [(.t (.int .i64 0)), (.t (.int .i64 0))]⟩,
⟨.st [(0, 1, none), (1, 1, none)] [.int, .int], 2, 16, [(.t (.int .i64 0)), (.t (.int .i64 0))]⟩,
⟨.st [(0, 2, (some 2)), (2, 1, none)] [.int, .int, .int], 3, 24, [(.t (.int .i64 0)), (.t (.int .i64 0)), (.t (.int .u16 0))]⟩,
⟨.st [(0, 2, (some 2)), (2, 1, none)] [.int, .int, .int], 3, 24, [(.t (.int .i64 0)), (.t (.int .i64 0)), (.t (.int .u16 0))]⟩,
⟨.o, 0, 0, []⟩,
⟨.o, 0, 0, []⟩,
⟨.o, 0, 0, []⟩,
⟨.o, 0, 0, []⟩,
⟨.o, 0, 0, []⟩,
⟨.o, 0, 0, []⟩,
⟨.o, 0, 0, []⟩,
⟨.o, 0, 0, []⟩,
⟨.o, 0, 0, []⟩,
⟨.arr 3 3, 3, 24, [(.t (.int .i64 0)), (.t (.int .i64 0)), (.t (.int .i64 0))]⟩,
⟨.o, 0, 0, []⟩,
⟨.o, 0, 0, []⟩,
⟨.o, 0, 0, []⟩,
⟨.o, 0, 0, []⟩,
⟨.o, 0, 0, []⟩,
⟨.o, 0, 0, []⟩,
⟨.o, 0, 0, []⟩,
⟨.o, 0, 0, []⟩,
⟨.o, 0, 0, []⟩,
⟨.o, 0, 0, []⟩,
⟨.o, 0, 0, []⟩,
⟨.o, 0, 0, []⟩,
⟨.o, 0, 0, []⟩,
⟨.o, 0, 0, []⟩,
⟨.o, 0, 0, []⟩,
⟨.o, 0, 0, []⟩,
⟨.o, 0, 0, []⟩,
⟨.o, 0, 0, []⟩,
⟨.o, 0, 0, []⟩,
⟨.o, 0, 0, []⟩,
⟨.o, 0, 0, []⟩,
⟨.o, 0, 0, []⟩,
⟨.st [(0, 1, none), (1, 1, none), (2, 1, none), (3, 1, none)] [], 4, 40, [.nilp, .nilp, .nilp, (.t (.str ⟨#[]⟩))]⟩,
⟨.st [(0, 1, none), (1, 1, none), (2, 1, none), (3, 1, none)] [], 4, 40, [.nilp, .nilp, .nilp, (.t (.str ⟨#[]⟩))]⟩,
⟨.arr 0 16, 0, 0, []⟩,
⟨.st [(0, 0, (some 0))] [], 0, 0, []⟩,
⟨.st [(0, 0, (some 0))] [], 0, 0, []⟩,
⟨.int .u32, 1, 4, [(.t (.int .u32 0))]⟩,
⟨.int .u8, 1, 1, [(.t (.int .u8 0))]⟩,
⟨.int .u8, 1, 1, [(.t (.int .u8 0))]⟩,
⟨.o, 0, 0, []⟩,
⟨.pt, 1, 8, [.nilp]⟩,
⟨.int .i32, 1, 4, [(.t (.int .i32 0))]⟩,
⟨.int .i32, 1, 4, [(.t (.int .i32 0))]⟩]

def a6 : AF := (⟨_, rfl⟩ : {x : AF // kF tb Try.f6 3 59 = some x}).1
theorem t6 : FnAt Try.prog 6 a6 := .mk Try.func6 (by kernel_rfl) (by kernel_rfl)
def a7 : AF := (⟨_, rfl⟩ : {x : AF // kF tb Try.f7 2 172 = some x}).1
theorem t7 : FnAt Try.prog 7 a7 := .mk Try.func7 (by kernel_rfl) (by kernel_rfl)
def a9 : AF := (⟨_, rfl⟩ : {x : AF // kF tb Try.f9 5 101 = some x}).1
theorem t9 : FnAt Try.prog 9 a9 := .mk Try.func9 (by kernel_rfl) (by kernel_rfl)
def a10 : AF := (⟨_, rfl⟩ : {x : AF // kF tb Try.f10 3 66 = some x}).1
theorem t10 : FnAt Try.prog 10 a10 := .mk Try.func10 (by kernel_rfl) (by kernel_rfl)
def a11 : AF := (⟨_, rfl⟩ : {x : AF // kF tb Try.f11 3 94 = some x}).1
theorem t11 : FnAt Try.prog 11 a11 := .mk Try.func11 (by kernel_rfl) (by kernel_rfl)
def a12 : AF := (⟨_, rfl⟩ : {x : AF // kF tb Try.f12 4 133 = some x}).1
theorem t12 : FnAt Try.prog 12 a12 := .mk Try.func12 (by kernel_rfl) (by kernel_rfl)
def a13 : AF := (⟨_, rfl⟩ : {x : AF // kF tb Try.f13 5 95 = some x}).1
theorem t13 : FnAt Try.prog 13 a13 := .mk Try.func13 (by kernel_rfl) (by kernel_rfl)
def a22 : AF := (⟨_, rfl⟩ : {x : AF // kF tb Try.f22 2 14 = some x}).1
theorem t22 : FnAt Try.prog 22 a22 := .mk Try.func22 (by kernel_rfl) (by kernel_rfl)
def a32 : AF := (⟨_, rfl⟩ : {x : AF // kF tb Try.f32 0 47 = some x}).1
theorem t32 : FnAt Try.prog 32 a32 := .mk Try.func32 (by kernel_rfl) (by kernel_rfl)
def a33 : AF := (⟨_, rfl⟩ : {x : AF // kF tb Try.f33 1 27 = some x}).1
theorem t33 : FnAt Try.prog 33 a33 := .mk Try.func33 (by kernel_rfl) (by kernel_rfl)
def a34 : AF := (⟨_, rfl⟩ : {x : AF // kF tb Try.f34 1 75 = some x}).1
theorem t34 : FnAt Try.prog 34 a34 := .mk Try.func34 (by kernel_rfl) (by kernel_rfl)
def a35 : AF := (⟨_, rfl⟩ : {x : AF // kF tb Try.f35 1 54 = some x}).1
theorem t35 : FnAt Try.prog 35 a35 := .mk Try.func35 (by kernel_rfl) (by kernel_rfl)
def a36 : AF := (⟨_, rfl⟩ : {x : AF // kF tb Try.f36 2 87 = some x}).1
theorem t36 : FnAt Try.prog 36 a36 := .mk Try.func36 (by kernel_rfl) (by kernel_rfl)
def a37 : AF := (⟨_, rfl⟩ : {x : AF // kF tb Try.f37 2 51 = some x}).1
theorem t37 : FnAt Try.prog 37 a37 := .mk Try.func37 (by kernel_rfl) (by kernel_rfl)
def a38 : AF := (⟨_, rfl⟩ : {x : AF // kF tb Try.f38 2 134 = some x}).1
theorem t38 : FnAt Try.prog 38 a38 := .mk Try.func38 (by kernel_rfl) (by kernel_rfl)
def a39 : AF := (⟨_, rfl⟩ : {x : AF // kF tb Try.f39 1 64 = some x}).1
theorem t39 : FnAt Try.prog 39 a39 := .mk Try.func39 (by kernel_rfl) (by kernel_rfl)
def a40 : AF := (⟨_, rfl⟩ : {x : AF // kF tb Try.f40 1 19 = some x}).1
theorem t40 : FnAt Try.prog 40 a40 := .mk Try.func40 (by kernel_rfl) (by kernel_rfl)
def a44 : AF := (⟨_, rfl⟩ : {x : AF // kF tb Try.f44 1 117 = some x}).1
theorem t44 : FnAt Try.prog 44 a44 := .mk Try.func44 (by kernel_rfl) (by kernel_rfl)
def a45 : AF := (⟨_, rfl⟩ : {x : AF // kF tb Try.f45 1 101 = some x}).1
theorem t45 : FnAt Try.prog 45 a45 := .mk Try.func45 (by kernel_rfl) (by kernel_rfl)
def a46 : AF := (⟨_, rfl⟩ : {x : AF // kF tb Try.f46 3 49 = some x}).1
theorem t46 : FnAt Try.prog 46 a46 := .mk Try.func46 (by kernel_rfl) (by kernel_rfl)
def a47 : AF := (⟨_, rfl⟩ : {x : AF // kF tb Try.f47 1 21 = some x}).1
theorem t47 : FnAt Try.prog 47 a47 := .mk Try.func47 (by kernel_rfl) (by kernel_rfl)
def a48 : AF := (⟨_, rfl⟩ : {x : AF // kF tb Try.f48 1 13 = some x}).1
theorem t48 : FnAt Try.prog 48 a48 := .mk Try.func48 (by kernel_rfl) (by kernel_rfl)
def a49 : AF := (⟨_, rfl⟩ : {x : AF // kF tb Try.f49 3 12 = some x}).1
theorem t49 : FnAt Try.prog 49 a49 := .mk Try.func49 (by kernel_rfl) (by kernel_rfl)
def a50 : AF := (⟨_, rfl⟩ : {x : AF // kF tb Try.f50 1 82 = some x}).1
theorem t50 : FnAt Try.prog 50 a50 := .mk Try.func50 (by kernel_rfl) (by kernel_rfl)
def a53 : AF := (⟨_, rfl⟩ : {x : AF // kF tb Try.f53 1 27 = some x}).1
theorem t53 : FnAt Try.prog 53 a53 := .mk Try.func53 (by kernel_rfl) (by kernel_rfl)
def a54 : AF := (⟨_, rfl⟩ : {x : AF // kF tb Try.f54 1 27 = some x}).1
theorem t54 : FnAt Try.prog 54 a54 := .mk Try.func54 (by kernel_rfl) (by kernel_rfl)
def a58 : AF := (⟨_, rfl⟩ : {x : AF // kF tb Try.f58 2 51 = some x}).1
theorem t58 : FnAt Try.prog 58 a58 := .mk Try.func58 (by kernel_rfl) (by kernel_rfl)
def a59 : AF := (⟨_, rfl⟩ : {x : AF // kF tb Try.f59 2 51 = some x}).1
theorem t59 : FnAt Try.prog 59 a59 := .mk Try.func59 (by kernel_rfl) (by kernel_rfl)
def a69 : AF := (⟨_, rfl⟩ : {x : AF // kF tb Try.f69 1 133 = some x}).1
theorem t69 : FnAt Try.prog 69 a69 := .mk Try.func69 (by kernel_rfl) (by kernel_rfl)
def a74 : AF := (⟨_, rfl⟩ : {x : AF // kF tb Try.f74 1 9 = some x}).1
theorem t74 : FnAt Try.prog 74 a74 := .mk Try.func74 (by kernel_rfl) (by kernel_rfl)
def a76 : AF := (⟨_, rfl⟩ : {x : AF // kF tb Try.f76 1 15 = some x}).1
theorem t76 : FnAt Try.prog 76 a76 := .mk Try.func76 (by kernel_rfl) (by kernel_rfl)
def a77 : AF := (⟨_, rfl⟩ : {x : AF // kF tb Try.f77 2 92 = some x}).1
theorem t77 : FnAt Try.prog 77 a77 := .mk Try.func77 (by kernel_rfl) (by kernel_rfl)
def a78 : AF := (⟨_, rfl⟩ : {x : AF // kF tb Try.f78 1 29 = some x}).1
theorem t78 : FnAt Try.prog 78 a78 := .mk Try.func78 (by kernel_rfl) (by kernel_rfl)
def a79 : AF := (⟨_, rfl⟩ : {x : AF // kF tb Try.f79 1 203 = some x}).1
theorem t79 : FnAt Try.prog 79 a79 := .mk Try.func79 (by kernel_rfl) (by kernel_rfl)
def a80 : AF := (⟨_, rfl⟩ : {x : AF // kF tb Try.f80 2 26 = some x}).1
theorem t80 : FnAt Try.prog 80 a80 := .mk Try.func80 (by kernel_rfl) (by kernel_rfl)
def a81 : AF := (⟨_, rfl⟩ : {x : AF // kF tb Try.f81 2 26 = some x}).1
theorem t81 : FnAt Try.prog 81 a81 := .mk Try.func81 (by kernel_rfl) (by kernel_rfl)
def a82 : AF := (⟨_, rfl⟩ : {x : AF // kF tb Try.f82 2 21 = some x}).1
theorem t82 : FnAt Try.prog 82 a82 := .mk Try.func82 (by kernel_rfl) (by kernel_rfl)
def a83 : AF := (⟨_, rfl⟩ : {x : AF // kF tb Try.f83 1 19 = some x}).1
theorem t83 : FnAt Try.prog 83 a83 := .mk Try.func83 (by kernel_rfl) (by kernel_rfl)
def a84 : AF := (⟨_, rfl⟩ : {x : AF // kF tb Try.f84 1 31 = some x}).1
theorem t84 : FnAt Try.prog 84 a84 := .mk Try.func84 (by kernel_rfl) (by kernel_rfl)
def a85 : AF := (⟨_, rfl⟩ : {x : AF // kF tb Try.f85 2 18 = some x}).1
theorem t85 : FnAt Try.prog 85 a85 := .mk Try.func85 (by kernel_rfl) (by kernel_rfl)
def a87 : AF := (⟨_, rfl⟩ : {x : AF // kF tb Try.f87 2 18 = some x}).1
theorem t87 : FnAt Try.prog 87 a87 := .mk Try.func87 (by kernel_rfl) (by kernel_rfl)
def a88 : AF := (⟨_, rfl⟩ : {x : AF // kF tb Try.f88 1 9 = some x}).1
theorem t88 : FnAt Try.prog 88 a88 := .mk Try.func88 (by kernel_rfl) (by kernel_rfl)
def a89 : AF := (⟨_, rfl⟩ : {x : AF // kF tb Try.f89 1 31 = some x}).1
theorem t89 : FnAt Try.prog 89 a89 := .mk Try.func89 (by kernel_rfl) (by kernel_rfl)
def a90 : AF := (⟨_, rfl⟩ : {x : AF // kF tb Try.f90 1 73 = some x}).1
theorem t90 : FnAt Try.prog 90 a90 := .mk Try.func90 (by kernel_rfl) (by kernel_rfl)
def a91 : AF := (⟨_, rfl⟩ : {x : AF // kF tb Try.f91 1 9 = some x}).1
theorem t91 : FnAt Try.prog 91 a91 := .mk Try.func91 (by kernel_rfl) (by kernel_rfl)
def a92 : AF := (⟨_, rfl⟩ : {x : AF // kF tb Try.f92 1 21 = some x}).1
theorem t92 : FnAt Try.prog 92 a92 := .mk Try.func92 (by kernel_rfl) (by kernel_rfl)
def a93 : AF := (⟨_, rfl⟩ : {x : AF // kF tb Try.f93 2 12 = some x}).1
theorem t93 : FnAt Try.prog 93 a93 := .mk Try.func93 (by kernel_rfl) (by kernel_rfl)
def a94 : AF := (⟨_, rfl⟩ : {x : AF // kF tb Try.f94 2 25 = some x}).1
theorem t94 : FnAt Try.prog 94 a94 := .mk Try.func94 (by kernel_rfl) (by kernel_rfl)
def a95 : AF := (⟨_, rfl⟩ : {x : AF // kF tb Try.f95 1 13 = some x}).1
theorem t95 : FnAt Try.prog 95 a95 := .mk Try.func95 (by kernel_rfl) (by kernel_rfl)
def a96 : AF := (⟨_, rfl⟩ : {x : AF // kF tb Try.f96 1 79 = some x}).1
theorem t96 : FnAt Try.prog 96 a96 := .mk Try.func96 (by kernel_rfl) (by kernel_rfl)
def a97 : AF := (⟨_, rfl⟩ : {x : AF // kF tb Try.f97 1 136 = some x}).1
theorem t97 : FnAt Try.prog 97 a97 := .mk Try.func97 (by kernel_rfl) (by kernel_rfl)
def a98 : AF := (⟨_, rfl⟩ : {x : AF // kF tb Try.f98 2 26 = some x}).1
theorem t98 : FnAt Try.prog 98 a98 := .mk Try.func98 (by kernel_rfl) (by kernel_rfl)
def a99 : AF := (⟨_, rfl⟩ : {x : AF // kF tb Try.f99 1 30 = some x}).1
theorem t99 : FnAt Try.prog 99 a99 := .mk Try.func99 (by kernel_rfl) (by kernel_rfl)
def a100 : AF := (⟨_, rfl⟩ : {x : AF // kF tb Try.f100 2 20 = some x}).1
theorem t100 : FnAt Try.prog 100 a100 := .mk Try.func100 (by kernel_rfl) (by kernel_rfl)
def a101 : AF := (⟨_, rfl⟩ : {x : AF // kF tb Try.f101 2 9 = some x}).1
theorem t101 : FnAt Try.prog 101 a101 := .mk Try.func101 (by kernel_rfl) (by kernel_rfl)
def a109 : AF := (⟨_, rfl⟩ : {x : AF // kF tb Try.f109 1 13 = some x}).1
theorem t109 : FnAt Try.prog 109 a109 := .mk Try.func109 (by kernel_rfl) (by kernel_rfl)
def a110 : AF := (⟨_, rfl⟩ : {x : AF // kF tb Try.f110 1 9 = some x}).1
theorem t110 : FnAt Try.prog 110 a110 := .mk Try.func110 (by kernel_rfl) (by kernel_rfl)
def a120 : AF := (⟨_, rfl⟩ : {x : AF // kF tb Try.f120 1 9 = some x}).1
theorem t120 : FnAt Try.prog 120 a120 := .mk Try.func120 (by kernel_rfl) (by kernel_rfl)
def a125 : AF := (⟨_, rfl⟩ : {x : AF // kF tb Try.f125 1 6 = some x}).1
theorem t125 : FnAt Try.prog 125 a125 := .mk Try.func125 (by kernel_rfl) (by kernel_rfl)
def a126 : AF := (⟨_, rfl⟩ : {x : AF // kF tb Try.f126 1 17 = some x}).1
theorem t126 : FnAt Try.prog 126 a126 := .mk Try.func126 (by kernel_rfl) (by kernel_rfl)
def a127 : AF := (⟨_, rfl⟩ : {x : AF // kF tb Try.f127 1 27 = some x}).1
theorem t127 : FnAt Try.prog 127 a127 := .mk Try.func127 (by kernel_rfl) (by kernel_rfl)
def a128 : AF := (⟨_, rfl⟩ : {x : AF // kF tb Try.f128 2 44 = some x}).1
theorem t128 : FnAt Try.prog 128 a128 := .mk Try.func128 (by kernel_rfl) (by kernel_rfl)
def a129 : AF := (⟨_, rfl⟩ : {x : AF // kF tb Try.f129 2 39 = some x}).1
theorem t129 : FnAt Try.prog 129 a129 := .mk Try.func129 (by kernel_rfl) (by kernel_rfl)
def a130 : AF := (⟨_, rfl⟩ : {x : AF // kF tb Try.f130 1 29 = some x}).1
theorem t130 : FnAt Try.prog 130 a130 := .mk Try.func130 (by kernel_rfl) (by kernel_rfl)
def a131 : AF := (⟨_, rfl⟩ : {x : AF // kF tb Try.f131 2 15 = some x}).1
theorem t131 : FnAt Try.prog 131 a131 := .mk Try.func131 (by kernel_rfl) (by kernel_rfl)
def a132 : AF := (⟨_, rfl⟩ : {x : AF // kF tb Try.f132 2 29 = some x}).1
theorem t132 : FnAt Try.prog 132 a132 := .mk Try.func132 (by kernel_rfl) (by kernel_rfl)
def a133 : AF := (⟨_, rfl⟩ : {x : AF // kF tb Try.f133 3 33 = some x}).1
theorem t133 : FnAt Try.prog 133 a133 := .mk Try.func133 (by kernel_rfl) (by kernel_rfl)
def a134 : AF := (⟨_, rfl⟩ : {x : AF // kF tb Try.f134 2 21 = some x}).1
theorem t134 : FnAt Try.prog 134 a134 := .mk Try.func134 (by kernel_rfl) (by kernel_rfl)
def a135 : AF := (⟨_, rfl⟩ : {x : AF // kF tb Try.f135 1 136 = some x}).1
theorem t135 : FnAt Try.prog 135 a135 := .mk Try.func135 (by kernel_rfl) (by kernel_rfl)
def a136 : AF := (⟨_, rfl⟩ : {x : AF // kF tb Try.f136 2 15 = some x}).1
theorem t136 : FnAt Try.prog 136 a136 := .mk Try.func136 (by kernel_rfl) (by kernel_rfl)
def a147 : AF := (⟨_, rfl⟩ : {x : AF // kF tb Try.f147 2 28 = some x}).1
theorem t147 : FnAt Try.prog 147 a147 := .mk Try.func147 (by kernel_rfl) (by kernel_rfl)
def a148 : AF := (⟨_, rfl⟩ : {x : AF // kF tb Try.f148 2 32 = some x}).1
theorem t148 : FnAt Try.prog 148 a148 := .mk Try.func148 (by kernel_rfl) (by kernel_rfl)
def a149 : AF := (⟨_, rfl⟩ : {x : AF // kF tb Try.f149 2 28 = some x}).1
theorem t149 : FnAt Try.prog 149 a149 := .mk Try.func149 (by kernel_rfl) (by kernel_rfl)
def a154 : AF := (⟨_, rfl⟩ : {x : AF // kF tb Try.f154 2 27 = some x}).1
theorem t154 : FnAt Try.prog 154 a154 := .mk Try.func154 (by kernel_rfl) (by kernel_rfl)
end Go.Proofs.Ytheaeddojcebjaa
