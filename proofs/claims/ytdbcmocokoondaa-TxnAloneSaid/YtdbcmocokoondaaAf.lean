/-
  The functions of the program in the small language, reckoned, and that they are so told.
-/
import Derived.Test.YtdbcmocokoondaaKA
import Derived.Test.YtdbcmocokoondaaProg
set_option linter.unusedVariables false
set_option maxRecDepth 100000
set_option maxHeartbeats 4000000
namespace Go.Proofs.Ytdbcmocokoondaa
open Go.RowKit

def tb : Tb := [⟨.o, 0, 0, []⟩,
⟨.o, 0, 0, []⟩,
⟨.int .i64, 1, 8, [(.t (.int .i64 0))]⟩,
⟨.int .i64, 1, 8, [(.t (.int .i64 0))]⟩,
⟨.bool, 1, 1, [(.t (.bool false))]⟩,
⟨.int .u8, 1, 1, [(.t (.int .u8 0))]⟩,
⟨.int .u8, 1, 1, [(.t (.int .u8 0))]⟩,
⟨.st [(0, 1, none), (1, 1, none), (2, 1, none), (3, 1, none)] [.int, .int, .bool, .int], 4, 24, [(.t (.int .i64 0)), (.t (.int .i64 0)), (.t (.bool false)), (.t (.int .u8 0))]⟩,
⟨.st [(0, 1, none), (1, 1, none), (2, 1, none), (3, 1, none)] [.int, .int, .bool, .int], 4, 24, [(.t (.int .i64 0)), (.t (.int .i64 0)), (.t (.bool false)), (.t (.int .u8 0))]⟩,
⟨.str, 1, 16, [(.t (.str ⟨#[]⟩))]⟩,
⟨.str, 1, 16, [(.t (.str ⟨#[]⟩))]⟩,
⟨.str, 1, 16, [(.t (.str ⟨#[]⟩))]⟩,
⟨.int .u64, 1, 8, [(.t (.int .u64 0))]⟩,
⟨.st [(0, 1, none), (1, 1, none)] [], 2, 24, [(.t (.str ⟨#[]⟩)), (.t (.int .u64 0))]⟩,
⟨.st [(0, 1, none), (1, 1, none)] [], 2, 24, [(.t (.str ⟨#[]⟩)), (.t (.int .u64 0))]⟩,
⟨.pt, 1, 8, [.nilp]⟩,
⟨.pt, 1, 8, [.nilp]⟩,
⟨.pt, 1, 8, [.nilp]⟩,
⟨.st [(0, 1, none)] [], 1, 8, [.nilp]⟩,
⟨.st [(0, 1, none)] [], 1, 8, [.nilp]⟩,
⟨.o, 0, 0, []⟩,
⟨.int .i32, 1, 4, [(.t (.int .i32 0))]⟩,
⟨.sl 3, 1, 24, [(.t .nil)]⟩,
⟨.o, 0, 0, []⟩,
⟨.pt, 1, 8, [.nilp]⟩,
⟨.o, 0, 0, []⟩,
⟨.int .u64, 1, 8, [(.t (.int .u64 0))]⟩,
⟨.pt, 1, 8, [.nilp]⟩,
⟨.o, 0, 0, []⟩,
⟨.sl 45, 1, 24, [(.t .nil)]⟩,
⟨.o, 0, 0, []⟩,
⟨.int .i64, 1, 8, [(.t (.int .i64 0))]⟩,
⟨.o, 0, 0, []⟩,
⟨.o, 0, 0, []⟩,
⟨.o, 0, 0, []⟩,
⟨.o, 0, 0, []⟩,
⟨.o, 0, 0, []⟩,
⟨.o, 0, 0, []⟩,
⟨.o, 0, 0, []⟩,
⟨.o, 0, 0, []⟩,
⟨.o, 0, 0, []⟩,
⟨.st [(0, 1, none), (1, 1, none)] [.int, .int], 2, 16, [(.t (.int .i64 0)), (.t (.int .i64 0))]⟩,
⟨.st [(0, 1, none), (1, 1, none)] [.int, .int], 2, 16, [(.t (.int .i64 0)), (.t (.int .i64 0))]⟩,
⟨.int .u16, 1, 2, [(.t (.int .u16 0))]⟩,
⟨.st [(0, 2, (some 2)), (2, 1, none)] [.int, .int, .int], 3, 24, [(.t (.int .i64 0)), (.t (.int .i64 0)), (.t (.int .u16 0))]⟩,
⟨.st [(0, 2, (some 2)), (2, 1, none)] [.int, .int, .int], 3, 24, [(.t (.int .i64 0)), (.t (.int .i64 0)), (.t (.int .u16 0))]⟩,
⟨.o, 0, 0, []⟩,
⟨.o, 0, 0, []⟩,
⟨.sl 43, 1, 24, [(.t .nil)]⟩,
⟨.o, 0, 0, []⟩,
⟨.o, 0, 0, []⟩,
⟨.st [(0, 1, none), (1, 1, none), (2, 1, none)] [.int, .int, .int], 3, 24, [(.t (.int .i64 0)), (.t (.int .i64 0)), (.t (.int .i64 0))]⟩,
⟨.st [(0, 1, none), (1, 1, none), (2, 1, none)] [.int, .int, .int], 3, 24, [(.t (.int .i64 0)), (.t (.int .i64 0)), (.t (.int .i64 0))]⟩,
⟨.o, 0, 0, []⟩,
⟨.sl 52, 1, 24, [(.t .nil)]⟩,
⟨.st [(0, 1, none), (1, 1, none), (2, 1, none)] [], 3, 56, [(.t (.int .u64 0)), (.t .nil), (.t .nil)]⟩,
⟨.st [(0, 1, none), (1, 1, none), (2, 1, none)] [], 3, 56, [(.t (.int .u64 0)), (.t .nil), (.t .nil)]⟩,
⟨.o, 0, 0, []⟩,
⟨.o, 0, 0, []⟩,
⟨.o, 0, 0, []⟩,
⟨.o, 0, 0, []⟩,
⟨.o, 0, 0, []⟩,
⟨.mc 79, 1, 8, [.nilm]⟩,
⟨.st [(0, 1, none), (1, 1, none), (2, 1, none), (3, 1, none)] [], 4, 32, [(.t (.int .u64 0)), (.t (.int .i64 0)), (.t (.int .i64 0)), .nilm]⟩,
⟨.st [(0, 1, none), (1, 1, none), (2, 1, none), (3, 1, none)] [], 4, 32, [(.t (.int .u64 0)), (.t (.int .i64 0)), (.t (.int .i64 0)), .nilm]⟩,
⟨.mp 56, 1, 8, [.nilm]⟩,
⟨.st [(0, 1, none), (1, 1, none), (2, 1, none), (3, 1, none), (4, 1, none)] [], 5, 40, [.nilp, (.t (.int .i64 0)), (.t (.int .i64 0)), (.t (.int .i64 0)), .nilm]⟩,
⟨.st [(0, 1, none), (1, 1, none), (2, 1, none), (3, 1, none), (4, 1, none)] [], 5, 40, [.nilp, (.t (.int .i64 0)), (.t (.int .i64 0)), (.t (.int .i64 0)), .nilm]⟩,
⟨.o, 0, 0, []⟩,
⟨.o, 0, 0, []⟩,
⟨.o, 0, 0, []⟩,
⟨.o, 0, 0, []⟩,
⟨.o, 0, 0, []⟩,
⟨.o, 0, 0, []⟩,
⟨.o, 0, 0, []⟩,
⟨.o, 0, 0, []⟩,
⟨.o, 0, 0, []⟩,
⟨.o, 0, 0, []⟩,
⟨.o, 0, 0, []⟩,
⟨.sl 81, 1, 24, [(.t .nil)]⟩,
⟨.st [(0, 1, none), (1, 1, none)] [.int, .int], 2, 16, [(.t (.int .u64 0)), (.t (.int .u16 0))]⟩,
⟨.st [(0, 1, none), (1, 1, none)] [.int, .int], 2, 16, [(.t (.int .u64 0)), (.t (.int .u16 0))]⟩,
⟨.o, 0, 0, []⟩,
⟨.o, 0, 0, []⟩,
⟨.o, 0, 0, []⟩,
⟨.o, 0, 0, []⟩,
⟨.o, 0, 0, []⟩,
⟨.o, 0, 0, []⟩,
⟨.o, 0, 0, []⟩,
⟨.o, 0, 0, []⟩,
⟨.o, 0, 0, []⟩,
⟨.o, 0, 0, []⟩,
⟨.o, 0, 0, []⟩,
⟨.o, 0, 0, []⟩,
⟨.o, 0, 0, []⟩,
⟨.mc 4, 1, 8, [.nilm]⟩,
⟨.o, 0, 0, []⟩,
⟨.o, 0, 0, []⟩,
⟨.o, 0, 0, []⟩,
⟨.o, 0, 0, []⟩,
⟨.o, 0, 0, []⟩,
⟨.o, 0, 0, []⟩,
⟨.o, 0, 0, []⟩,
⟨.o, 0, 0, []⟩,
⟨.o, 0, 0, []⟩,
⟨.int .u64, 1, 8, [(.t (.int .u64 0))]⟩,
⟨.o, 0, 0, []⟩,
⟨.o, 0, 0, []⟩,
⟨.o, 0, 0, []⟩,
⟨.o, 0, 0, []⟩,
⟨.o, 0, 0, []⟩,
⟨.st [(0, 1, none), (1, 1, none), (2, 1, none), (3, 1, none)] [], 4, 40, [.nilp, .nilp, .nilp, (.t (.str ⟨#[]⟩))]⟩,
⟨.st [(0, 1, none), (1, 1, none), (2, 1, none), (3, 1, none)] [], 4, 40, [.nilp, .nilp, .nilp, (.t (.str ⟨#[]⟩))]⟩,
⟨.arr 0 16, 0, 0, []⟩,
⟨.st [(0, 0, (some 0))] [], 0, 0, []⟩,
⟨.st [(0, 0, (some 0))] [], 0, 0, []⟩,
⟨.int .u32, 1, 4, [(.t (.int .u32 0))]⟩,
⟨.int .u8, 1, 1, [(.t (.int .u8 0))]⟩,
⟨.int .u8, 1, 1, [(.t (.int .u8 0))]⟩,
⟨.o, 0, 0, []⟩,
⟨.pt, 1, 8, [.nilp]⟩,
⟨.int .i32, 1, 4, [(.t (.int .i32 0))]⟩,
⟨.int .i32, 1, 4, [(.t (.int .i32 0))]⟩]

def a3 : AF := (⟨_, rfl⟩ : {x : AF // kF tb Try.f3 2 109 = some x}).1
theorem t3 : FnAt Try.prog 3 a3 := .mk Try.func3 (by kernel_rfl) (by kernel_rfl)
def a4 : AF := (⟨_, rfl⟩ : {x : AF // kF tb Try.f4 2 160 = some x}).1
theorem t4 : FnAt Try.prog 4 a4 := .mk Try.func4 (by kernel_rfl) (by kernel_rfl)
def a5 : AF := (⟨_, rfl⟩ : {x : AF // kF tb Try.f5 0 66 = some x}).1
theorem t5 : FnAt Try.prog 5 a5 := .mk Try.func5 (by kernel_rfl) (by kernel_rfl)
def a6 : AF := (⟨_, rfl⟩ : {x : AF // kF tb Try.f6 2 12 = some x}).1
theorem t6 : FnAt Try.prog 6 a6 := .mk Try.func6 (by kernel_rfl) (by kernel_rfl)
def a7 : AF := (⟨_, rfl⟩ : {x : AF // kF tb Try.f7 4 19 = some x}).1
theorem t7 : FnAt Try.prog 7 a7 := .mk Try.func7 (by kernel_rfl) (by kernel_rfl)
def a8 : AF := (⟨_, rfl⟩ : {x : AF // kF tb Try.f8 1 23 = some x}).1
theorem t8 : FnAt Try.prog 8 a8 := .mk Try.func8 (by kernel_rfl) (by kernel_rfl)
def a9 : AF := (⟨_, rfl⟩ : {x : AF // kF tb Try.f9 2 38 = some x}).1
theorem t9 : FnAt Try.prog 9 a9 := .mk Try.func9 (by kernel_rfl) (by kernel_rfl)
def a10 : AF := (⟨_, rfl⟩ : {x : AF // kF tb Try.f10 3 40 = some x}).1
theorem t10 : FnAt Try.prog 10 a10 := .mk Try.func10 (by kernel_rfl) (by kernel_rfl)
def a11 : AF := (⟨_, rfl⟩ : {x : AF // kF tb Try.f11 1 7 = some x}).1
theorem t11 : FnAt Try.prog 11 a11 := .mk Try.func11 (by kernel_rfl) (by kernel_rfl)
def a12 : AF := (⟨_, rfl⟩ : {x : AF // kF tb Try.f12 1 7 = some x}).1
theorem t12 : FnAt Try.prog 12 a12 := .mk Try.func12 (by kernel_rfl) (by kernel_rfl)
def a13 : AF := (⟨_, rfl⟩ : {x : AF // kF tb Try.f13 4 59 = some x}).1
theorem t13 : FnAt Try.prog 13 a13 := .mk Try.func13 (by kernel_rfl) (by kernel_rfl)
def a14 : AF := (⟨_, rfl⟩ : {x : AF // kF tb Try.f14 2 54 = some x}).1
theorem t14 : FnAt Try.prog 14 a14 := .mk Try.func14 (by kernel_rfl) (by kernel_rfl)
def a15 : AF := (⟨_, rfl⟩ : {x : AF // kF tb Try.f15 2 22 = some x}).1
theorem t15 : FnAt Try.prog 15 a15 := .mk Try.func15 (by kernel_rfl) (by kernel_rfl)
def a16 : AF := (⟨_, rfl⟩ : {x : AF // kF tb Try.f16 1 19 = some x}).1
theorem t16 : FnAt Try.prog 16 a16 := .mk Try.func16 (by kernel_rfl) (by kernel_rfl)
def a17 : AF := (⟨_, rfl⟩ : {x : AF // kF tb Try.f17 2 14 = some x}).1
theorem t17 : FnAt Try.prog 17 a17 := .mk Try.func17 (by kernel_rfl) (by kernel_rfl)
def a18 : AF := (⟨_, rfl⟩ : {x : AF // kF tb Try.f18 3 48 = some x}).1
theorem t18 : FnAt Try.prog 18 a18 := .mk Try.func18 (by kernel_rfl) (by kernel_rfl)
def a19 : AF := (⟨_, rfl⟩ : {x : AF // kF tb Try.f19 2 76 = some x}).1
theorem t19 : FnAt Try.prog 19 a19 := .mk Try.func19 (by kernel_rfl) (by kernel_rfl)
def a20 : AF := (⟨_, rfl⟩ : {x : AF // kF tb Try.f20 2 27 = some x}).1
theorem t20 : FnAt Try.prog 20 a20 := .mk Try.func20 (by kernel_rfl) (by kernel_rfl)
def a21 : AF := (⟨_, rfl⟩ : {x : AF // kF tb Try.f21 3 15 = some x}).1
theorem t21 : FnAt Try.prog 21 a21 := .mk Try.func21 (by kernel_rfl) (by kernel_rfl)
def a22 : AF := (⟨_, rfl⟩ : {x : AF // kF tb Try.f22 1 7 = some x}).1
theorem t22 : FnAt Try.prog 22 a22 := .mk Try.func22 (by kernel_rfl) (by kernel_rfl)
def a23 : AF := (⟨_, rfl⟩ : {x : AF // kF tb Try.f23 2 31 = some x}).1
theorem t23 : FnAt Try.prog 23 a23 := .mk Try.func23 (by kernel_rfl) (by kernel_rfl)
def a24 : AF := (⟨_, rfl⟩ : {x : AF // kF tb Try.f24 1 17 = some x}).1
theorem t24 : FnAt Try.prog 24 a24 := .mk Try.func24 (by kernel_rfl) (by kernel_rfl)
def a25 : AF := (⟨_, rfl⟩ : {x : AF // kF tb Try.f25 3 33 = some x}).1
theorem t25 : FnAt Try.prog 25 a25 := .mk Try.func25 (by kernel_rfl) (by kernel_rfl)
def a26 : AF := (⟨_, rfl⟩ : {x : AF // kF tb Try.f26 4 23 = some x}).1
theorem t26 : FnAt Try.prog 26 a26 := .mk Try.func26 (by kernel_rfl) (by kernel_rfl)
def a27 : AF := (⟨_, rfl⟩ : {x : AF // kF tb Try.f27 3 18 = some x}).1
theorem t27 : FnAt Try.prog 27 a27 := .mk Try.func27 (by kernel_rfl) (by kernel_rfl)
def a28 : AF := (⟨_, rfl⟩ : {x : AF // kF tb Try.f28 1 17 = some x}).1
theorem t28 : FnAt Try.prog 28 a28 := .mk Try.func28 (by kernel_rfl) (by kernel_rfl)
def a29 : AF := (⟨_, rfl⟩ : {x : AF // kF tb Try.f29 3 12 = some x}).1
theorem t29 : FnAt Try.prog 29 a29 := .mk Try.func29 (by kernel_rfl) (by kernel_rfl)
def a30 : AF := (⟨_, rfl⟩ : {x : AF // kF tb Try.f30 1 28 = some x}).1
theorem t30 : FnAt Try.prog 30 a30 := .mk Try.func30 (by kernel_rfl) (by kernel_rfl)
def a31 : AF := (⟨_, rfl⟩ : {x : AF // kF tb Try.f31 4 43 = some x}).1
theorem t31 : FnAt Try.prog 31 a31 := .mk Try.func31 (by kernel_rfl) (by kernel_rfl)
def a32 : AF := (⟨_, rfl⟩ : {x : AF // kF tb Try.f32 1 31 = some x}).1
theorem t32 : FnAt Try.prog 32 a32 := .mk Try.func32 (by kernel_rfl) (by kernel_rfl)
def a33 : AF := (⟨_, rfl⟩ : {x : AF // kF tb Try.f33 1 8 = some x}).1
theorem t33 : FnAt Try.prog 33 a33 := .mk Try.func33 (by kernel_rfl) (by kernel_rfl)
def a34 : AF := (⟨_, rfl⟩ : {x : AF // kF tb Try.f34 1 8 = some x}).1
theorem t34 : FnAt Try.prog 34 a34 := .mk Try.func34 (by kernel_rfl) (by kernel_rfl)
def a35 : AF := (⟨_, rfl⟩ : {x : AF // kF tb Try.f35 2 17 = some x}).1
theorem t35 : FnAt Try.prog 35 a35 := .mk Try.func35 (by kernel_rfl) (by kernel_rfl)
def a36 : AF := (⟨_, rfl⟩ : {x : AF // kF tb Try.f36 2 42 = some x}).1
theorem t36 : FnAt Try.prog 36 a36 := .mk Try.func36 (by kernel_rfl) (by kernel_rfl)
def a37 : AF := (⟨_, rfl⟩ : {x : AF // kF tb Try.f37 1 6 = some x}).1
theorem t37 : FnAt Try.prog 37 a37 := .mk Try.func37 (by kernel_rfl) (by kernel_rfl)
def a38 : AF := (⟨_, rfl⟩ : {x : AF // kF tb Try.f38 1 18 = some x}).1
theorem t38 : FnAt Try.prog 38 a38 := .mk Try.func38 (by kernel_rfl) (by kernel_rfl)
def a39 : AF := (⟨_, rfl⟩ : {x : AF // kF tb Try.f39 2 9 = some x}).1
theorem t39 : FnAt Try.prog 39 a39 := .mk Try.func39 (by kernel_rfl) (by kernel_rfl)
def a40 : AF := (⟨_, rfl⟩ : {x : AF // kF tb Try.f40 1 23 = some x}).1
theorem t40 : FnAt Try.prog 40 a40 := .mk Try.func40 (by kernel_rfl) (by kernel_rfl)
def a41 : AF := (⟨_, rfl⟩ : {x : AF // kF tb Try.f41 1 12 = some x}).1
theorem t41 : FnAt Try.prog 41 a41 := .mk Try.func41 (by kernel_rfl) (by kernel_rfl)
def a42 : AF := (⟨_, rfl⟩ : {x : AF // kF tb Try.f42 2 46 = some x}).1
theorem t42 : FnAt Try.prog 42 a42 := .mk Try.func42 (by kernel_rfl) (by kernel_rfl)
def a43 : AF := (⟨_, rfl⟩ : {x : AF // kF tb Try.f43 3 41 = some x}).1
theorem t43 : FnAt Try.prog 43 a43 := .mk Try.func43 (by kernel_rfl) (by kernel_rfl)
def a44 : AF := (⟨_, rfl⟩ : {x : AF // kF tb Try.f44 2 83 = some x}).1
theorem t44 : FnAt Try.prog 44 a44 := .mk Try.func44 (by kernel_rfl) (by kernel_rfl)
def a45 : AF := (⟨_, rfl⟩ : {x : AF // kF tb Try.f45 2 67 = some x}).1
theorem t45 : FnAt Try.prog 45 a45 := .mk Try.func45 (by kernel_rfl) (by kernel_rfl)
def a46 : AF := (⟨_, rfl⟩ : {x : AF // kF tb Try.f46 3 43 = some x}).1
theorem t46 : FnAt Try.prog 46 a46 := .mk Try.func46 (by kernel_rfl) (by kernel_rfl)
def a47 : AF := (⟨_, rfl⟩ : {x : AF // kF tb Try.f47 2 28 = some x}).1
theorem t47 : FnAt Try.prog 47 a47 := .mk Try.func47 (by kernel_rfl) (by kernel_rfl)
def a48 : AF := (⟨_, rfl⟩ : {x : AF // kF tb Try.f48 2 24 = some x}).1
theorem t48 : FnAt Try.prog 48 a48 := .mk Try.func48 (by kernel_rfl) (by kernel_rfl)
def a49 : AF := (⟨_, rfl⟩ : {x : AF // kF tb Try.f49 1 21 = some x}).1
theorem t49 : FnAt Try.prog 49 a49 := .mk Try.func49 (by kernel_rfl) (by kernel_rfl)
def a50 : AF := (⟨_, rfl⟩ : {x : AF // kF tb Try.f50 1 9 = some x}).1
theorem t50 : FnAt Try.prog 50 a50 := .mk Try.func50 (by kernel_rfl) (by kernel_rfl)
def a51 : AF := (⟨_, rfl⟩ : {x : AF // kF tb Try.f51 2 19 = some x}).1
theorem t51 : FnAt Try.prog 51 a51 := .mk Try.func51 (by kernel_rfl) (by kernel_rfl)
def a52 : AF := (⟨_, rfl⟩ : {x : AF // kF tb Try.f52 2 17 = some x}).1
theorem t52 : FnAt Try.prog 52 a52 := .mk Try.func52 (by kernel_rfl) (by kernel_rfl)
def a53 : AF := (⟨_, rfl⟩ : {x : AF // kF tb Try.f53 2 28 = some x}).1
theorem t53 : FnAt Try.prog 53 a53 := .mk Try.func53 (by kernel_rfl) (by kernel_rfl)
def a54 : AF := (⟨_, rfl⟩ : {x : AF // kF tb Try.f54 2 12 = some x}).1
theorem t54 : FnAt Try.prog 54 a54 := .mk Try.func54 (by kernel_rfl) (by kernel_rfl)
def a55 : AF := (⟨_, rfl⟩ : {x : AF // kF tb Try.f55 2 24 = some x}).1
theorem t55 : FnAt Try.prog 55 a55 := .mk Try.func55 (by kernel_rfl) (by kernel_rfl)
def a56 : AF := (⟨_, rfl⟩ : {x : AF // kF tb Try.f56 2 21 = some x}).1
theorem t56 : FnAt Try.prog 56 a56 := .mk Try.func56 (by kernel_rfl) (by kernel_rfl)
def a57 : AF := (⟨_, rfl⟩ : {x : AF // kF tb Try.f57 1 18 = some x}).1
theorem t57 : FnAt Try.prog 57 a57 := .mk Try.func57 (by kernel_rfl) (by kernel_rfl)
def a58 : AF := (⟨_, rfl⟩ : {x : AF // kF tb Try.f58 2 20 = some x}).1
theorem t58 : FnAt Try.prog 58 a58 := .mk Try.func58 (by kernel_rfl) (by kernel_rfl)
def a59 : AF := (⟨_, rfl⟩ : {x : AF // kF tb Try.f59 3 49 = some x}).1
theorem t59 : FnAt Try.prog 59 a59 := .mk Try.func59 (by kernel_rfl) (by kernel_rfl)
def a60 : AF := (⟨_, rfl⟩ : {x : AF // kF tb Try.f60 2 9 = some x}).1
theorem t60 : FnAt Try.prog 60 a60 := .mk Try.func60 (by kernel_rfl) (by kernel_rfl)
def a61 : AF := (⟨_, rfl⟩ : {x : AF // kF tb Try.f61 1 13 = some x}).1
theorem t61 : FnAt Try.prog 61 a61 := .mk Try.func61 (by kernel_rfl) (by kernel_rfl)
def a62 : AF := (⟨_, rfl⟩ : {x : AF // kF tb Try.f62 1 6 = some x}).1
theorem t62 : FnAt Try.prog 62 a62 := .mk Try.func62 (by kernel_rfl) (by kernel_rfl)
end Go.Proofs.Ytdbcmocokoondaa
