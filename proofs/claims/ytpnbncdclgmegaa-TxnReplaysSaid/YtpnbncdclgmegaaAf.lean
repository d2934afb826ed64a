/-
  The functions of the program in the small language, reckoned, and that they are so told.
-/
import Derived.Test.YtpnbncdclgmegaaKA
import Derived.Test.YtpnbncdclgmegaaProg
set_option linter.unusedVariables false
set_option maxRecDepth 100000
set_option maxHeartbeats 4000000
namespace Go.Proofs.Ytpnbncdclgmegaa
open Go.RowKit

def tb : Tb := [⟨.o, 0, 0, []⟩,
⟨.o, 0, 0, []⟩,
⟨.int .i64, 1, 8, [(.t (.int .i64 0))]⟩,
⟨.int .i64, 1, 8, [(.t (.int .i64 0))]⟩,
⟨.bool, 1, 1, [(.t (.bool false))]⟩,
⟨.int .u8, 1, 1, [(.t (.int .u8 0))]⟩,
⟨.int .u8, 1, 1, [(.t (.int .u8 0))]⟩,
⟨.st [(0, 1, none), (1, 1, none), (2, 1, none), (3, 1, none)] [.int, .int, .bool, .int], 4, 24, [(.t (.int .i64 0)), (.t (.int .i64 0)), (.t (.bool false)), (.t (.int .u8 0))]⟩,
⟨.st [(0, 1, none), (1, 1, none), (2, 1, none), (3, 1, none)] [.int, .int, .bool, .int], 4, 24, [(.t (.int .i64 0)), (.t (.int .i64 0)), (.t (.bool false)), (.t (.int .u8 0))]⟩,
⟨.str, 1, 16, [(.t (.str ⟨#[]⟩))]⟩,
⟨.str, 1, 16, [(.t (.str ⟨#[]⟩))]⟩,
⟨.str, 1, 16, [(.t (.str ⟨#[]⟩))]⟩,
⟨.int .u64, 1, 8, [(.t (.int .u64 0))]⟩,
⟨.st [(0, 1, none), (1, 1, none)] [], 2, 24, [(.t (.str ⟨#[]⟩)), (.t (.int .u64 0))]⟩,
⟨.st [(0, 1, none), (1, 1, none)] [], 2, 24, [(.t (.str ⟨#[]⟩)), (.t (.int .u64 0))]⟩,
⟨.pt, 1, 8, [.nilp]⟩,
⟨.pt, 1, 8, [.nilp]⟩,
⟨.pt, 1, 8, [.nilp]⟩,
⟨.st [(0, 1, none)] [], 1, 8, [.nilp]⟩,
⟨.st [(0, 1, none)] [], 1, 8, [.nilp]⟩,
⟨.o, 0, 0, []⟩,
⟨.int .i32, 1, 4, [(.t (.int .i32 0))]⟩,
⟨.sl 3, 1, 24, [(.t .nil)]⟩,
⟨.o, 0, 0, []⟩,
⟨.pt, 1, 8, [.nilp]⟩,
⟨.o, 0, 0, []⟩,
⟨.int .u64, 1, 8, [(.t (.int .u64 0))]⟩,
⟨.pt, 1, 8, [.nilp]⟩,
⟨.o, 0, 0, []⟩,
⟨.sl 48, 1, 24, [(.t .nil)]⟩,
⟨.arr 3 29, 3, 72, [(.t .nil), (.t .nil), (.t .nil)]⟩,
⟨.sl 56, 1, 24, [(.t .nil)]⟩,
⟨.o, 0, 0, []⟩,
⟨.st [(0, 1, none), (1, 1, none)] [.int, .int], 2, 16, [(.t (.int .i64 0)), (.t (.int .i64 0))]⟩,
⟨.st [(0, 1, none), (1, 1, none)] [.int, .int], 2, 16, [(.t (.int .i64 0)), (.t (.int .i64 0))]⟩,
⟨.o, 0, 0, []⟩,
⟨.o, 0, 0, []⟩,
⟨.int .i64, 1, 8, [(.t (.int .i64 0))]⟩,
⟨.o, 0, 0, []⟩,
⟨.sl 44, 1, 24, [(.t .nil)]⟩,
⟨.o, 0, 0, []⟩,
⟨.o, 0, 0, []⟩,
⟨.st [(0, 1, none), (1, 1, none), (2, 1, none)] [.int, .int, .int], 3, 24, [(.t (.int .i64 0)), (.t (.int .i64 0)), (.t (.int .i64 0))]⟩,
⟨.st [(0, 1, none), (1, 1, none), (2, 1, none)] [.int, .int, .int], 3, 24, [(.t (.int .i64 0)), (.t (.int .i64 0)), (.t (.int .i64 0))]⟩,
⟨.int .u16, 1, 2, [(.t (.int .u16 0))]⟩,
⟨.st [(0, 2, (some 2)), (2, 1, none)] [.int, .int, .int], 3, 24, [(.t (.int .i64 0)), (.t (.int .i64 0)), (.t (.int .u16 0))]⟩,
⟨.st [(0, 2, (some 2)), (2, 1, none)] [.int, .int, .int], 3, 24, [(.t (.int .i64 0)), (.t (.int .i64 0)), (.t (.int .u16 0))]⟩,
⟨.st [(0, 1, none), (1, 3, (some 3))] [.bool, .int, .int, .int], 4, 32, [(.t (.bool false)), (.t (.int .i64 0)), (.t (.int .i64 0)), (.t (.int .u16 0))]⟩,
⟨.st [(0, 1, none), (1, 3, (some 3))] [.bool, .int, .int, .int], 4, 32, [(.t (.bool false)), (.t (.int .i64 0)), (.t (.int .i64 0)), (.t (.int .u16 0))]⟩,
⟨.o, 0, 0, []⟩,
⟨.o, 0, 0, []⟩,
⟨.sl 46, 1, 24, [(.t .nil)]⟩,
⟨.o, 0, 0, []⟩,
⟨.o, 0, 0, []⟩,
⟨.o, 0, 0, []⟩,
⟨.st [(0, 1, none), (1, 1, none), (2, 1, none)] [], 3, 40, [(.t (.int .u64 0)), (.t (.bool false)), (.t .nil)]⟩,
⟨.st [(0, 1, none), (1, 1, none), (2, 1, none)] [], 3, 40, [(.t (.int .u64 0)), (.t (.bool false)), (.t .nil)]⟩,
⟨.o, 0, 0, []⟩,
⟨.o, 0, 0, []⟩,
⟨.o, 0, 0, []⟩,
⟨.o, 0, 0, []⟩,
⟨.o, 0, 0, []⟩,
⟨.o, 0, 0, []⟩,
⟨.o, 0, 0, []⟩,
⟨.sl 43, 1, 24, [(.t .nil)]⟩,
⟨.st [(0, 1, none), (1, 1, none), (2, 1, none)] [], 3, 56, [(.t (.int .u64 0)), (.t .nil), (.t .nil)]⟩,
⟨.st [(0, 1, none), (1, 1, none), (2, 1, none)] [], 3, 56, [(.t (.int .u64 0)), (.t .nil), (.t .nil)]⟩,
⟨.o, 0, 0, []⟩,
⟨.o, 0, 0, []⟩,
⟨.o, 0, 0, []⟩,
⟨.o, 0, 0, []⟩,
⟨.pt, 1, 8, [.nilp]⟩,
⟨.o, 0, 0, []⟩,
⟨.o, 0, 0, []⟩,
⟨.o, 0, 0, []⟩,
⟨.o, 0, 0, []⟩,
⟨.o, 0, 0, []⟩,
⟨.o, 0, 0, []⟩,
⟨.st [(0, 1, none), (1, 1, none), (2, 1, none), (3, 1, none)] [.int, .int, .int, .int], 4, 32, [(.t (.int .i64 0)), (.t (.int .i64 0)), (.t (.int .i64 0)), (.t (.int .u64 0))]⟩,
⟨.st [(0, 1, none), (1, 1, none), (2, 1, none), (3, 1, none)] [.int, .int, .int, .int], 4, 32, [(.t (.int .i64 0)), (.t (.int .i64 0)), (.t (.int .i64 0)), (.t (.int .u64 0))]⟩,
⟨.o, 0, 0, []⟩,
⟨.o, 0, 0, []⟩,
⟨.o, 0, 0, []⟩,
⟨.o, 0, 0, []⟩,
⟨.o, 0, 0, []⟩,
⟨.o, 0, 0, []⟩,
⟨.o, 0, 0, []⟩,
⟨.o, 0, 0, []⟩,
⟨.arr 7 37, 7, 56, [(.t (.int .i64 0)), (.t (.int .i64 0)), (.t (.int .i64 0)), (.t (.int .i64 0)), (.t (.int .i64 0)), (.t (.int .i64 0)), (.t (.int .i64 0))]⟩,
⟨.o, 0, 0, []⟩,
⟨.mc 105, 1, 8, [.nilm]⟩,
⟨.st [(0, 1, none), (1, 1, none), (2, 1, none), (3, 1, none)] [], 4, 32, [(.t (.int .u64 0)), (.t (.int .i64 0)), (.t (.int .i64 0)), .nilm]⟩,
⟨.st [(0, 1, none), (1, 1, none), (2, 1, none), (3, 1, none)] [], 4, 32, [(.t (.int .u64 0)), (.t (.int .i64 0)), (.t (.int .i64 0)), .nilm]⟩,
⟨.mp 66, 1, 8, [.nilm]⟩,
⟨.st [(0, 1, none), (1, 1, none), (2, 1, none), (3, 1, none), (4, 1, none)] [], 5, 40, [.nilp, (.t (.int .i64 0)), (.t (.int .i64 0)), (.t (.int .i64 0)), .nilm]⟩,
⟨.st [(0, 1, none), (1, 1, none), (2, 1, none), (3, 1, none), (4, 1, none)] [], 5, 40, [.nilp, (.t (.int .i64 0)), (.t (.int .i64 0)), (.t (.int .i64 0)), .nilm]⟩,
⟨.o, 0, 0, []⟩,
⟨.o, 0, 0, []⟩,
⟨.o, 0, 0, []⟩,
⟨.o, 0, 0, []⟩,
⟨.o, 0, 0, []⟩,
⟨.o, 0, 0, []⟩,
⟨.o, 0, 0, []⟩,
⟨.o, 0, 0, []⟩,
⟨.sl 4, 1, 24, [(.t .nil)]⟩,
⟨.sl 107, 1, 24, [(.t .nil)]⟩,
⟨.st [(0, 1, none), (1, 1, none)] [.int, .int], 2, 16, [(.t (.int .u64 0)), (.t (.int .u16 0))]⟩,
⟨.st [(0, 1, none), (1, 1, none)] [.int, .int], 2, 16, [(.t (.int .u64 0)), (.t (.int .u16 0))]⟩,
⟨.o, 0, 0, []⟩,
⟨.o, 0, 0, []⟩,
⟨.o, 0, 0, []⟩,
⟨.o, 0, 0, []⟩,
⟨.o, 0, 0, []⟩,
⟨.o, 0, 0, []⟩,
⟨.o, 0, 0, []⟩,
⟨.o, 0, 0, []⟩,
⟨.o, 0, 0, []⟩,
⟨.o, 0, 0, []⟩,
⟨.st [(0, 4, (some 4))] [.int, .int, .int, .int], 4, 32, [(.t (.int .i64 0)), (.t (.int .i64 0)), (.t (.int .i64 0)), (.t (.int .u64 0))]⟩,
⟨.st [(0, 4, (some 4))] [.int, .int, .int, .int], 4, 32, [(.t (.int .i64 0)), (.t (.int .i64 0)), (.t (.int .i64 0)), (.t (.int .u64 0))]⟩,
⟨.pt, 1, 8, [.nilp]⟩,
⟨.mp 119, 1, 8, [.nilm]⟩,
⟨.st [(0, 1, none), (1, 1, none), (2, 1, none), (3, 1, none)] [], 4, 32, [.nilp, (.t (.int .i64 0)), .nilp, .nilm]⟩,
⟨.st [(0, 1, none), (1, 1, none), (2, 1, none), (3, 1, none)] [], 4, 32, [.nilp, (.t (.int .i64 0)), .nilp, .nilm]⟩,
⟨.o, 0, 0, []⟩,
⟨.o, 0, 0, []⟩,
⟨.o, 0, 0, []⟩,
⟨.o, 0, 0, []⟩,
⟨.o, 0, 0, []⟩,
⟨.o, 0, 0, []⟩,
⟨.o, 0, 0, []⟩,
⟨.o, 0, 0, []⟩,
⟨.o, 0, 0, []⟩,
⟨.o, 0, 0, []⟩,
⟨.o, 0, 0, []⟩,
⟨.mc 4, 1, 8, [.nilm]⟩,
⟨.o, 0, 0, []⟩,
⟨.o, 0, 0, []⟩,
⟨.o, 0, 0, []⟩,
⟨.o, 0, 0, []⟩,
⟨.mp 3, 1, 8, [.nilm]⟩,
⟨.st [(0, 1, none), (1, 1, none)] [], 2, 16, [(.t (.int .i64 0)), .nilm]⟩,
⟨.st [(0, 1, none), (1, 1, none)] [], 2, 16, [(.t (.int .i64 0)), .nilm]⟩,
⟨.o, 0, 0, []⟩,
⟨.o, 0, 0, []⟩,
⟨.o, 0, 0, []⟩,
⟨.o, 0, 0, []⟩,
⟨.o, 0, 0, []⟩,
⟨.int .u64, 1, 8, [(.t (.int .u64 0))]⟩,
⟨.o, 0, 0, []⟩,
⟨.o, 0, 0, []⟩,
⟨.o, 0, 0, []⟩,
⟨.o, 0, 0, []⟩,
⟨.o, 0, 0, []⟩,
⟨.o, 0, 0, []⟩,
⟨.o, 0, 0, []⟩,
⟨.o, 0, 0, []⟩,
⟨.int .i64, 1, 8, [(.t (.int .i64 0))]⟩,
⟨.o, 0, 0, []⟩,
⟨.o, 0, 0, []⟩,
⟨.o, 0, 0, []⟩,
⟨.o, 0, 0, []⟩,
⟨.o, 0, 0, []⟩,
⟨.o, 0, 0, []⟩,
⟨.o, 0, 0, []⟩,
⟨.int .u32, 1, 4, [(.t (.int .u32 0))]⟩,
⟨.o, 0, 0, []⟩,
⟨.int .u64, 1, 8, [(.t (.int .u64 0))]⟩,
⟨.o, 0, 0, []⟩,
⟨.o, 0, 0, []⟩,
⟨.pt, 1, 8, [.nilp]⟩,
⟨.o, 0, 0, []⟩,
⟨.pt, 1, 8, [.nilp]⟩,
⟨.o, 0, 0, []⟩,
⟨.o, 0, 0, []⟩,
⟨.o, 0, 0, []⟩,
⟨.st [(0, 1, none), (1, 1, none), (2, 1, none), (3, 1, none)] [], 4, 40, [.nilp, .nilp, .nilp, (.t (.str ⟨#[]⟩))]⟩,
⟨.st [(0, 1, none), (1, 1, none), (2, 1, none), (3, 1, none)] [], 4, 40, [.nilp, .nilp, .nilp, (.t (.str ⟨#[]⟩))]⟩,
⟨.arr 0 16, 0, 0, []⟩,
⟨.st [(0, 0, (some 0))] [], 0, 0, []⟩,
⟨.st [(0, 0, (some 0))] [], 0, 0, []⟩,
⟨.int .u8, 1, 1, [(.t (.int .u8 0))]⟩,
⟨.int .u8, 1, 1, [(.t (.int .u8 0))]⟩,
⟨.o, 0, 0, []⟩,
⟨.pt, 1, 8, [.nilp]⟩,
⟨.int .i32, 1, 4, [(.t (.int .i32 0))]⟩,
⟨.int .i32, 1, 4, [(.t (.int .i32 0))]⟩]

def a3 : AF := (⟨_, rfl⟩ : {x : AF // kF tb Try.f3 1 143 = some x}).1
theorem t3 : FnAt Try.prog 3 a3 := .mk Try.func3 (by kernel_rfl) (by kernel_rfl)
def a4 : AF := (⟨_, rfl⟩ : {x : AF // kF tb Try.f4 4 158 = some x}).1
theorem t4 : FnAt Try.prog 4 a4 := .mk Try.func4 (by kernel_rfl) (by kernel_rfl)
def a5 : AF := (⟨_, rfl⟩ : {x : AF // kF tb Try.f5 3 154 = some x}).1
theorem t5 : FnAt Try.prog 5 a5 := .mk Try.func5 (by kernel_rfl) (by kernel_rfl)
def a6 : AF := (⟨_, rfl⟩ : {x : AF // kF tb Try.f6 1 147 = some x}).1
theorem t6 : FnAt Try.prog 6 a6 := .mk Try.func6 (by kernel_rfl) (by kernel_rfl)
def a7 : AF := (⟨_, rfl⟩ : {x : AF // kF tb Try.f7 2 135 = some x}).1
theorem t7 : FnAt Try.prog 7 a7 := .mk Try.func7 (by kernel_rfl) (by kernel_rfl)
def a8 : AF := (⟨_, rfl⟩ : {x : AF // kF tb Try.f8 2 141 = some x}).1
theorem t8 : FnAt Try.prog 8 a8 := .mk Try.func8 (by kernel_rfl) (by kernel_rfl)
def a9 : AF := (⟨_, rfl⟩ : {x : AF // kF tb Try.f9 3 191 = some x}).1
theorem t9 : FnAt Try.prog 9 a9 := .mk Try.func9 (by kernel_rfl) (by kernel_rfl)
def a10 : AF := (⟨_, rfl⟩ : {x : AF // kF tb Try.f10 2 134 = some x}).1
theorem t10 : FnAt Try.prog 10 a10 := .mk Try.func10 (by kernel_rfl) (by kernel_rfl)
def a11 : AF := (⟨_, rfl⟩ : {x : AF // kF tb Try.f11 0 66 = some x}).1
theorem t11 : FnAt Try.prog 11 a11 := .mk Try.func11 (by kernel_rfl) (by kernel_rfl)
def a12 : AF := (⟨_, rfl⟩ : {x : AF // kF tb Try.f12 2 12 = some x}).1
theorem t12 : FnAt Try.prog 12 a12 := .mk Try.func12 (by kernel_rfl) (by kernel_rfl)
def a13 : AF := (⟨_, rfl⟩ : {x : AF // kF tb Try.f13 4 19 = some x}).1
theorem t13 : FnAt Try.prog 13 a13 := .mk Try.func13 (by kernel_rfl) (by kernel_rfl)
def a14 : AF := (⟨_, rfl⟩ : {x : AF // kF tb Try.f14 3 12 = some x}).1
theorem t14 : FnAt Try.prog 14 a14 := .mk Try.func14 (by kernel_rfl) (by kernel_rfl)
def a15 : AF := (⟨_, rfl⟩ : {x : AF // kF tb Try.f15 1 17 = some x}).1
theorem t15 : FnAt Try.prog 15 a15 := .mk Try.func15 (by kernel_rfl) (by kernel_rfl)
def a16 : AF := (⟨_, rfl⟩ : {x : AF // kF tb Try.f16 2 14 = some x}).1
theorem t16 : FnAt Try.prog 16 a16 := .mk Try.func16 (by kernel_rfl) (by kernel_rfl)
def a17 : AF := (⟨_, rfl⟩ : {x : AF // kF tb Try.f17 2 38 = some x}).1
theorem t17 : FnAt Try.prog 17 a17 := .mk Try.func17 (by kernel_rfl) (by kernel_rfl)
def a18 : AF := (⟨_, rfl⟩ : {x : AF // kF tb Try.f18 3 48 = some x}).1
theorem t18 : FnAt Try.prog 18 a18 := .mk Try.func18 (by kernel_rfl) (by kernel_rfl)
def a19 : AF := (⟨_, rfl⟩ : {x : AF // kF tb Try.f19 1 19 = some x}).1
theorem t19 : FnAt Try.prog 19 a19 := .mk Try.func19 (by kernel_rfl) (by kernel_rfl)
def a20 : AF := (⟨_, rfl⟩ : {x : AF // kF tb Try.f20 3 40 = some x}).1
theorem t20 : FnAt Try.prog 20 a20 := .mk Try.func20 (by kernel_rfl) (by kernel_rfl)
def a21 : AF := (⟨_, rfl⟩ : {x : AF // kF tb Try.f21 1 7 = some x}).1
theorem t21 : FnAt Try.prog 21 a21 := .mk Try.func21 (by kernel_rfl) (by kernel_rfl)
def a22 : AF := (⟨_, rfl⟩ : {x : AF // kF tb Try.f22 2 54 = some x}).1
theorem t22 : FnAt Try.prog 22 a22 := .mk Try.func22 (by kernel_rfl) (by kernel_rfl)
def a23 : AF := (⟨_, rfl⟩ : {x : AF // kF tb Try.f23 1 116 = some x}).1
theorem t23 : FnAt Try.prog 23 a23 := .mk Try.func23 (by kernel_rfl) (by kernel_rfl)
def a24 : AF := (⟨_, rfl⟩ : {x : AF // kF tb Try.f24 1 34 = some x}).1
theorem t24 : FnAt Try.prog 24 a24 := .mk Try.func24 (by kernel_rfl) (by kernel_rfl)
def a25 : AF := (⟨_, rfl⟩ : {x : AF // kF tb Try.f25 2 76 = some x}).1
theorem t25 : FnAt Try.prog 25 a25 := .mk Try.func25 (by kernel_rfl) (by kernel_rfl)
def a26 : AF := (⟨_, rfl⟩ : {x : AF // kF tb Try.f26 3 15 = some x}).1
theorem t26 : FnAt Try.prog 26 a26 := .mk Try.func26 (by kernel_rfl) (by kernel_rfl)
def a27 : AF := (⟨_, rfl⟩ : {x : AF // kF tb Try.f27 1 9 = some x}).1
theorem t27 : FnAt Try.prog 27 a27 := .mk Try.func27 (by kernel_rfl) (by kernel_rfl)
def a28 : AF := (⟨_, rfl⟩ : {x : AF // kF tb Try.f28 2 27 = some x}).1
theorem t28 : FnAt Try.prog 28 a28 := .mk Try.func28 (by kernel_rfl) (by kernel_rfl)
def a29 : AF := (⟨_, rfl⟩ : {x : AF // kF tb Try.f29 1 7 = some x}).1
theorem t29 : FnAt Try.prog 29 a29 := .mk Try.func29 (by kernel_rfl) (by kernel_rfl)
def a30 : AF := (⟨_, rfl⟩ : {x : AF // kF tb Try.f30 0 40 = some x}).1
theorem t30 : FnAt Try.prog 30 a30 := .mk Try.func30 (by kernel_rfl) (by kernel_rfl)
def a31 : AF := (⟨_, rfl⟩ : {x : AF // kF tb Try.f31 5 37 = some x}).1
theorem t31 : FnAt Try.prog 31 a31 := .mk Try.func31 (by kernel_rfl) (by kernel_rfl)
def a32 : AF := (⟨_, rfl⟩ : {x : AF // kF tb Try.f32 2 21 = some x}).1
theorem t32 : FnAt Try.prog 32 a32 := .mk Try.func32 (by kernel_rfl) (by kernel_rfl)
def a33 : AF := (⟨_, rfl⟩ : {x : AF // kF tb Try.f33 3 52 = some x}).1
theorem t33 : FnAt Try.prog 33 a33 := .mk Try.func33 (by kernel_rfl) (by kernel_rfl)
def a34 : AF := (⟨_, rfl⟩ : {x : AF // kF tb Try.f34 3 42 = some x}).1
theorem t34 : FnAt Try.prog 34 a34 := .mk Try.func34 (by kernel_rfl) (by kernel_rfl)
def a35 : AF := (⟨_, rfl⟩ : {x : AF // kF tb Try.f35 2 31 = some x}).1
theorem t35 : FnAt Try.prog 35 a35 := .mk Try.func35 (by kernel_rfl) (by kernel_rfl)
def a36 : AF := (⟨_, rfl⟩ : {x : AF // kF tb Try.f36 1 7 = some x}).1
theorem t36 : FnAt Try.prog 36 a36 := .mk Try.func36 (by kernel_rfl) (by kernel_rfl)
def a37 : AF := (⟨_, rfl⟩ : {x : AF // kF tb Try.f37 1 7 = some x}).1
theorem t37 : FnAt Try.prog 37 a37 := .mk Try.func37 (by kernel_rfl) (by kernel_rfl)
def a38 : AF := (⟨_, rfl⟩ : {x : AF // kF tb Try.f38 2 19 = some x}).1
theorem t38 : FnAt Try.prog 38 a38 := .mk Try.func38 (by kernel_rfl) (by kernel_rfl)
def a39 : AF := (⟨_, rfl⟩ : {x : AF // kF tb Try.f39 2 33 = some x}).1
theorem t39 : FnAt Try.prog 39 a39 := .mk Try.func39 (by kernel_rfl) (by kernel_rfl)
def a40 : AF := (⟨_, rfl⟩ : {x : AF // kF tb Try.f40 3 13 = some x}).1
theorem t40 : FnAt Try.prog 40 a40 := .mk Try.func40 (by kernel_rfl) (by kernel_rfl)
def a41 : AF := (⟨_, rfl⟩ : {x : AF // kF tb Try.f41 2 27 = some x}).1
theorem t41 : FnAt Try.prog 41 a41 := .mk Try.func41 (by kernel_rfl) (by kernel_rfl)
def a42 : AF := (⟨_, rfl⟩ : {x : AF // kF tb Try.f42 2 18 = some x}).1
theorem t42 : FnAt Try.prog 42 a42 := .mk Try.func42 (by kernel_rfl) (by kernel_rfl)
def a43 : AF := (⟨_, rfl⟩ : {x : AF // kF tb Try.f43 2 13 = some x}).1
theorem t43 : FnAt Try.prog 43 a43 := .mk Try.func43 (by kernel_rfl) (by kernel_rfl)
def a44 : AF := (⟨_, rfl⟩ : {x : AF // kF tb Try.f44 1 28 = some x}).1
theorem t44 : FnAt Try.prog 44 a44 := .mk Try.func44 (by kernel_rfl) (by kernel_rfl)
def a45 : AF := (⟨_, rfl⟩ : {x : AF // kF tb Try.f45 2 35 = some x}).1
theorem t45 : FnAt Try.prog 45 a45 := .mk Try.func45 (by kernel_rfl) (by kernel_rfl)
def a46 : AF := (⟨_, rfl⟩ : {x : AF // kF tb Try.f46 2 26 = some x}).1
theorem t46 : FnAt Try.prog 46 a46 := .mk Try.func46 (by kernel_rfl) (by kernel_rfl)
def a47 : AF := (⟨_, rfl⟩ : {x : AF // kF tb Try.f47 1 28 = some x}).1
theorem t47 : FnAt Try.prog 47 a47 := .mk Try.func47 (by kernel_rfl) (by kernel_rfl)
def a48 : AF := (⟨_, rfl⟩ : {x : AF // kF tb Try.f48 4 43 = some x}).1
theorem t48 : FnAt Try.prog 48 a48 := .mk Try.func48 (by kernel_rfl) (by kernel_rfl)
def a49 : AF := (⟨_, rfl⟩ : {x : AF // kF tb Try.f49 4 23 = some x}).1
theorem t49 : FnAt Try.prog 49 a49 := .mk Try.func49 (by kernel_rfl) (by kernel_rfl)
def a50 : AF := (⟨_, rfl⟩ : {x : AF // kF tb Try.f50 1 17 = some x}).1
theorem t50 : FnAt Try.prog 50 a50 := .mk Try.func50 (by kernel_rfl) (by kernel_rfl)
def a51 : AF := (⟨_, rfl⟩ : {x : AF // kF tb Try.f51 3 33 = some x}).1
theorem t51 : FnAt Try.prog 51 a51 := .mk Try.func51 (by kernel_rfl) (by kernel_rfl)
def a52 : AF := (⟨_, rfl⟩ : {x : AF // kF tb Try.f52 3 18 = some x}).1
theorem t52 : FnAt Try.prog 52 a52 := .mk Try.func52 (by kernel_rfl) (by kernel_rfl)
def a53 : AF := (⟨_, rfl⟩ : {x : AF // kF tb Try.f53 1 31 = some x}).1
theorem t53 : FnAt Try.prog 53 a53 := .mk Try.func53 (by kernel_rfl) (by kernel_rfl)
def a54 : AF := (⟨_, rfl⟩ : {x : AF // kF tb Try.f54 2 17 = some x}).1
theorem t54 : FnAt Try.prog 54 a54 := .mk Try.func54 (by kernel_rfl) (by kernel_rfl)
def a55 : AF := (⟨_, rfl⟩ : {x : AF // kF tb Try.f55 1 9 = some x}).1
theorem t55 : FnAt Try.prog 55 a55 := .mk Try.func55 (by kernel_rfl) (by kernel_rfl)
def a57 : AF := (⟨_, rfl⟩ : {x : AF // kF tb Try.f57 1 8 = some x}).1
theorem t57 : FnAt Try.prog 57 a57 := .mk Try.func57 (by kernel_rfl) (by kernel_rfl)
def a58 : AF := (⟨_, rfl⟩ : {x : AF // kF tb Try.f58 1 8 = some x}).1
theorem t58 : FnAt Try.prog 58 a58 := .mk Try.func58 (by kernel_rfl) (by kernel_rfl)
def a59 : AF := (⟨_, rfl⟩ : {x : AF // kF tb Try.f59 2 15 = some x}).1
theorem t59 : FnAt Try.prog 59 a59 := .mk Try.func59 (by kernel_rfl) (by kernel_rfl)
def a60 : AF := (⟨_, rfl⟩ : {x : AF // kF tb Try.f60 2 42 = some x}).1
theorem t60 : FnAt Try.prog 60 a60 := .mk Try.func60 (by kernel_rfl) (by kernel_rfl)
def a61 : AF := (⟨_, rfl⟩ : {x : AF // kF tb Try.f61 3 13 = some x}).1
theorem t61 : FnAt Try.prog 61 a61 := .mk Try.func61 (by kernel_rfl) (by kernel_rfl)
def a62 : AF := (⟨_, rfl⟩ : {x : AF // kF tb Try.f62 3 43 = some x}).1
theorem t62 : FnAt Try.prog 62 a62 := .mk Try.func62 (by kernel_rfl) (by kernel_rfl)
def a63 : AF := (⟨_, rfl⟩ : {x : AF // kF tb Try.f63 2 14 = some x}).1
theorem t63 : FnAt Try.prog 63 a63 := .mk Try.func63 (by kernel_rfl) (by kernel_rfl)
def a64 : AF := (⟨_, rfl⟩ : {x : AF // kF tb Try.f64 5 28 = some x}).1
theorem t64 : FnAt Try.prog 64 a64 := .mk Try.func64 (by kernel_rfl) (by kernel_rfl)
def a65 : AF := (⟨_, rfl⟩ : {x : AF // kF tb Try.f65 2 13 = some x}).1
theorem t65 : FnAt Try.prog 65 a65 := .mk Try.func65 (by kernel_rfl) (by kernel_rfl)
def a66 : AF := (⟨_, rfl⟩ : {x : AF // kF tb Try.f66 1 10 = some x}).1
theorem t66 : FnAt Try.prog 66 a66 := .mk Try.func66 (by kernel_rfl) (by kernel_rfl)
def a67 : AF := (⟨_, rfl⟩ : {x : AF // kF tb Try.f67 2 22 = some x}).1
theorem t67 : FnAt Try.prog 67 a67 := .mk Try.func67 (by kernel_rfl) (by kernel_rfl)
def a68 : AF := (⟨_, rfl⟩ : {x : AF // kF tb Try.f68 1 46 = some x}).1
theorem t68 : FnAt Try.prog 68 a68 := .mk Try.func68 (by kernel_rfl) (by kernel_rfl)
def a69 : AF := (⟨_, rfl⟩ : {x : AF // kF tb Try.f69 2 22 = some x}).1
theorem t69 : FnAt Try.prog 69 a69 := .mk Try.func69 (by kernel_rfl) (by kernel_rfl)
def a70 : AF := (⟨_, rfl⟩ : {x : AF // kF tb Try.f70 1 12 = some x}).1
theorem t70 : FnAt Try.prog 70 a70 := .mk Try.func70 (by kernel_rfl) (by kernel_rfl)
def a71 : AF := (⟨_, rfl⟩ : {x : AF // kF tb Try.f71 2 83 = some x}).1
theorem t71 : FnAt Try.prog 71 a71 := .mk Try.func71 (by kernel_rfl) (by kernel_rfl)
def a72 : AF := (⟨_, rfl⟩ : {x : AF // kF tb Try.f72 2 67 = some x}).1
theorem t72 : FnAt Try.prog 72 a72 := .mk Try.func72 (by kernel_rfl) (by kernel_rfl)
def a73 : AF := (⟨_, rfl⟩ : {x : AF // kF tb Try.f73 1 6 = some x}).1
theorem t73 : FnAt Try.prog 73 a73 := .mk Try.func73 (by kernel_rfl) (by kernel_rfl)
def a74 : AF := (⟨_, rfl⟩ : {x : AF // kF tb Try.f74 1 18 = some x}).1
theorem t74 : FnAt Try.prog 74 a74 := .mk Try.func74 (by kernel_rfl) (by kernel_rfl)
def a75 : AF := (⟨_, rfl⟩ : {x : AF // kF tb Try.f75 2 9 = some x}).1
theorem t75 : FnAt Try.prog 75 a75 := .mk Try.func75 (by kernel_rfl) (by kernel_rfl)
def a76 : AF := (⟨_, rfl⟩ : {x : AF // kF tb Try.f76 1 23 = some x}).1
theorem t76 : FnAt Try.prog 76 a76 := .mk Try.func76 (by kernel_rfl) (by kernel_rfl)
def a77 : AF := (⟨_, rfl⟩ : {x : AF // kF tb Try.f77 2 46 = some x}).1
theorem t77 : FnAt Try.prog 77 a77 := .mk Try.func77 (by kernel_rfl) (by kernel_rfl)
def a78 : AF := (⟨_, rfl⟩ : {x : AF // kF tb Try.f78 3 41 = some x}).1
theorem t78 : FnAt Try.prog 78 a78 := .mk Try.func78 (by kernel_rfl) (by kernel_rfl)
def a79 : AF := (⟨_, rfl⟩ : {x : AF // kF tb Try.f79 2 28 = some x}).1
theorem t79 : FnAt Try.prog 79 a79 := .mk Try.func79 (by kernel_rfl) (by kernel_rfl)
def a80 : AF := (⟨_, rfl⟩ : {x : AF // kF tb Try.f80 1 5 = some x}).1
theorem t80 : FnAt Try.prog 80 a80 := .mk Try.func80 (by kernel_rfl) (by kernel_rfl)
def a81 : AF := (⟨_, rfl⟩ : {x : AF // kF tb Try.f81 1 11 = some x}).1
theorem t81 : FnAt Try.prog 81 a81 := .mk Try.func81 (by kernel_rfl) (by kernel_rfl)
def a82 : AF := (⟨_, rfl⟩ : {x : AF // kF tb Try.f82 2 14 = some x}).1
theorem t82 : FnAt Try.prog 82 a82 := .mk Try.func82 (by kernel_rfl) (by kernel_rfl)
def a83 : AF := (⟨_, rfl⟩ : {x : AF // kF tb Try.f83 1 9 = some x}).1
theorem t83 : FnAt Try.prog 83 a83 := .mk Try.func83 (by kernel_rfl) (by kernel_rfl)
def a84 : AF := (⟨_, rfl⟩ : {x : AF // kF tb Try.f84 2 24 = some x}).1
theorem t84 : FnAt Try.prog 84 a84 := .mk Try.func84 (by kernel_rfl) (by kernel_rfl)
def a85 : AF := (⟨_, rfl⟩ : {x : AF // kF tb Try.f85 2 21 = some x}).1
theorem t85 : FnAt Try.prog 85 a85 := .mk Try.func85 (by kernel_rfl) (by kernel_rfl)
def a86 : AF := (⟨_, rfl⟩ : {x : AF // kF tb Try.f86 2 28 = some x}).1
theorem t86 : FnAt Try.prog 86 a86 := .mk Try.func86 (by kernel_rfl) (by kernel_rfl)
def a87 : AF := (⟨_, rfl⟩ : {x : AF // kF tb Try.f87 2 24 = some x}).1
theorem t87 : FnAt Try.prog 87 a87 := .mk Try.func87 (by kernel_rfl) (by kernel_rfl)
def a88 : AF := (⟨_, rfl⟩ : {x : AF // kF tb Try.f88 1 21 = some x}).1
theorem t88 : FnAt Try.prog 88 a88 := .mk Try.func88 (by kernel_rfl) (by kernel_rfl)
def a89 : AF := (⟨_, rfl⟩ : {x : AF // kF tb Try.f89 1 9 = some x}).1
theorem t89 : FnAt Try.prog 89 a89 := .mk Try.func89 (by kernel_rfl) (by kernel_rfl)
def a90 : AF := (⟨_, rfl⟩ : {x : AF // kF tb Try.f90 2 19 = some x}).1
theorem t90 : FnAt Try.prog 90 a90 := .mk Try.func90 (by kernel_rfl) (by kernel_rfl)
def a91 : AF := (⟨_, rfl⟩ : {x : AF // kF tb Try.f91 2 17 = some x}).1
theorem t91 : FnAt Try.prog 91 a91 := .mk Try.func91 (by kernel_rfl) (by kernel_rfl)
def a92 : AF := (⟨_, rfl⟩ : {x : AF // kF tb Try.f92 2 12 = some x}).1
theorem t92 : FnAt Try.prog 92 a92 := .mk Try.func92 (by kernel_rfl) (by kernel_rfl)
def a94 : AF := (⟨_, rfl⟩ : {x : AF // kF tb Try.f94 4 134 = some x}).1
theorem t94 : FnAt Try.prog 94 a94 := .mk Try.func94 (by kernel_rfl) (by kernel_rfl)
def a95 : AF := (⟨_, rfl⟩ : {x : AF // kF tb Try.f95 1 8 = some x}).1
theorem t95 : FnAt Try.prog 95 a95 := .mk Try.func95 (by kernel_rfl) (by kernel_rfl)
def a96 : AF := (⟨_, rfl⟩ : {x : AF // kF tb Try.f96 3 49 = some x}).1
theorem t96 : FnAt Try.prog 96 a96 := .mk Try.func96 (by kernel_rfl) (by kernel_rfl)
def a97 : AF := (⟨_, rfl⟩ : {x : AF // kF tb Try.f97 2 9 = some x}).1
theorem t97 : FnAt Try.prog 97 a97 := .mk Try.func97 (by kernel_rfl) (by kernel_rfl)
def a98 : AF := (⟨_, rfl⟩ : {x : AF // kF tb Try.f98 1 18 = some x}).1
theorem t98 : FnAt Try.prog 98 a98 := .mk Try.func98 (by kernel_rfl) (by kernel_rfl)
def a99 : AF := (⟨_, rfl⟩ : {x : AF // kF tb Try.f99 2 20 = some x}).1
theorem t99 : FnAt Try.prog 99 a99 := .mk Try.func99 (by kernel_rfl) (by kernel_rfl)
def a100 : AF := (⟨_, rfl⟩ : {x : AF // kF tb Try.f100 1 13 = some x}).1
theorem t100 : FnAt Try.prog 100 a100 := .mk Try.func100 (by kernel_rfl) (by kernel_rfl)
def a101 : AF := (⟨_, rfl⟩ : {x : AF // kF tb Try.f101 3 49 = some x}).1
theorem t101 : FnAt Try.prog 101 a101 := .mk Try.func101 (by kernel_rfl) (by kernel_rfl)
def a102 : AF := (⟨_, rfl⟩ : {x : AF // kF tb Try.f102 3 56 = some x}).1
theorem t102 : FnAt Try.prog 102 a102 := .mk Try.func102 (by kernel_rfl) (by kernel_rfl)
def a103 : AF := (⟨_, rfl⟩ : {x : AF // kF tb Try.f103 3 65 = some x}).1
theorem t103 : FnAt Try.prog 103 a103 := .mk Try.func103 (by kernel_rfl) (by kernel_rfl)
def a104 : AF := (⟨_, rfl⟩ : {x : AF // kF tb Try.f104 3 57 = some x}).1
theorem t104 : FnAt Try.prog 104 a104 := .mk Try.func104 (by kernel_rfl) (by kernel_rfl)
def a105 : AF := (⟨_, rfl⟩ : {x : AF // kF tb Try.f105 3 32 = some x}).1
theorem t105 : FnAt Try.prog 105 a105 := .mk Try.func105 (by kernel_rfl) (by kernel_rfl)
def a106 : AF := (⟨_, rfl⟩ : {x : AF // kF tb Try.f106 3 133 = some x}).1
theorem t106 : FnAt Try.prog 106 a106 := .mk Try.func106 (by kernel_rfl) (by kernel_rfl)
def a107 : AF := (⟨_, rfl⟩ : {x : AF // kF tb Try.f107 2 17 = some x}).1
theorem t107 : FnAt Try.prog 107 a107 := .mk Try.func107 (by kernel_rfl) (by kernel_rfl)
def a108 : AF := (⟨_, rfl⟩ : {x : AF // kF tb Try.f108 4 84 = some x}).1
theorem t108 : FnAt Try.prog 108 a108 := .mk Try.func108 (by kernel_rfl) (by kernel_rfl)
def a109 : AF := (⟨_, rfl⟩ : {x : AF // kF tb Try.f109 4 168 = some x}).1
theorem t109 : FnAt Try.prog 109 a109 := .mk Try.func109 (by kernel_rfl) (by kernel_rfl)
def a110 : AF := (⟨_, rfl⟩ : {x : AF // kF tb Try.f110 1 19 = some x}).1
theorem t110 : FnAt Try.prog 110 a110 := .mk Try.func110 (by kernel_rfl) (by kernel_rfl)
def a111 : AF := (⟨_, rfl⟩ : {x : AF // kF tb Try.f111 1 25 = some x}).1
theorem t111 : FnAt Try.prog 111 a111 := .mk Try.func111 (by kernel_rfl) (by kernel_rfl)
def a112 : AF := (⟨_, rfl⟩ : {x : AF // kF tb Try.f112 1 6 = some x}).1
theorem t112 : FnAt Try.prog 112 a112 := .mk Try.func112 (by kernel_rfl) (by kernel_rfl)
def a113 : AF := (⟨_, rfl⟩ : {x : AF // kF tb Try.f113 4 76 = some x}).1
theorem t113 : FnAt Try.prog 113 a113 := .mk Try.func113 (by kernel_rfl) (by kernel_rfl)
def a114 : AF := (⟨_, rfl⟩ : {x : AF // kF tb Try.f114 1 7 = some x}).1
theorem t114 : FnAt Try.prog 114 a114 := .mk Try.func114 (by kernel_rfl) (by kernel_rfl)
def a115 : AF := (⟨_, rfl⟩ : {x : AF // kF tb Try.f115 1 33 = some x}).1
theorem t115 : FnAt Try.prog 115 a115 := .mk Try.func115 (by kernel_rfl) (by kernel_rfl)
def a116 : AF := (⟨_, rfl⟩ : {x : AF // kF tb Try.f116 3 15 = some x}).1
theorem t116 : FnAt Try.prog 116 a116 := .mk Try.func116 (by kernel_rfl) (by kernel_rfl)
def a117 : AF := (⟨_, rfl⟩ : {x : AF // kF tb Try.f117 5 36 = some x}).1
theorem t117 : FnAt Try.prog 117 a117 := .mk Try.func117 (by kernel_rfl) (by kernel_rfl)
def a118 : AF := (⟨_, rfl⟩ : {x : AF // kF tb Try.f118 4 28 = some x}).1
theorem t118 : FnAt Try.prog 118 a118 := .mk Try.func118 (by kernel_rfl) (by kernel_rfl)
end Go.Proofs.Ytpnbncdclgmegaa
