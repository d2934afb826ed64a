/-
  The functions of the program in the small language, reckoned, and that they are so told.
-/
import Derived.Test.YtkahpdbmgmiaiaaKA
import Derived.Test.YtkahpdbmgmiaiaaProg
set_option linter.unusedVariables false
set_option maxRecDepth 100000
namespace Go.Proofs.Ytkahpdbmgmiaiaa
open Go.RowKit

def tb : Tb := [⟨.o, 0, 0, []⟩,
⟨.o, 0, 0, []⟩,
⟨.int .i64, 1, 8, [(.t (.int .i64 0))]⟩,
⟨.int .i64, 1, 8, [(.t (.int .i64 0))]⟩,
⟨.bool, 1, 1, [(.t (.bool false))]⟩,
⟨.int .u8, 1, 1, [(.t (.int .u8 0))]⟩,
⟨.int .u8, 1, 1, [(.t (.int .u8 0))]⟩,
⟨.st [(0, 1, none), (1, 1, none), (2, 1, none), (3, 1, none)] [.int, .int, .bool, .int], 4, 24, [(.t (.int .i64 0)), (.t (.int .i64 0)), (.t (.bool false)), (.t (.int .u8 0))]⟩,
⟨.st [(0, 1, none), (1, 1, none), (2, 1, none), (3, 1, none)] [.int, .int, .bool, .int], 4, 24, [(.t (.int .i64 0)), (.t (.int .i64 0)), (.t (.bool false)), (.t (.int .u8 0))]⟩,
⟨.str, 1, 16, [(.t (.str ⟨#[]⟩))]⟩,
⟨.str, 1, 16, [(.t (.str ⟨#[]⟩))]⟩,
⟨.str, 1, 16, [(.t (.str ⟨#[]⟩))]⟩,
⟨.int .u64, 1, 8, [(.t (.int .u64 0))]⟩,
⟨.st [(0, 1, none), (1, 1, none)] [], 2, 24, [(.t (.str ⟨#[]⟩)), (.t (.int .u64 0))]⟩,
⟨.st [(0, 1, none), (1, 1, none)] [], 2, 24, [(.t (.str ⟨#[]⟩)), (.t (.int .u64 0))]⟩,
⟨.pt, 1, 8, [.nilp]⟩,
⟨.pt, 1, 8, [.nilp]⟩,
⟨.pt, 1, 8, [.nilp]⟩,
⟨.st [(0, 1, none)] [], 1, 8, [.nilp]⟩,
⟨.st [(0, 1, none)] [], 1, 8, [.nilp]⟩,
⟨.o, 0, 0, []⟩,
⟨.int .i32, 1, 4, [(.t (.int .i32 0))]⟩,
⟨.sl 3, 1, 24, [(.t .nil)]⟩,
⟨.o, 0, 0, []⟩,
⟨.o, 0, 0, []⟩,
⟨.pt, 1, 8, [.nilp]⟩,
⟨.o, 0, 0, []⟩,
⟨.pt, 1, 8, [.nilp]⟩,
⟨.o, 0, 0, []⟩,
⟨.o, 0, 0, []⟩,
⟨.o, 0, 0, []⟩,
⟨.o, 0, 0, []⟩,
⟨.o, 0, 0, []⟩,
⟨.o, 0, 0, []⟩,
⟨.o, 0, 0, []⟩,
⟨.o, 0, 0, []⟩,
⟨.o, 0, 0, []⟩,
⟨.o, 0, 0, []⟩,
⟨.mp 3, 1, 8, [.nilm]⟩,
⟨.st [(0, 1, none), (1, 1, none)] [], 2, 16, [(.t (.int .i64 0)), .nilm]⟩,
⟨.st [(0, 1, none), (1, 1, none)] [], 2, 16, [(.t (.int .i64 0)), .nilm]⟩,
⟨.sl 46, 1, 24, [(.t .nil)]⟩,
⟨.st [(0, 1, none), (1, 1, none)] [], 2, 32, [(.t (.int .i64 0)), (.t .nil)]⟩,
⟨.st [(0, 1, none), (1, 1, none)] [], 2, 32, [(.t (.int .i64 0)), (.t .nil)]⟩,
⟨.o, 0, 0, []⟩,
⟨.st [(0, 1, none), (1, 1, none)] [.int, .int], 2, 16, [(.t (.int .i64 0)), (.t (.int .i64 0))]⟩,
⟨.st [(0, 1, none), (1, 1, none)] [.int, .int], 2, 16, [(.t (.int .i64 0)), (.t (.int .i64 0))]⟩,
⟨.o, 0, 0, []⟩,
⟨.o, 0, 0, []⟩,
⟨.int .u64, 1, 8, [(.t (.int .u64 0))]⟩,
⟨.o, 0, 0, []⟩,
⟨.int .i64, 1, 8, [(.t (.int .i64 0))]⟩,
⟨.o, 0, 0, []⟩,
⟨.o, 0, 0, []⟩,
⟨.o, 0, 0, []⟩,
⟨.o, 0, 0, []⟩,
⟨.o, 0, 0, []⟩,
⟨.o, 0, 0, []⟩,
⟨.o, 0, 0, []⟩,
⟨.int .u32, 1, 4, [(.t (.int .u32 0))]⟩,
⟨.o, 0, 0, []⟩,
⟨.int .u64, 1, 8, [(.t (.int .u64 0))]⟩,
⟨.int .u64, 1, 8, [(.t (.int .u64 0))]⟩,
⟨.o, 0, 0, []⟩,
⟨.o, 0, 0, []⟩,
⟨.o, 0, 0, []⟩,
⟨.pt, 1, 8, [.nilp]⟩,
⟨.o, 0, 0, []⟩,
⟨.pt, 1, 8, [.nilp]⟩,
⟨.o, 0, 0, []⟩,
⟨.o, 0, 0, []⟩,
⟨.o, 0, 0, []⟩,
⟨.st [(0, 1, none), (1, 1, none), (2, 1, none), (3, 1, none)] [], 4, 40, [.nilp, .nilp, .nilp, (.t (.str ⟨#[]⟩))]⟩,
⟨.st [(0, 1, none), (1, 1, none), (2, 1, none), (3, 1, none)] [], 4, 40, [.nilp, .nilp, .nilp, (.t (.str ⟨#[]⟩))]⟩,
⟨.arr 0 16, 0, 0, []⟩,
⟨.st [(0, 0, (some 0))] [], 0, 0, []⟩,
⟨.st [(0, 0, (some 0))] [], 0, 0, []⟩,
⟨.o, 0, 0, []⟩,
⟨.int .u8, 1, 1, [(.t (.int .u8 0))]⟩,
⟨.int .u8, 1, 1, [(.t (.int .u8 0))]⟩,
⟨.o, 0, 0, []⟩,
⟨.pt, 1, 8, [.nilp]⟩,
⟨.int .i32, 1, 4, [(.t (.int .i32 0))]⟩,
⟨.int .i32, 1, 4, [(.t (.int .i32 0))]⟩]

def a3 : AF := (⟨_, rfl⟩ : {x : AF // kF tb Try.f3 3 102 = some x}).1
theorem t3 : FnAt Try.prog 3 a3 := .mk Try.func3 (by kernel_rfl) (by kernel_rfl)
def a4 : AF := (⟨_, rfl⟩ : {x : AF // kF tb Try.f4 2 118 = some x}).1
theorem t4 : FnAt Try.prog 4 a4 := .mk Try.func4 (by kernel_rfl) (by kernel_rfl)
def a5 : AF := (⟨_, rfl⟩ : {x : AF // kF tb Try.f5 2 97 = some x}).1
theorem t5 : FnAt Try.prog 5 a5 := .mk Try.func5 (by kernel_rfl) (by kernel_rfl)
def a6 : AF := (⟨_, rfl⟩ : {x : AF // kF tb Try.f6 0 35 = some x}).1
theorem t6 : FnAt Try.prog 6 a6 := .mk Try.func6 (by kernel_rfl) (by kernel_rfl)
def a7 : AF := (⟨_, rfl⟩ : {x : AF // kF tb Try.f7 2 14 = some x}).1
theorem t7 : FnAt Try.prog 7 a7 := .mk Try.func7 (by kernel_rfl) (by kernel_rfl)
def a8 : AF := (⟨_, rfl⟩ : {x : AF // kF tb Try.f8 1 9 = some x}).1
theorem t8 : FnAt Try.prog 8 a8 := .mk Try.func8 (by kernel_rfl) (by kernel_rfl)
def a9 : AF := (⟨_, rfl⟩ : {x : AF // kF tb Try.f9 1 8 = some x}).1
theorem t9 : FnAt Try.prog 9 a9 := .mk Try.func9 (by kernel_rfl) (by kernel_rfl)
def a10 : AF := (⟨_, rfl⟩ : {x : AF // kF tb Try.f10 3 12 = some x}).1
theorem t10 : FnAt Try.prog 10 a10 := .mk Try.func10 (by kernel_rfl) (by kernel_rfl)
def a11 : AF := (⟨_, rfl⟩ : {x : AF // kF tb Try.f11 1 46 = some x}).1
theorem t11 : FnAt Try.prog 11 a11 := .mk Try.func11 (by kernel_rfl) (by kernel_rfl)
def a12 : AF := (⟨_, rfl⟩ : {x : AF // kF tb Try.f12 2 26 = some x}).1
theorem t12 : FnAt Try.prog 12 a12 := .mk Try.func12 (by kernel_rfl) (by kernel_rfl)
def a13 : AF := (⟨_, rfl⟩ : {x : AF // kF tb Try.f13 1 61 = some x}).1
theorem t13 : FnAt Try.prog 13 a13 := .mk Try.func13 (by kernel_rfl) (by kernel_rfl)
def a14 : AF := (⟨_, rfl⟩ : {x : AF // kF tb Try.f14 2 13 = some x}).1
theorem t14 : FnAt Try.prog 14 a14 := .mk Try.func14 (by kernel_rfl) (by kernel_rfl)
def a15 : AF := (⟨_, rfl⟩ : {x : AF // kF tb Try.f15 2 63 = some x}).1
theorem t15 : FnAt Try.prog 15 a15 := .mk Try.func15 (by kernel_rfl) (by kernel_rfl)
def a16 : AF := (⟨_, rfl⟩ : {x : AF // kF tb Try.f16 2 22 = some x}).1
theorem t16 : FnAt Try.prog 16 a16 := .mk Try.func16 (by kernel_rfl) (by kernel_rfl)
def a17 : AF := (⟨_, rfl⟩ : {x : AF // kF tb Try.f17 2 50 = some x}).1
theorem t17 : FnAt Try.prog 17 a17 := .mk Try.func17 (by kernel_rfl) (by kernel_rfl)
def a18 : AF := (⟨_, rfl⟩ : {x : AF // kF tb Try.f18 2 19 = some x}).1
theorem t18 : FnAt Try.prog 18 a18 := .mk Try.func18 (by kernel_rfl) (by kernel_rfl)
def a19 : AF := (⟨_, rfl⟩ : {x : AF // kF tb Try.f19 2 34 = some x}).1
theorem t19 : FnAt Try.prog 19 a19 := .mk Try.func19 (by kernel_rfl) (by kernel_rfl)
def a20 : AF := (⟨_, rfl⟩ : {x : AF // kF tb Try.f20 1 11 = some x}).1
theorem t20 : FnAt Try.prog 20 a20 := .mk Try.func20 (by kernel_rfl) (by kernel_rfl)
def a21 : AF := (⟨_, rfl⟩ : {x : AF // kF tb Try.f21 4 134 = some x}).1
theorem t21 : FnAt Try.prog 21 a21 := .mk Try.func21 (by kernel_rfl) (by kernel_rfl)
def a22 : AF := (⟨_, rfl⟩ : {x : AF // kF tb Try.f22 1 8 = some x}).1
theorem t22 : FnAt Try.prog 22 a22 := .mk Try.func22 (by kernel_rfl) (by kernel_rfl)
def a23 : AF := (⟨_, rfl⟩ : {x : AF // kF tb Try.f23 3 49 = some x}).1
theorem t23 : FnAt Try.prog 23 a23 := .mk Try.func23 (by kernel_rfl) (by kernel_rfl)
def a24 : AF := (⟨_, rfl⟩ : {x : AF // kF tb Try.f24 3 56 = some x}).1
theorem t24 : FnAt Try.prog 24 a24 := .mk Try.func24 (by kernel_rfl) (by kernel_rfl)
def a25 : AF := (⟨_, rfl⟩ : {x : AF // kF tb Try.f25 3 65 = some x}).1
theorem t25 : FnAt Try.prog 25 a25 := .mk Try.func25 (by kernel_rfl) (by kernel_rfl)
def a26 : AF := (⟨_, rfl⟩ : {x : AF // kF tb Try.f26 3 57 = some x}).1
theorem t26 : FnAt Try.prog 26 a26 := .mk Try.func26 (by kernel_rfl) (by kernel_rfl)
def a27 : AF := (⟨_, rfl⟩ : {x : AF // kF tb Try.f27 3 32 = some x}).1
theorem t27 : FnAt Try.prog 27 a27 := .mk Try.func27 (by kernel_rfl) (by kernel_rfl)
def a28 : AF := (⟨_, rfl⟩ : {x : AF // kF tb Try.f28 3 133 = some x}).1
theorem t28 : FnAt Try.prog 28 a28 := .mk Try.func28 (by kernel_rfl) (by kernel_rfl)
def a29 : AF := (⟨_, rfl⟩ : {x : AF // kF tb Try.f29 2 17 = some x}).1
theorem t29 : FnAt Try.prog 29 a29 := .mk Try.func29 (by kernel_rfl) (by kernel_rfl)
def a30 : AF := (⟨_, rfl⟩ : {x : AF // kF tb Try.f30 4 84 = some x}).1
theorem t30 : FnAt Try.prog 30 a30 := .mk Try.func30 (by kernel_rfl) (by kernel_rfl)
def a31 : AF := (⟨_, rfl⟩ : {x : AF // kF tb Try.f31 4 168 = some x}).1
theorem t31 : FnAt Try.prog 31 a31 := .mk Try.func31 (by kernel_rfl) (by kernel_rfl)
def a32 : AF := (⟨_, rfl⟩ : {x : AF // kF tb Try.f32 1 19 = some x}).1
theorem t32 : FnAt Try.prog 32 a32 := .mk Try.func32 (by kernel_rfl) (by kernel_rfl)
def a33 : AF := (⟨_, rfl⟩ : {x : AF // kF tb Try.f33 1 25 = some x}).1
theorem t33 : FnAt Try.prog 33 a33 := .mk Try.func33 (by kernel_rfl) (by kernel_rfl)
def a34 : AF := (⟨_, rfl⟩ : {x : AF // kF tb Try.f34 4 76 = some x}).1
theorem t34 : FnAt Try.prog 34 a34 := .mk Try.func34 (by kernel_rfl) (by kernel_rfl)
def a35 : AF := (⟨_, rfl⟩ : {x : AF // kF tb Try.f35 1 7 = some x}).1
theorem t35 : FnAt Try.prog 35 a35 := .mk Try.func35 (by kernel_rfl) (by kernel_rfl)
def a36 : AF := (⟨_, rfl⟩ : {x : AF // kF tb Try.f36 1 33 = some x}).1
theorem t36 : FnAt Try.prog 36 a36 := .mk Try.func36 (by kernel_rfl) (by kernel_rfl)
def a37 : AF := (⟨_, rfl⟩ : {x : AF // kF tb Try.f37 3 15 = some x}).1
theorem t37 : FnAt Try.prog 37 a37 := .mk Try.func37 (by kernel_rfl) (by kernel_rfl)
def a38 : AF := (⟨_, rfl⟩ : {x : AF // kF tb Try.f38 5 36 = some x}).1
theorem t38 : FnAt Try.prog 38 a38 := .mk Try.func38 (by kernel_rfl) (by kernel_rfl)
def a39 : AF := (⟨_, rfl⟩ : {x : AF // kF tb Try.f39 1 6 = some x}).1
theorem t39 : FnAt Try.prog 39 a39 := .mk Try.func39 (by kernel_rfl) (by kernel_rfl)
def a40 : AF := (⟨_, rfl⟩ : {x : AF // kF tb Try.f40 4 28 = some x}).1
theorem t40 : FnAt Try.prog 40 a40 := .mk Try.func40 (by kernel_rfl) (by kernel_rfl)
end Go.Proofs.Ytkahpdbmgmiaiaa
