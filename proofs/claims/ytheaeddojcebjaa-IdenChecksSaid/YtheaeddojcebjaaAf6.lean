/-
  The functions of the program in the small language, reckoned, and that they are so told.
-/
import Derived.Test.YtheaeddojcebjaaAf
import Derived.Test.YtheaeddojcebjaaProg
set_option linter.unusedVariables false
set_option maxRecDepth 100000
set_option maxHeartbeats 4000000
namespace Go.Proofs.Ytheaeddojcebjaa
open Go.RowKit

def a3 : AF := (⟨_, rfl⟩ : {x : AF // kF tb Try.f3 2 92 = some x}).1
theorem t3 : FnAt Try.prog 3 a3 := .mk Try.func3 (by kernel_rfl) (by kernel_rfl)
def a4 : AF := (⟨_, rfl⟩ : {x : AF // kF tb Try.f4 2 76 = some x}).1
theorem t4 : FnAt Try.prog 4 a4 := .mk Try.func4 (by kernel_rfl) (by kernel_rfl)
def a5 : AF := (⟨_, rfl⟩ : {x : AF // kF tb Try.f5 4 93 = some x}).1
theorem t5 : FnAt Try.prog 5 a5 := .mk Try.func5 (by kernel_rfl) (by kernel_rfl)
def a8 : AF := (⟨_, rfl⟩ : {x : AF // kF tb Try.f8 4 72 = some x}).1
theorem t8 : FnAt Try.prog 8 a8 := .mk Try.func8 (by kernel_rfl) (by kernel_rfl)
def a14 : AF := (⟨_, rfl⟩ : {x : AF // kF tb Try.f14 1 77 = some x}).1
theorem t14 : FnAt Try.prog 14 a14 := .mk Try.func14 (by kernel_rfl) (by kernel_rfl)
def a15 : AF := (⟨_, rfl⟩ : {x : AF // kF tb Try.f15 4 85 = some x}).1
theorem t15 : FnAt Try.prog 15 a15 := .mk Try.func15 (by kernel_rfl) (by kernel_rfl)
def a16 : AF := (⟨_, rfl⟩ : {x : AF // kF tb Try.f16 7 134 = some x}).1
theorem t16 : FnAt Try.prog 16 a16 := .mk Try.func16 (by kernel_rfl) (by kernel_rfl)
def a17 : AF := (⟨_, rfl⟩ : {x : AF // kF tb Try.f17 3 131 = some x}).1
theorem t17 : FnAt Try.prog 17 a17 := .mk Try.func17 (by kernel_rfl) (by kernel_rfl)
def a18 : AF := (⟨_, rfl⟩ : {x : AF // kF tb Try.f18 3 82 = some x}).1
theorem t18 : FnAt Try.prog 18 a18 := .mk Try.func18 (by kernel_rfl) (by kernel_rfl)
def a19 : AF := (⟨_, rfl⟩ : {x : AF // kF tb Try.f19 3 95 = some x}).1
theorem t19 : FnAt Try.prog 19 a19 := .mk Try.func19 (by kernel_rfl) (by kernel_rfl)
def a20 : AF := (⟨_, rfl⟩ : {x : AF // kF tb Try.f20 0 37 = some x}).1
theorem t20 : FnAt Try.prog 20 a20 := .mk Try.func20 (by kernel_rfl) (by kernel_rfl)
def a21 : AF := (⟨_, rfl⟩ : {x : AF // kF tb Try.f21 1 71 = some x}).1
theorem t21 : FnAt Try.prog 21 a21 := .mk Try.func21 (by kernel_rfl) (by kernel_rfl)
def a23 : AF := (⟨_, rfl⟩ : {x : AF // kF tb Try.f23 3 80 = some x}).1
theorem t23 : FnAt Try.prog 23 a23 := .mk Try.func23 (by kernel_rfl) (by kernel_rfl)
def a24 : AF := (⟨_, rfl⟩ : {x : AF // kF tb Try.f24 2 26 = some x}).1
theorem t24 : FnAt Try.prog 24 a24 := .mk Try.func24 (by kernel_rfl) (by kernel_rfl)
def a25 : AF := (⟨_, rfl⟩ : {x : AF // kF tb Try.f25 1 24 = some x}).1
theorem t25 : FnAt Try.prog 25 a25 := .mk Try.func25 (by kernel_rfl) (by kernel_rfl)
def a26 : AF := (⟨_, rfl⟩ : {x : AF // kF tb Try.f26 1 28 = some x}).1
theorem t26 : FnAt Try.prog 26 a26 := .mk Try.func26 (by kernel_rfl) (by kernel_rfl)
def a27 : AF := (⟨_, rfl⟩ : {x : AF // kF tb Try.f27 1 58 = some x}).1
theorem t27 : FnAt Try.prog 27 a27 := .mk Try.func27 (by kernel_rfl) (by kernel_rfl)
def a28 : AF := (⟨_, rfl⟩ : {x : AF // kF tb Try.f28 1 67 = some x}).1
theorem t28 : FnAt Try.prog 28 a28 := .mk Try.func28 (by kernel_rfl) (by kernel_rfl)
def a29 : AF := (⟨_, rfl⟩ : {x : AF // kF tb Try.f29 2 52 = some x}).1
theorem t29 : FnAt Try.prog 29 a29 := .mk Try.func29 (by kernel_rfl) (by kernel_rfl)
def a30 : AF := (⟨_, rfl⟩ : {x : AF // kF tb Try.f30 1 24 = some x}).1
theorem t30 : FnAt Try.prog 30 a30 := .mk Try.func30 (by kernel_rfl) (by kernel_rfl)
def a31 : AF := (⟨_, rfl⟩ : {x : AF // kF tb Try.f31 1 30 = some x}).1
theorem t31 : FnAt Try.prog 31 a31 := .mk Try.func31 (by kernel_rfl) (by kernel_rfl)
def a41 : AF := (⟨_, rfl⟩ : {x : AF // kF tb Try.f41 3 121 = some x}).1
theorem t41 : FnAt Try.prog 41 a41 := .mk Try.func41 (by kernel_rfl) (by kernel_rfl)
def a42 : AF := (⟨_, rfl⟩ : {x : AF // kF tb Try.f42 2 120 = some x}).1
theorem t42 : FnAt Try.prog 42 a42 := .mk Try.func42 (by kernel_rfl) (by kernel_rfl)
def a43 : AF := (⟨_, rfl⟩ : {x : AF // kF tb Try.f43 1 143 = some x}).1
theorem t43 : FnAt Try.prog 43 a43 := .mk Try.func43 (by kernel_rfl) (by kernel_rfl)
def a51 : AF := (⟨_, rfl⟩ : {x : AF // kF tb Try.f51 1 35 = some x}).1
theorem t51 : FnAt Try.prog 51 a51 := .mk Try.func51 (by kernel_rfl) (by kernel_rfl)
def a52 : AF := (⟨_, rfl⟩ : {x : AF // kF tb Try.f52 0 56 = some x}).1
theorem t52 : FnAt Try.prog 52 a52 := .mk Try.func52 (by kernel_rfl) (by kernel_rfl)
def a55 : AF := (⟨_, rfl⟩ : {x : AF // kF tb Try.f55 1 149 = some x}).1
theorem t55 : FnAt Try.prog 55 a55 := .mk Try.func55 (by kernel_rfl) (by kernel_rfl)
def a56 : AF := (⟨_, rfl⟩ : {x : AF // kF tb Try.f56 1 102 = some x}).1
theorem t56 : FnAt Try.prog 56 a56 := .mk Try.func56 (by kernel_rfl) (by kernel_rfl)
def a57 : AF := (⟨_, rfl⟩ : {x : AF // kF tb Try.f57 1 91 = some x}).1
theorem t57 : FnAt Try.prog 57 a57 := .mk Try.func57 (by kernel_rfl) (by kernel_rfl)
def a60 : AF := (⟨_, rfl⟩ : {x : AF // kF tb Try.f60 2 77 = some x}).1
theorem t60 : FnAt Try.prog 60 a60 := .mk Try.func60 (by kernel_rfl) (by kernel_rfl)
def a61 : AF := (⟨_, rfl⟩ : {x : AF // kF tb Try.f61 2 53 = some x}).1
theorem t61 : FnAt Try.prog 61 a61 := .mk Try.func61 (by kernel_rfl) (by kernel_rfl)
def a62 : AF := (⟨_, rfl⟩ : {x : AF // kF tb Try.f62 4 70 = some x}).1
theorem t62 : FnAt Try.prog 62 a62 := .mk Try.func62 (by kernel_rfl) (by kernel_rfl)
def a63 : AF := (⟨_, rfl⟩ : {x : AF // kF tb Try.f63 2 8 = some x}).1
theorem t63 : FnAt Try.prog 63 a63 := .mk Try.func63 (by kernel_rfl) (by kernel_rfl)
def a64 : AF := (⟨_, rfl⟩ : {x : AF // kF tb Try.f64 2 47 = some x}).1
theorem t64 : FnAt Try.prog 64 a64 := .mk Try.func64 (by kernel_rfl) (by kernel_rfl)
def a65 : AF := (⟨_, rfl⟩ : {x : AF // kF tb Try.f65 1 23 = some x}).1
theorem t65 : FnAt Try.prog 65 a65 := .mk Try.func65 (by kernel_rfl) (by kernel_rfl)
def a66 : AF := (⟨_, rfl⟩ : {x : AF // kF tb Try.f66 2 94 = some x}).1
theorem t66 : FnAt Try.prog 66 a66 := .mk Try.func66 (by kernel_rfl) (by kernel_rfl)
def a67 : AF := (⟨_, rfl⟩ : {x : AF // kF tb Try.f67 1 41 = some x}).1
theorem t67 : FnAt Try.prog 67 a67 := .mk Try.func67 (by kernel_rfl) (by kernel_rfl)
def a68 : AF := (⟨_, rfl⟩ : {x : AF // kF tb Try.f68 1 39 = some x}).1
theorem t68 : FnAt Try.prog 68 a68 := .mk Try.func68 (by kernel_rfl) (by kernel_rfl)
def a70 : AF := (⟨_, rfl⟩ : {x : AF // kF tb Try.f70 2 8 = some x}).1
theorem t70 : FnAt Try.prog 70 a70 := .mk Try.func70 (by kernel_rfl) (by kernel_rfl)
def a71 : AF := (⟨_, rfl⟩ : {x : AF // kF tb Try.f71 2 9 = some x}).1
theorem t71 : FnAt Try.prog 71 a71 := .mk Try.func71 (by kernel_rfl) (by kernel_rfl)
def a72 : AF := (⟨_, rfl⟩ : {x : AF // kF tb Try.f72 1 8 = some x}).1
theorem t72 : FnAt Try.prog 72 a72 := .mk Try.func72 (by kernel_rfl) (by kernel_rfl)
def a73 : AF := (⟨_, rfl⟩ : {x : AF // kF tb Try.f73 1 5 = some x}).1
theorem t73 : FnAt Try.prog 73 a73 := .mk Try.func73 (by kernel_rfl) (by kernel_rfl)
def a75 : AF := (⟨_, rfl⟩ : {x : AF // kF tb Try.f75 1 7 = some x}).1
theorem t75 : FnAt Try.prog 75 a75 := .mk Try.func75 (by kernel_rfl) (by kernel_rfl)
def a86 : AF := (⟨_, rfl⟩ : {x : AF // kF tb Try.f86 1 4 = some x}).1
theorem t86 : FnAt Try.prog 86 a86 := .mk Try.func86 (by kernel_rfl) (by kernel_rfl)
def a102 : AF := (⟨_, rfl⟩ : {x : AF // kF tb Try.f102 1 10 = some x}).1
theorem t102 : FnAt Try.prog 102 a102 := .mk Try.func102 (by kernel_rfl) (by kernel_rfl)
def a103 : AF := (⟨_, rfl⟩ : {x : AF // kF tb Try.f103 1 9 = some x}).1
theorem t103 : FnAt Try.prog 103 a103 := .mk Try.func103 (by kernel_rfl) (by kernel_rfl)
def a104 : AF := (⟨_, rfl⟩ : {x : AF // kF tb Try.f104 1 35 = some x}).1
theorem t104 : FnAt Try.prog 104 a104 := .mk Try.func104 (by kernel_rfl) (by kernel_rfl)
def a105 : AF := (⟨_, rfl⟩ : {x : AF // kF tb Try.f105 1 69 = some x}).1
theorem t105 : FnAt Try.prog 105 a105 := .mk Try.func105 (by kernel_rfl) (by kernel_rfl)
def a106 : AF := (⟨_, rfl⟩ : {x : AF // kF tb Try.f106 2 12 = some x}).1
theorem t106 : FnAt Try.prog 106 a106 := .mk Try.func106 (by kernel_rfl) (by kernel_rfl)
def a107 : AF := (⟨_, rfl⟩ : {x : AF // kF tb Try.f107 1 27 = some x}).1
theorem t107 : FnAt Try.prog 107 a107 := .mk Try.func107 (by kernel_rfl) (by kernel_rfl)
def a108 : AF := (⟨_, rfl⟩ : {x : AF // kF tb Try.f108 1 131 = some x}).1
theorem t108 : FnAt Try.prog 108 a108 := .mk Try.func108 (by kernel_rfl) (by kernel_rfl)
def a111 : AF := (⟨_, rfl⟩ : {x : AF // kF tb Try.f111 1 62 = some x}).1
theorem t111 : FnAt Try.prog 111 a111 := .mk Try.func111 (by kernel_rfl) (by kernel_rfl)
def a112 : AF := (⟨_, rfl⟩ : {x : AF // kF tb Try.f112 3 72 = some x}).1
theorem t112 : FnAt Try.prog 112 a112 := .mk Try.func112 (by kernel_rfl) (by kernel_rfl)
def a113 : AF := (⟨_, rfl⟩ : {x : AF // kF tb Try.f113 2 150 = some x}).1
theorem t113 : FnAt Try.prog 113 a113 := .mk Try.func113 (by kernel_rfl) (by kernel_rfl)
def a114 : AF := (⟨_, rfl⟩ : {x : AF // kF tb Try.f114 2 31 = some x}).1
theorem t114 : FnAt Try.prog 114 a114 := .mk Try.func114 (by kernel_rfl) (by kernel_rfl)
def a115 : AF := (⟨_, rfl⟩ : {x : AF // kF tb Try.f115 1 19 = some x}).1
theorem t115 : FnAt Try.prog 115 a115 := .mk Try.func115 (by kernel_rfl) (by kernel_rfl)
def a116 : AF := (⟨_, rfl⟩ : {x : AF // kF tb Try.f116 1 28 = some x}).1
theorem t116 : FnAt Try.prog 116 a116 := .mk Try.func116 (by kernel_rfl) (by kernel_rfl)
def a117 : AF := (⟨_, rfl⟩ : {x : AF // kF tb Try.f117 2 78 = some x}).1
theorem t117 : FnAt Try.prog 117 a117 := .mk Try.func117 (by kernel_rfl) (by kernel_rfl)
def a118 : AF := (⟨_, rfl⟩ : {x : AF // kF tb Try.f118 2 17 = some x}).1
theorem t118 : FnAt Try.prog 118 a118 := .mk Try.func118 (by kernel_rfl) (by kernel_rfl)
def a119 : AF := (⟨_, rfl⟩ : {x : AF // kF tb Try.f119 2 39 = some x}).1
theorem t119 : FnAt Try.prog 119 a119 := .mk Try.func119 (by kernel_rfl) (by kernel_rfl)
def a121 : AF := (⟨_, rfl⟩ : {x : AF // kF tb Try.f121 2 19 = some x}).1
theorem t121 : FnAt Try.prog 121 a121 := .mk Try.func121 (by kernel_rfl) (by kernel_rfl)
def a122 : AF := (⟨_, rfl⟩ : {x : AF // kF tb Try.f122 2 8 = some x}).1
theorem t122 : FnAt Try.prog 122 a122 := .mk Try.func122 (by kernel_rfl) (by kernel_rfl)
def a123 : AF := (⟨_, rfl⟩ : {x : AF // kF tb Try.f123 2 42 = some x}).1
theorem t123 : FnAt Try.prog 123 a123 := .mk Try.func123 (by kernel_rfl) (by kernel_rfl)
def a124 : AF := (⟨_, rfl⟩ : {x : AF // kF tb Try.f124 2 9 = some x}).1
theorem t124 : FnAt Try.prog 124 a124 := .mk Try.func124 (by kernel_rfl) (by kernel_rfl)
def a137 : AF := (⟨_, rfl⟩ : {x : AF // kF tb Try.f137 2 22 = some x}).1
theorem t137 : FnAt Try.prog 137 a137 := .mk Try.func137 (by kernel_rfl) (by kernel_rfl)
def a138 : AF := (⟨_, rfl⟩ : {x : AF // kF tb Try.f138 1 28 = some x}).1
theorem t138 : FnAt Try.prog 138 a138 := .mk Try.func138 (by kernel_rfl) (by kernel_rfl)
def a139 : AF := (⟨_, rfl⟩ : {x : AF // kF tb Try.f139 1 12 = some x}).1
theorem t139 : FnAt Try.prog 139 a139 := .mk Try.func139 (by kernel_rfl) (by kernel_rfl)
def a140 : AF := (⟨_, rfl⟩ : {x : AF // kF tb Try.f140 1 16 = some x}).1
theorem t140 : FnAt Try.prog 140 a140 := .mk Try.func140 (by kernel_rfl) (by kernel_rfl)
def a141 : AF := (⟨_, rfl⟩ : {x : AF // kF tb Try.f141 2 65 = some x}).1
theorem t141 : FnAt Try.prog 141 a141 := .mk Try.func141 (by kernel_rfl) (by kernel_rfl)
def a142 : AF := (⟨_, rfl⟩ : {x : AF // kF tb Try.f142 1 114 = some x}).1
theorem t142 : FnAt Try.prog 142 a142 := .mk Try.func142 (by kernel_rfl) (by kernel_rfl)
def a143 : AF := (⟨_, rfl⟩ : {x : AF // kF tb Try.f143 2 42 = some x}).1
theorem t143 : FnAt Try.prog 143 a143 := .mk Try.func143 (by kernel_rfl) (by kernel_rfl)
def a144 : AF := (⟨_, rfl⟩ : {x : AF // kF tb Try.f144 1 17 = some x}).1
theorem t144 : FnAt Try.prog 144 a144 := .mk Try.func144 (by kernel_rfl) (by kernel_rfl)
def a145 : AF := (⟨_, rfl⟩ : {x : AF // kF tb Try.f145 2 29 = some x}).1
theorem t145 : FnAt Try.prog 145 a145 := .mk Try.func145 (by kernel_rfl) (by kernel_rfl)
def a146 : AF := (⟨_, rfl⟩ : {x : AF // kF tb Try.f146 2 21 = some x}).1
theorem t146 : FnAt Try.prog 146 a146 := .mk Try.func146 (by kernel_rfl) (by kernel_rfl)
def a150 : AF := (⟨_, rfl⟩ : {x : AF // kF tb Try.f150 1 13 = some x}).1
theorem t150 : FnAt Try.prog 150 a150 := .mk Try.func150 (by kernel_rfl) (by kernel_rfl)
def a151 : AF := (⟨_, rfl⟩ : {x : AF // kF tb Try.f151 2 32 = some x}).1
theorem t151 : FnAt Try.prog 151 a151 := .mk Try.func151 (by kernel_rfl) (by kernel_rfl)
def a152 : AF := (⟨_, rfl⟩ : {x : AF // kF tb Try.f152 2 15 = some x}).1
theorem t152 : FnAt Try.prog 152 a152 := .mk Try.func152 (by kernel_rfl) (by kernel_rfl)
def a153 : AF := (⟨_, rfl⟩ : {x : AF // kF tb Try.f153 2 24 = some x}).1
theorem t153 : FnAt Try.prog 153 a153 := .mk Try.func153 (by kernel_rfl) (by kernel_rfl)
end Go.Proofs.Ytheaeddojcebjaa
