/-
  Functions of the program, written out in the small language, and that they are so told.
-/
import Derived.Test.YtheaeddojcebjaaKA
import Derived.Test.YtheaeddojcebjaaProg
set_option linter.unusedVariables false
namespace Go.Proofs.Ytheaeddojcebjaa
open Go.RowKit
open Ab

/-- busbar/busbarlaw7.IdenWalks -/
def a3 : AF := ⟨2, 92, (.seq (.region [a 4 (.mv (bo false))] none)
 (.seq (.seq (.region [a 14 (.call 20 []),
   a 15 (.un .not (t 14))] none)
 (.cond (t 15)
  (.seq (.region [a 4 (.mv (bo false))] none)
  .ret)
  .skip))
 (.seq (.region [a 16 (.mv (t 0)),
   a 17 (.call 21 [(t 16)]),
   a 5 (.mv (t 17))] none)
 (.seq (.region [a 18 (.mv (t 1)),
   a 19 (.call 22 [(t 18), (i 3)]),
   a 20 (.bin .add (i 1) (t 19)),
   a 1 (.mv (t 20))] none)
 (.seq (.region [a 21 (.build [(.t (.int .i64 0)), (.t (.int .i64 0)), (.t (.int .i64 0)), (.t (.int .i64 0))] [(0, 1, (i 0)), (1, 1, (i 2)), (2, 1, (i 127)), (3, 1, (i 255))]),
   a 22 (.mv (t 1)),
   a 23 (.index 1 4 none (t 21) (t 22)),
   a 6 (.mv (t 23))] none)
 (.seq (.region [a 7 (.mv (.k (.c (.t .nil))))] none)
 (.seq (.region [a 8 (.mv (i 0))] none)
 (.seq (.seq (.region [a 9 (.mv (i 0))] none)
 (.block 0 (.loop
  (.seq (.seq (.region [a 24 (.mv (t 9)),
    a 25 (.mv (t 5)),
    a 26 (.len false (t 25)),
    a 27 (.bin .leq (t 24) (t 26))] none)
  (.cond (t 27)
   .skip
   (.exit 0)))
  (.seq (.block 1 (.seq (.region [a 31 (.mv (t 5)),
    a 32 (.mv (t 1)),
    a 33 (.mv (t 8)),
    a 34 (.call 23 [(t 31), (t 32), (t 33)]),
    a 30 (.mv (t 34)),
    a 35 (.extract (t 30) 0),
    a 36 (.extract (t 30) 1),
    a 10 (.alloc [(.t (.int .i64 0)), (.t (.int .i64 0)), (.t .nil), (.t .nil), (.t (.int .i64 0)), (.t (.int .i64 0)), (.t (.int .u16 0)), (.t (.int .u16 0)), (.t (.int .u16 0)), (.t (.int .i64 0)), (.t (.int .i64 0)), (.t (.bool false)), (.t (.int .i64 0)), (.t .nil)]),
    a_ (.store 14 (t 10) (t 35)),
    a 11 (.mv (t 36))] none)
  (.seq (.seq (.region [a 37 (.mv (t 11)),
    a 38 (.bin .neq (t 37) (i 0)),
    a 39 (.mv (t 38)),
    g 40 39 false (.fieldAddr 13 (t 10)),
    g 41 39 false (.load none (t 40)),
    g 42 39 false (.len false (t 41)),
    g 43 39 false (.bin .eql (t 42) (i 0)),
    a 44 (.pick (t 39) (bo true) (t 43)),
    a 45 (.mv (t 44)),
    g 46 45 false (.fieldAddr 9 (t 10)),
    g 47 45 false (.load none (t 46)),
    g 48 45 false (.mv (t 1)),
    g 49 45 false (.bin .neq (t 47) (t 48)),
    a 50 (.pick (t 45) (bo true) (t 49)),
    a 51 (.mv (t 50)),
    g 52 51 false (.fieldAddr 0 (t 10)),
    g 53 51 false (.load none (t 52)),
    g 54 51 false (.bin .neq (t 53) (i 43)),
    a 55 (.pick (t 51) (bo true) (t 54))] none)
  (.cond (t 55)
   (.seq (.region [a 4 (.mv (bo false))] none)
   .ret)
   .skip))
  (.seq (.region [a 56 (.mv (t 7)),
    a 57 (.fieldAddr 13 (t 10)),
    a 58 (.load none (t 57)),
    a 59 (.append 2 24 [(.int .i64 0), (.str ⟨#[]⟩)] (t 56) (t 58)),
    a 7 (.mv (t 59))] none)
  (.seq (.seq (.region [a 60 (.fieldAddr 11 (t 10)),
    a 61 (.load none (t 60)),
    a 62 (.un .not (t 61))] none)
  (.cond (t 62)
   (.seq (.region [a 8 (.mv (i (-1)))] none)
   (.exit 0))
   .skip))
  (.region [a 63 (.fieldAddr 12 (t 10)),
    a 64 (.load none (t 63)),
    a 8 (.mv (t 64))] none))))))
  (.region [a 28 (.mv (t 9)),
    a 29 (.bin .add (t 28) (i 1)),
    a 9 (.mv (t 29))] none))))))
 (.seq (.region [a 12 (.mv (.k (.c (.t .nil))))] none)
 (.seq (.seq (.region [a 13 (.mv (i 0))] none)
 (.block 2 (.loop
  (.seq (.seq (.region [a 65 (.mv (t 13)),
    a 66 (.mv (t 5)),
    a 67 (.len false (t 66)),
    a 68 (.bin .lss (t 65) (t 67))] none)
  (.cond (t 68)
   .skip
   (.exit 2)))
  (.seq (.block 3 (.seq (.region [a 71 (.mv (t 5)),
    a 72 (.mv (t 13)),
    a 73 (.idxAddr 2 (t 71) (t 72)),
    a 74 (.fieldAddr 0 (t 73)),
    a 75 (.load none (t 74)),
    a 76 (.mv (t 6)),
    a 77 (.bin .leq (t 75) (t 76))] none)
  (.cond (t 77)
   (.region [a 78 (.mv (t 12)),
     a 79 (.mv (t 5)),
     a 80 (.mv (t 13)),
     a 81 (.idxAddr 2 (t 79) (t 80)),
     a 82 (.load (some 2) (t 81)),
     a 83 (.mkList false 2 1 [(.int .i64 0), (.str ⟨#[]⟩)] [(0, (t 82))]),
     a 84 (.append 2 24 [(.int .i64 0), (.str ⟨#[]⟩)] (t 78) (t 83)),
     a 12 (.mv (t 84))] none)
   .skip)))
  (.region [a 69 (.mv (t 13)),
    a 70 (.bin .add (t 69) (i 1)),
    a 13 (.mv (t 70))] none))))))
 (.seq (.region [a 85 (.mv (t 8)),
   a 86 (.bin .eql (t 85) (i (-1))),
   a 87 (.mv (t 86)),
   g 88 87 true (.mv (t 7)),
   g 89 87 true (.mv (t 12)),
   g 90 87 true (.call 24 [(t 88), (t 89)]),
   a 91 (.pick (t 87) (t 90) (bo false)),
   a 4 (.mv (t 91))] none)
 .ret))))))))))), [.tmp 4]⟩
theorem t3 : FnAt Try.prog 3 a3 := .mk Try.func3 (by kernel_rfl) (by kernel_rfl)
/-- busbar/busbarlaw7.IdenAlone -/
def a4 : AF := ⟨2, 76, (.seq (.region [a 4 (.mv (bo false))] none)
 (.seq (.seq (.region [a 9 (.call 20 []),
   a 10 (.un .not (t 9))] none)
 (.cond (t 10)
  (.seq (.region [a 4 (.mv (bo false))] none)
  .ret)
  .skip))
 (.seq (.region [a 11 (.mv (t 0)),
   a 12 (.call 21 [(t 11)]),
   a 5 (.mv (t 12))] none)
 (.seq (.region [a 13 (.mv (t 1)),
   a 14 (.call 22 [(t 13), (i 256)]),
   a 1 (.mv (t 14))] none)
 (.seq (.region [a 16 (.mv (t 5)),
   a 17 (.mv (t 1)),
   a 18 (.call 23 [(t 16), (i 4), (t 17)]),
   a 15 (.mv (t 18)),
   a 19 (.extract (t 15) 0),
   a 20 (.extract (t 15) 1),
   a 6 (.alloc [(.t (.int .i64 0)), (.t (.int .i64 0)), (.t .nil), (.t .nil), (.t (.int .i64 0)), (.t (.int .i64 0)), (.t (.int .u16 0)), (.t (.int .u16 0)), (.t (.int .u16 0)), (.t (.int .i64 0)), (.t (.int .i64 0)), (.t (.bool false)), (.t (.int .i64 0)), (.t .nil)]),
   a_ (.store 14 (t 6) (t 19)),
   a 7 (.mv (t 20))] none)
 (.seq (.seq (.region [a 8 (.mv (i 0))] none)
 (.block 0 (.loop
  (.seq (.seq (.region [a 21 (.mv (t 8)),
    a 22 (.mv (t 5)),
    a 23 (.len false (t 22)),
    a 24 (.bin .lss (t 21) (t 23))] none)
  (.cond (t 24)
   .skip
   (.exit 0)))
  (.seq (.block 1 (.seq (.region [a 27 (.mv (t 5)),
    a 28 (.mv (t 8)),
    a 29 (.idxAddr 2 (t 27) (t 28)),
    a 30 (.fieldAddr 0 (t 29)),
    a 31 (.load none (t 30)),
    a 32 (.mv (t 1)),
    a 33 (.bin .eql (t 31) (t 32))] none)
  (.cond (t 33)
   (.seq (.region [a 34 (.mv (t 7)),
     a 35 (.bin .eql (t 34) (i 0)),
     a 36 (.mv (t 35)),
     g 37 36 true (.fieldAddr 13 (t 6)),
     g 38 36 true (.load none (t 37)),
     g 39 36 true (.len false (t 38)),
     g 40 36 true (.bin .eql (t 39) (i 1)),
     a 41 (.pick (t 36) (t 40) (bo false)),
     a 42 (.mv (t 41)),
     g 43 42 true (.fieldAddr 13 (t 6)),
     g 44 42 true (.load none (t 43)),
     g 45 42 true (.idxAddr 2 (t 44) (i 0)),
     g 46 42 true (.load (some 2) (t 45)),
     g 47 42 true (.mv (t 5)),
     g 48 42 true (.mv (t 8)),
     g 49 42 true (.idxAddr 2 (t 47) (t 48)),
     g 50 42 true (.load (some 2) (t 49)),
     g 51 42 true (.eqAgg false [.int, .str] (t 46) (t 50)),
     a 52 (.pick (t 42) (t 51) (bo false)),
     a 53 (.mv (t 52)),
     g 54 53 true (.fieldAddr 11 (t 6)),
     g 55 53 true (.load none (t 54)),
     g 56 53 true (.un .not (t 55)),
     a 57 (.pick (t 53) (t 56) (bo false)),
     a 58 (.mv (t 57)),
     g 59 58 true (.fieldAddr 12 (t 6)),
     g 60 58 true (.load none (t 59)),
     g 61 58 true (.bin .eql (t 60) (i 0)),
     a 62 (.pick (t 58) (t 61) (bo false)),
     a 63 (.mv (t 62)),
     g 64 63 true (.fieldAddr 9 (t 6)),
     g 65 63 true (.load none (t 64)),
     g 66 63 true (.bin .eql (t 65) (i 4)),
     a 67 (.pick (t 63) (t 66) (bo false)),
     a 4 (.mv (t 67))] (some [[], [0], [1, 0], [2, 1, 0], [3, 2, 2, 1, 0], [4, 2, 3, 2, 2, 1, 0], [5, 2, 4, 2, 3, 2, 2, 1, 0], [2, 6, 5, 2, 4, 2, 3, 2, 2, 1, 0], [7, 2, 2, 6, 5, 2, 4, 2, 3, 2, 2, 1, 0], [8, 7, 2, 2, 6, 5, 2, 4, 2, 3, 2, 2, 1, 0], [9, 8, 8, 7, 2, 2, 6, 5, 2, 4, 2, 3, 2, 2, 1, 0], [10, 8, 9, 8, 8, 7, 2, 2, 6, 5, 2, 4, 2, 3, 2, 2, 1, 0], [11, 8, 10, 8, 9, 8, 8, 7, 2, 2, 6, 5, 2, 4, 2, 3, 2, 2, 1, 0], [8, 7, 2, 2, 6, 5, 2, 4, 2, 3, 2, 2, 1, 0], [8, 7, 2, 2, 6, 5, 2, 4, 2, 3, 2, 2, 1, 0], [13, 14, 8, 8, 8, 7, 2, 2, 6, 5, 2, 4, 2, 3, 2, 2, 1, 0], [15, 8, 13, 14, 8, 8, 8, 7, 2, 2, 6, 5, 2, 4, 2, 3, 2, 2, 1, 0], [12, 16, 8, 15, 8, 13, 14, 8, 8, 8, 11, 8, 10, 8, 9, 8, 8, 7, 2, 2, 6, 5, 2, 4, 2, 3, 2, 2, 1, 0], [8, 17, 12, 16, 8, 15, 8, 13, 14, 8, 8, 8, 11, 8, 10, 8, 9, 8, 8, 7, 2, 2, 6, 5, 2, 4, 2, 3, 2, 2, 1, 0], [18, 8, 8, 17, 12, 16, 8, 15, 8, 13, 14, 8, 8, 8, 11, 8, 10, 8, 9, 8, 8, 7, 2, 2, 6, 5, 2, 4, 2, 3, 2, 2, 1, 0], [19, 18, 8, 8, 17, 12, 16, 8, 15, 8, 13, 14, 8, 8, 8, 11, 8, 10, 8, 9, 8, 8, 7, 2, 2, 6, 5, 2, 4, 2, 3, 2, 2, 1, 0], [20, 19, 19, 18, 8, 8, 17, 12, 16, 8, 15, 8, 13, 14, 8, 8, 8, 11, 8, 10, 8, 9, 8, 8, 7, 2, 2, 6, 5, 2, 4, 2, 3, 2, 2, 1, 0], [21, 19, 20, 19, 19, 18, 8, 8, 17, 12, 16, 8, 15, 8, 13, 14, 8, 8, 8, 11, 8, 10, 8, 9, 8, 8, 7, 2, 2, 6, 5, 2, 4, 2, 3, 2, 2, 1, 0], [19, 22, 21, 19, 20, 19, 19, 18, 8, 8, 17, 12, 16, 8, 15, 8, 13, 14, 8, 8, 8, 11, 8, 10, 8, 9, 8, 8, 7, 2, 2, 6, 5, 2, 4, 2, 3, 2, 2, 1, 0], [23, 19, 19, 22, 21, 19, 20, 19, 19, 18, 8, 8, 17, 12, 16, 8, 15, 8, 13, 14, 8, 8, 8, 11, 8, 10, 8, 9, 8, 8, 7, 2, 2, 6, 5, 2, 4, 2, 3, 2, 2, 1, 0], [24, 23, 19, 19, 22, 21, 19, 20, 19, 19, 18, 8, 8, 17, 12, 16, 8, 15, 8, 13, 14, 8, 8, 8, 11, 8, 10, 8, 9, 8, 8, 7, 2, 2, 6, 5, 2, 4, 2, 3, 2, 2, 1, 0], [25, 24, 24, 23, 19, 19, 22, 21, 19, 20, 19, 19, 18, 8, 8, 17, 12, 16, 8, 15, 8, 13, 14, 8, 8, 8, 11, 8, 10, 8, 9, 8, 8, 7, 2, 2, 6, 5, 2, 4, 2, 3, 2, 2, 1, 0], [26, 24, 25, 24, 24, 23, 19, 19, 22, 21, 19, 20, 19, 19, 18, 8, 8, 17, 12, 16, 8, 15, 8, 13, 14, 8, 8, 8, 11, 8, 10, 8, 9, 8, 8, 7, 2, 2, 6, 5, 2, 4, 2, 3, 2, 2, 1, 0], [24, 27, 26, 24, 25, 24, 24, 23, 19, 19, 22, 21, 19, 20, 19, 19, 18, 8, 8, 17, 12, 16, 8, 15, 8, 13, 14, 8, 8, 8, 11, 8, 10, 8, 9, 8, 8, 7, 2, 2, 6, 5, 2, 4, 2, 3, 2, 2, 1, 0], [28, 24, 24, 27, 26, 24, 25, 24, 24, 23, 19, 19, 22, 21, 19, 20, 19, 19, 18, 8, 8, 17, 12, 16, 8, 15, 8, 13, 14, 8, 8, 8, 11, 8, 10, 8, 9, 8, 8, 7, 2, 2, 6, 5, 2, 4, 2, 3, 2, 2, 1, 0], [29, 28, 24, 24, 27, 26, 24, 25, 24, 24, 23, 19, 19, 22, 21, 19, 20, 19, 19, 18, 8, 8, 17, 12, 16, 8, 15, 8, 13, 14, 8, 8, 8, 11, 8, 10, 8, 9, 8, 8, 7, 2, 2, 6, 5, 2, 4, 2, 3, 2, 2, 1, 0], [30, 29, 29, 28, 24, 24, 27, 26, 24, 25, 24, 24, 23, 19, 19, 22, 21, 19, 20, 19, 19, 18, 8, 8, 17, 12, 16, 8, 15, 8, 13, 14, 8, 8, 8, 11, 8, 10, 8, 9, 8, 8, 7, 2, 2, 6, 5, 2, 4, 2, 3, 2, 2, 1, 0], [31, 29, 30, 29, 29, 28, 24, 24, 27, 26, 24, 25, 24, 24, 23, 19, 19, 22, 21, 19, 20, 19, 19, 18, 8, 8, 17, 12, 16, 8, 15, 8, 13, 14, 8, 8, 8, 11, 8, 10, 8, 9, 8, 8, 7, 2, 2, 6, 5, 2, 4, 2, 3, 2, 2, 1, 0], [29, 32, 31, 29, 30, 29, 29, 28, 24, 24, 27, 26, 24, 25, 24, 24, 23, 19, 19, 22, 21, 19, 20, 19, 19, 18, 8, 8, 17, 12, 16, 8, 15, 8, 13, 14, 8, 8, 8, 11, 8, 10, 8, 9, 8, 8, 7, 2, 2, 6, 5, 2, 4, 2, 3, 2, 2, 1, 0], [33, 29, 0, 1, 2, 3, 4, 5, 6, 7, 8, 9, 10, 11, 12, 13, 14, 15, 16, 17, 18, 19, 20, 21, 22, 23, 24, 25, 26, 27, 28, 29, 30, 31, 32, 33, 29, 32, 31, 29, 30, 29, 29, 28, 24, 24, 27, 26, 24, 25, 24, 24, 23, 19, 19, 22, 21, 19, 20, 19, 19, 18, 8, 8, 17, 12, 16, 8, 15, 8, 13, 14, 8, 8, 8, 11, 8, 10, 8, 9, 8, 8, 7, 2, 2, 6, 5, 2, 4, 2, 3, 2, 2, 1, 0]]))
   .ret)
   .skip)))
  (.region [a 25 (.mv (t 8)),
    a 26 (.bin .add (t 25) (i 1)),
    a 8 (.mv (t 26))] none))))))
 (.seq (.region [a 68 (.mv (t 7)),
   a 69 (.bin .eql (t 68) (i 2)),
   a 70 (.mv (t 69)),
   g 71 70 true (.fieldAddr 13 (t 6)),
   g 72 70 true (.load none (t 71)),
   g 73 70 true (.len false (t 72)),
   g 74 70 true (.bin .eql (t 73) (i 0)),
   a 75 (.pick (t 70) (t 74) (bo false)),
   a 4 (.mv (t 75))] none)
 .ret))))))), [.tmp 4]⟩
theorem t4 : FnAt Try.prog 4 a4 := .mk Try.func4 (by kernel_rfl) (by kernel_rfl)
/-- busbar/busbarlaw7.IdenChecks -/
def a5 : AF := ⟨4, 93, (.seq (.region [a 8 (.mv (bo false))] none)
 (.seq (.seq (.region [a 12 (.mv (t 0)),
   a 13 (.call 25 [(t 12)]),
   a 14 (.un .not (t 13)),
   a 15 (.mv (t 14)),
   g 16 15 false (.call 20 []),
   g 17 15 false (.un .not (t 16)),
   a 18 (.pick (t 15) (bo true) (t 17))] none)
 (.cond (t 18)
  (.seq (.region [a 19 (.call 20 []),
    a 8 (.mv (t 19))] none)
  .ret)
  .skip))
 (.seq (.region [a 20 (.mv (t 0)),
   a 21 (.call 26 [(t 20)]),
   a 9 (.mv (t 21))] none)
 (.seq (.seq (.region [a 22 (.mv (t 9)),
   a 23 (.call 27 [(t 22)]),
   a 24 (.mv (t 0)),
   a 25 (.call 28 [(t 24)]),
   a 26 (.bin .neq (t 23) (t 25)),
   a 27 (.mv (t 26)),
   g 28 27 false (.mv (t 9)),
   g 29 27 false (.mv (t 0)),
   g 30 27 false (.call 29 [(t 28), (t 29)]),
   g 31 27 false (.un .not (t 30)),
   a 32 (.pick (t 27) (bo true) (t 31))] none)
 (.cond (t 32)
  (.seq (.region [a 8 (.mv (bo false))] none)
  .ret)
  .skip))
 (.seq (.region [a 33 (.mv (t 1)),
   a 34 (.call 21 [(t 33)]),
   a 10 (.mv (t 34))] none)
 (.seq (.seq (.region [a 35 (.mv (t 10)),
   a 36 (.call 27 [(t 35)]),
   a 37 (.bin .neq (t 36) (i 0)),
   a 38 (.mv (t 37)),
   g 39 38 false (.mv (t 10)),
   g 40 38 false (.call 30 [(t 39)]),
   g 41 38 false (.mv (t 10)),
   g 42 38 false (.call 31 [(t 41)]),
   g 43 38 false (.bin .neq (t 40) (t 42)),
   a 44 (.pick (t 38) (bo true) (t 43))] none)
 (.cond (t 44)
  (.seq (.region [a 8 (.mv (bo false))] none)
  .ret)
  .skip))
 (.seq (.region [a 45 (.mv (t 3)),
   a 46 (.mv (t 10)),
   a 47 (.len false (t 46)),
   a 48 (.call 22 [(t 45), (t 47)]),
   a 11 (.mv (t 48))] none)
 (.seq (.seq (.region [a 49 (.mv (t 2)),
   a 50 (.call 22 [(t 49), (i 4)])] none)
 (.block 0 (.seq (.region [a 52 (.bin .eql (t 50) (i 0)),
   a 51 (.mv (t 52))] none)
 (.cond (t 51)
  (.region [a 53 (.mv (t 10)),
    a 54 (.mv (t 11)),
    a 55 (.mv (t 3)),
    a 56 (.idxAddr 2 (t 53) (t 54)),
    a 57 (.fieldAddr 0 (t 56)),
    a_ (.store 1 (t 57) (t 55))] none)
  (.seq (.region [a 59 (.bin .eql (t 50) (i 1)),
    a 58 (.mv (t 59))] none)
  (.cond (t 58)
   (.region [a 60 (.mv (t 10)),
     a 61 (.mv (t 11)),
     a 62 (.mv (t 3)),
     a 63 (.call 22 [(t 62), (i 9)]),
     a 64 (.bin .add (i 240) (t 63)),
     a 65 (.mkSlice 1 1 [(.int .u8 0)] (t 64) (t 64)),
     a 66 (.bstr (t 65)),
     a 67 (.idxAddr 2 (t 60) (t 61)),
     a 68 (.fieldAddr 1 (t 67)),
     a_ (.store 1 (t 68) (t 66))] none)
   (.seq (.region [a 70 (.bin .eql (t 50) (i 2)),
     a 69 (.mv (t 70))] none)
   (.cond (t 69)
    (.region [a 71 (.mv (t 10)),
      a 72 (.mv (t 11)),
      a 73 (.slice 2 (t 71) none (some (t 72))),
      a 74 (.mv (t 10)),
      a 75 (.mv (t 11)),
      a 76 (.bin .add (t 75) (i 1)),
      a 77 (.slice 2 (t 74) (some (t 76)) none),
      a 78 (.append 2 24 [(.int .i64 0), (.str ⟨#[]⟩)] (t 73) (t 77)),
      a 10 (.mv (t 78))] (some [[], [], [0, 1], [], [], [4], [3, 5, 4], [2, 6, 3, 5, 4, 0, 1], [7, 7, 0, 1, 2, 3, 4, 5, 6, 7, 2, 6, 3, 5, 4, 0, 1]]))
    (.seq (.region [a 80 (.bin .eql (t 50) (i 3)),
      a 79 (.mv (t 80))] none)
    (.cond (t 79)
     (.region [a 81 (.mv (t 10)),
       a 82 (.mv (t 10)),
       a 83 (.mv (t 11)),
       a 84 (.idxAddr 2 (t 82) (t 83)),
       a 85 (.load (some 2) (t 84)),
       a 86 (.mkList false 2 1 [(.int .i64 0), (.str ⟨#[]⟩)] [(0, (t 85))]),
       a 87 (.append 2 24 [(.int .i64 0), (.str ⟨#[]⟩)] (t 81) (t 86)),
       a 10 (.mv (t 87))] none)
     .skip))))))))))
 (.seq (.region [a 88 (.mv (t 10)),
   a 89 (.call 27 [(t 88)]),
   a 90 (.mv (t 10)),
   a 91 (.call 28 [(t 90)]),
   a 92 (.bin .eql (t 89) (t 91)),
   a 8 (.mv (t 92))] none)
 .ret))))))))), [.tmp 8]⟩
theorem t5 : FnAt Try.prog 5 a5 := .mk Try.func5 (by kernel_rfl) (by kernel_rfl)
/-- busbar/busbarlaw7.IdenAnswers -/
def a8 : AF := ⟨4, 72, (.seq (.region [a 8 (.mv (bo false))] none)
 (.seq (.seq (.region [a 17 (.call 20 []),
   a 18 (.un .not (t 17))] none)
 (.cond (t 18)
  (.seq (.region [a 8 (.mv (bo false))] none)
  .ret)
  .skip))
 (.seq (.region [a 19 (.mv (t 0)),
   a 20 (.call 21 [(t 19)]),
   a 9 (.mv (t 20))] none)
 (.seq (.seq (.region [a 21 (.mv (t 3))] none)
 (.cond (t 21)
  (.region [a 22 (.mv (t 1)),
    a 23 (.call 22 [(t 22), (i 6)]),
    a 24 (.mv (t 2)),
    a 25 (.call 22 [(t 24), (i 258)]),
    a 26 (.bin .sub (t 25) (i 1)),
    a 1 (.mv (t 23)),
    a 2 (.mv (t 26))] none)
  .skip))
 (.seq (.region [a 27 (.mv (t 9)),
   a 28 (.call 26 [(t 27)]),
   a 10 (.mv (t 28))] none)
 (.seq (.region [a 30 (.mv (t 10)),
   a 31 (.mv (t 1)),
   a 32 (.mv (t 2)),
   a 33 (.call 23 [(t 30), (t 31), (t 32)]),
   a 29 (.mv (t 33)),
   a 34 (.extract (t 29) 0),
   a 35 (.extract (t 29) 1),
   a 11 (.alloc [(.t (.int .i64 0)), (.t (.int .i64 0)), (.t .nil), (.t .nil), (.t (.int .i64 0)), (.t (.int .i64 0)), (.t (.int .u16 0)), (.t (.int .u16 0)), (.t (.int .u16 0)), (.t (.int .i64 0)), (.t (.int .i64 0)), (.t (.bool false)), (.t (.int .i64 0)), (.t .nil)]),
   a_ (.store 14 (t 11) (t 34)),
   a 12 (.mv (t 35))] none)
 (.seq (.region [a 37 (.mv (t 9)),
   a 38 (.mv (t 1)),
   a 39 (.mv (t 2)),
   a 40 (.call 41 [(t 37), (t 38), (t 39)]),
   a 36 (.mv (t 40)),
   a 41 (.extract (t 36) 0),
   a 42 (.extract (t 36) 1),
   a 13 (.alloc [(.t (.int .i64 0)), (.t (.int .i64 0)), (.t .nil), (.t .nil), (.t (.int .i64 0)), (.t (.int .i64 0)), (.t (.int .u16 0)), (.t (.int .u16 0)), (.t (.int .u16 0)), (.t (.int .i64 0)), (.t (.int .i64 0)), (.t (.bool false)), (.t (.int .i64 0)), (.t .nil)]),
   a_ (.store 14 (t 13) (t 41)),
   a 14 (.mv (t 42))] none)
 (.seq (.seq (.region [a 43 (.mv (t 12)),
   a 44 (.mv (t 14)),
   a 45 (.bin .neq (t 43) (t 44)),
   a 46 (.mv (t 45)),
   g 47 46 false (.load (some 14) (t 11)),
   g 48 46 false (.load (some 14) (t 13)),
   g 49 46 false (.call 42 [(t 47), (t 48)]),
   g 50 46 false (.un .not (t 49)),
   a 51 (.pick (t 46) (bo true) (t 50)),
   a 52 (.mv (t 51)),
   g 53 52 false (.mv (t 10)),
   g 54 52 false (.mv (t 9)),
   g 55 52 false (.call 29 [(t 53), (t 54)]),
   g 56 52 false (.un .not (t 55)),
   a 57 (.pick (t 52) (bo true) (t 56))] none)
 (.cond (t 57)
  (.seq (.region [a 8 (.mv (bo false))] none)
  .ret)
  .skip))
 (.seq (.seq (.region [a 58 (.mv (t 12)),
   a 59 (.bin .neq (t 58) (i 0))] none)
 (.cond (t 59)
  (.seq (.region [a 8 (.mv (bo true))] none)
  .ret)
  .skip))
 (.seq (.region [a 61 (.load (some 14) (t 11)),
   a 62 (.call 43 [(t 61)]),
   a 60 (.mv (t 62)),
   a 63 (.extract (t 60) 0),
   a 64 (.extract (t 60) 1),
   a 15 (.mv (t 63)),
   a 16 (.mv (t 64))] none)
 (.seq (.region [a 65 (.mv (t 16)),
   a 66 (.bin .eql (t 65) (i 0)),
   a 67 (.mv (t 66)),
   g 68 67 true (.mv (t 15)),
   g 69 67 true (.len false (t 68)),
   g 70 67 true (.bin .leq (t 69) (i 253)),
   a 71 (.pick (t 67) (t 70) (bo false)),
   a 8 (.mv (t 71))] none)
 .ret))))))))))), [.tmp 8]⟩
theorem t8 : FnAt Try.prog 8 a8 := .mk Try.func8 (by kernel_rfl) (by kernel_rfl)
/-- busbar/busbarlaw6.TellTells -/
def a14 : AF := ⟨1, 77, (.seq (.region [a 1 (.box (t 0)),
   a 2 (.mv (bo false))] none)
 (.seq (.seq (.region [a 8 (.load (some 14) (t 1)),
   a 9 (.call 51 [(t 8)]),
   a 10 (.un .not (t 9)),
   a 11 (.mv (t 10)),
   g 12 11 false (.call 52 []),
   g 13 11 false (.un .not (t 12)),
   a 14 (.pick (t 11) (bo true) (t 13))] none)
 (.cond (t 14)
  (.seq (.region [a 15 (.call 52 []),
    a 2 (.mv (t 15))] none)
  .ret)
  .skip))
 (.seq (.region [a 16 (.load (some 14) (t 1)),
   a 3 (.alloc [(.t (.int .i64 0)), (.t (.int .i64 0)), (.t .nil), (.t .nil), (.t (.int .i64 0)), (.t (.int .i64 0)), (.t (.int .u16 0)), (.t (.int .u16 0)), (.t (.int .u16 0)), (.t (.int .i64 0)), (.t (.int .i64 0)), (.t (.bool false)), (.t (.int .i64 0)), (.t .nil)]),
   a_ (.store 14 (t 3) (t 16))] none)
 (.seq (.region [a 17 (.fieldAddr 2 (t 1)),
   a 18 (.load none (t 17)),
   a 19 (.call 53 [(t 18)]),
   a 20 (.fieldAddr 3 (t 1)),
   a 21 (.load none (t 20)),
   a 22 (.call 54 [(t 21)]),
   a 23 (.fieldAddr 13 (t 1)),
   a 24 (.load none (t 23)),
   a 25 (.call 26 [(t 24)]),
   a 26 (.fieldAddr 2 (t 3)),
   a_ (.store 1 (t 26) (t 19)),
   a 27 (.fieldAddr 3 (t 3)),
   a_ (.store 1 (t 27) (t 22)),
   a 28 (.fieldAddr 13 (t 3)),
   a_ (.store 1 (t 28) (t 25))] (some [[], [0], [1, 0], [], [3], [4, 2, 3, 1, 0], [], [6], [7, 5, 6, 4, 2, 3, 1, 0], [0, 1, 2, 1, 0], [9, 2, 8, 0, 1, 2, 0, 1, 2, 7, 5, 6, 4, 2, 3, 1, 0], [0, 1, 2, 3, 4, 5, 9, 10, 9, 2, 8, 0, 1, 2, 0, 1, 2, 7, 5, 6, 4, 2, 3, 1, 0], [11, 5, 10, 0, 1, 2, 3, 4, 5, 9, 10, 0, 1, 2, 3, 4, 5, 9, 10, 9, 2, 8, 0, 1, 2, 0, 1, 2, 7, 5, 6, 4, 2, 3, 1, 0], [0, 1, 2, 3, 4, 5, 6, 7, 8, 9, 10, 11, 12, 11, 5, 10, 0, 1, 2, 3, 4, 5, 9, 10, 0, 1, 2, 3, 4, 5, 9, 10, 9, 2, 8, 0, 1, 2, 0, 1, 2, 7, 5, 6, 4, 2, 3, 1, 0], [13, 8, 12, 0, 1, 2, 3, 4, 5, 6, 7, 8, 9, 10, 11, 12, 0, 1, 2, 3, 4, 5, 6, 7, 8, 9, 10, 11, 12, 11, 5, 10, 0, 1, 2, 3, 4, 5, 9, 10, 0, 1, 2, 3, 4, 5, 9, 10, 9, 2, 8, 0, 1, 2, 0, 1, 2, 7, 5, 6, 4, 2, 3, 1, 0]]))
 (.seq (.region [a 30 (.load (some 14) (t 3)),
   a 31 (.call 43 [(t 30)]),
   a 29 (.mv (t 31)),
   a 32 (.extract (t 29) 0),
   a 33 (.extract (t 29) 1),
   a 4 (.mv (t 32)),
   a 5 (.mv (t 33))] none)
 (.seq (.region [a 35 (.load (some 14) (t 1)),
   a 36 (.call 55 [(t 35)]),
   a 34 (.mv (t 36)),
   a 37 (.extract (t 34) 0),
   a 38 (.extract (t 34) 1),
   a 6 (.mv (t 37)),
   a 7 (.mv (t 38))] none)
 (.seq (.region [a 39 (.load (some 14) (t 3)),
   a 40 (.call 56 [(t 39)]),
   a 41 (.load (some 14) (t 1)),
   a 42 (.call 57 [(t 41)]),
   a 43 (.binB false (t 40) (t 42)),
   a 44 (.mv (t 43)),
   g 45 44 true (.mv (t 5)),
   g 46 44 true (.mv (t 7)),
   g 47 44 true (.bin .eql (t 45) (t 46)),
   a 48 (.pick (t 44) (t 47) (bo false)),
   a 49 (.mv (t 48)),
   g 50 49 true (.mv (t 4)),
   g 51 49 true (.bstr (t 50)),
   g 52 49 true (.mv (t 6)),
   g 53 49 true (.bstr (t 52)),
   g 54 49 true (.bin .eql (t 51) (t 53)),
   a 55 (.pick (t 49) (t 54) (bo false)),
   a 56 (.mv (t 55)),
   g 57 56 true (.fieldAddr 2 (t 3)),
   g 58 56 true (.load none (t 57)),
   g 59 56 true (.fieldAddr 2 (t 1)),
   g 60 56 true (.load none (t 59)),
   g 61 56 true (.call 58 [(t 58), (t 60)]),
   a 62 (.pick (t 56) (t 61) (bo false)),
   a 63 (.mv (t 62)),
   g 64 63 true (.fieldAddr 3 (t 3)),
   g 65 63 true (.load none (t 64)),
   g 66 63 true (.fieldAddr 3 (t 1)),
   g 67 63 true (.load none (t 66)),
   g 68 63 true (.call 59 [(t 65), (t 67)]),
   a 69 (.pick (t 63) (t 68) (bo false)),
   a 70 (.mv (t 69)),
   g 71 70 true (.fieldAddr 13 (t 3)),
   g 72 70 true (.load none (t 71)),
   g 73 70 true (.fieldAddr 13 (t 1)),
   g 74 70 true (.load none (t 73)),
   g 75 70 true (.call 29 [(t 72), (t 74)]),
   a 76 (.pick (t 70) (t 75) (bo false)),
   a 2 (.mv (t 76))] (some [[], [0], [], [2, 1, 0], [1, 3, 2, 1, 0], [4, 3, 1, 3, 2, 1, 0], [5, 4, 3, 1, 3, 2, 1, 0], [5, 4, 3, 1, 3, 2, 1, 0], [6, 7, 5, 5, 5, 4, 3, 1, 3, 2, 1, 0], [5, 8, 6, 7, 5, 5, 5, 4, 3, 1, 3, 2, 1, 0], [9, 5, 5, 8, 6, 7, 5, 5, 5, 4, 3, 1, 3, 2, 1, 0], [10, 9, 5, 5, 8, 6, 7, 5, 5, 5, 4, 3, 1, 3, 2, 1, 0], [11, 10, 10, 9, 5, 5, 8, 6, 7, 5, 5, 5, 4, 3, 1, 3, 2, 1, 0], [10, 9, 5, 5, 8, 6, 7, 5, 5, 5, 4, 3, 1, 3, 2, 1, 0], [13, 10, 10, 9, 5, 5, 8, 6, 7, 5, 5, 5, 4, 3, 1, 3, 2, 1, 0], [12, 14, 10, 13, 10, 10, 11, 10, 10, 9, 5, 5, 8, 6, 7, 5, 5, 5, 4, 3, 1, 3, 2, 1, 0], [10, 15, 12, 14, 10, 13, 10, 10, 11, 10, 10, 9, 5, 5, 8, 6, 7, 5, 5, 5, 4, 3, 1, 3, 2, 1, 0], [16, 10, 10, 15, 12, 14, 10, 13, 10, 10, 11, 10, 10, 9, 5, 5, 8, 6, 7, 5, 5, 5, 4, 3, 1, 3, 2, 1, 0], [17, 16, 10, 10, 15, 12, 14, 10, 13, 10, 10, 11, 10, 10, 9, 5, 5, 8, 6, 7, 5, 5, 5, 4, 3, 1, 3, 2, 1, 0], [18, 17, 17, 16, 10, 10, 15, 12, 14, 10, 13, 10, 10, 11, 10, 10, 9, 5, 5, 8, 6, 7, 5, 5, 5, 4, 3, 1, 3, 2, 1, 0], [17, 16, 10, 10, 15, 12, 14, 10, 13, 10, 10, 11, 10, 10, 9, 5, 5, 8, 6, 7, 5, 5, 5, 4, 3, 1, 3, 2, 1, 0], [20, 17, 17, 16, 10, 10, 15, 12, 14, 10, 13, 10, 10, 11, 10, 10, 9, 5, 5, 8, 6, 7, 5, 5, 5, 4, 3, 1, 3, 2, 1, 0], [19, 21, 17, 17, 20, 17, 17, 18, 17, 17, 16, 10, 10, 15, 12, 14, 10, 13, 10, 10, 11, 10, 10, 9, 5, 5, 8, 6, 7, 5, 5, 5, 4, 3, 1, 3, 2, 1, 0], [17, 22, 19, 21, 17, 17, 20, 17, 17, 18, 17, 17, 16, 10, 10, 15, 12, 14, 10, 13, 10, 10, 11, 10, 10, 9, 5, 5, 8, 6, 7, 5, 5, 5, 4, 3, 1, 3, 2, 1, 0], [23, 22, 17, 22, 19, 21, 17, 17, 20, 17, 17, 18, 17, 17, 16, 10, 10, 15, 12, 14, 10, 13, 10, 10, 11, 10, 10, 9, 5, 5, 8, 6, 7, 5, 5, 5, 4, 3, 1, 3, 2, 1, 0], [24, 23, 22, 17, 22, 19, 21, 17, 17, 20, 17, 17, 18, 17, 17, 16, 10, 10, 15, 12, 14, 10, 13, 10, 10, 11, 10, 10, 9, 5, 5, 8, 6, 7, 5, 5, 5, 4, 3, 1, 3, 2, 1, 0], [25, 24, 24, 23, 22, 17, 22, 19, 21, 17, 17, 20, 17, 17, 18, 17, 17, 16, 10, 10, 15, 12, 14, 10, 13, 10, 10, 11, 10, 10, 9, 5, 5, 8, 6, 7, 5, 5, 5, 4, 3, 1, 3, 2, 1, 0], [24, 23, 22, 17, 22, 19, 21, 17, 17, 20, 17, 17, 18, 17, 17, 16, 10, 10, 15, 12, 14, 10, 13, 10, 10, 11, 10, 10, 9, 5, 5, 8, 6, 7, 5, 5, 5, 4, 3, 1, 3, 2, 1, 0], [27, 24, 24, 23, 22, 17, 22, 19, 21, 17, 17, 20, 17, 17, 18, 17, 17, 16, 10, 10, 15, 12, 14, 10, 13, 10, 10, 11, 10, 10, 9, 5, 5, 8, 6, 7, 5, 5, 5, 4, 3, 1, 3, 2, 1, 0], [26, 28, 24, 24, 27, 24, 24, 25, 24, 24, 23, 22, 17, 22, 19, 21, 17, 17, 20, 17, 17, 18, 17, 17, 16, 10, 10, 15, 12, 14, 10, 13, 10, 10, 11, 10, 10, 9, 5, 5, 8, 6, 7, 5, 5, 5, 4, 3, 1, 3, 2, 1, 0], [24, 29, 26, 28, 24, 24, 27, 24, 24, 25, 24, 24, 23, 22, 17, 22, 19, 21, 17, 17, 20, 17, 17, 18, 17, 17, 16, 10, 10, 15, 12, 14, 10, 13, 10, 10, 11, 10, 10, 9, 5, 5, 8, 6, 7, 5, 5, 5, 4, 3, 1, 3, 2, 1, 0], [30, 29, 24, 29, 26, 28, 24, 24, 27, 24, 24, 25, 24, 24, 23, 22, 17, 22, 19, 21, 17, 17, 20, 17, 17, 18, 17, 17, 16, 10, 10, 15, 12, 14, 10, 13, 10, 10, 11, 10, 10, 9, 5, 5, 8, 6, 7, 5, 5, 5, 4, 3, 1, 3, 2, 1, 0], [31, 30, 29, 24, 29, 26, 28, 24, 24, 27, 24, 24, 25, 24, 24, 23, 22, 17, 22, 19, 21, 17, 17, 20, 17, 17, 18, 17, 17, 16, 10, 10, 15, 12, 14, 10, 13, 10, 10, 11, 10, 10, 9, 5, 5, 8, 6, 7, 5, 5, 5, 4, 3, 1, 3, 2, 1, 0], [32, 31, 31, 30, 29, 24, 29, 26, 28, 24, 24, 27, 24, 24, 25, 24, 24, 23, 22, 17, 22, 19, 21, 17, 17, 20, 17, 17, 18, 17, 17, 16, 10, 10, 15, 12, 14, 10, 13, 10, 10, 11, 10, 10, 9, 5, 5, 8, 6, 7, 5, 5, 5, 4, 3, 1, 3, 2, 1, 0], [31, 30, 29, 24, 29, 26, 28, 24, 24, 27, 24, 24, 25, 24, 24, 23, 22, 17, 22, 19, 21, 17, 17, 20, 17, 17, 18, 17, 17, 16, 10, 10, 15, 12, 14, 10, 13, 10, 10, 11, 10, 10, 9, 5, 5, 8, 6, 7, 5, 5, 5, 4, 3, 1, 3, 2, 1, 0], [34, 31, 31, 30, 29, 24, 29, 26, 28, 24, 24, 27, 24, 24, 25, 24, 24, 23, 22, 17, 22, 19, 21, 17, 17, 20, 17, 17, 18, 17, 17, 16, 10, 10, 15, 12, 14, 10, 13, 10, 10, 11, 10, 10, 9, 5, 5, 8, 6, 7, 5, 5, 5, 4, 3, 1, 3, 2, 1, 0], [33, 35, 31, 31, 34, 31, 31, 32, 31, 31, 30, 29, 24, 29, 26, 28, 24, 24, 27, 24, 24, 25, 24, 24, 23, 22, 17, 22, 19, 21, 17, 17, 20, 17, 17, 18, 17, 17, 16, 10, 10, 15, 12, 14, 10, 13, 10, 10, 11, 10, 10, 9, 5, 5, 8, 6, 7, 5, 5, 5, 4, 3, 1, 3, 2, 1, 0], [31, 36, 33, 35, 31, 31, 34, 31, 31, 32, 31, 31, 30, 29, 24, 29, 26, 28, 24, 24, 27, 24, 24, 25, 24, 24, 23, 22, 17, 22, 19, 21, 17, 17, 20, 17, 17, 18, 17, 17, 16, 10, 10, 15, 12, 14, 10, 13, 10, 10, 11, 10, 10, 9, 5, 5, 8, 6, 7, 5, 5, 5, 4, 3, 1, 3, 2, 1, 0], [37, 36, 0, 1, 2, 3, 4, 5, 6, 7, 8, 9, 10, 11, 12, 13, 14, 15, 16, 17, 18, 19, 20, 21, 22, 23, 24, 25, 26, 27, 28, 29, 30, 31, 32, 33, 34, 35, 36, 37, 31, 36, 33, 35, 31, 31, 34, 31, 31, 32, 31, 31, 30, 29, 24, 29, 26, 28, 24, 24, 27, 24, 24, 25, 24, 24, 23, 22, 17, 22, 19, 21, 17, 17, 20, 17, 17, 18, 17, 17, 16, 10, 10, 15, 12, 14, 10, 13, 10, 10, 11, 10, 10, 9, 5, 5, 8, 6, 7, 5, 5, 5, 4, 3, 1, 3, 2, 1, 0]]))
 .ret))))))), [.tmp 2]⟩
theorem t14 : FnAt Try.prog 14 a14 := .mk Try.func14 (by kernel_rfl) (by kernel_rfl)
/-- busbar/busbarlaw6.TellReads -/
def a15 : AF := ⟨4, 85, (.seq (.region [a 8 (.mv (bo false))] none)
 (.seq (.seq (.region [a 15 (.mv (t 0)),
   a 16 (.len false (t 15)),
   a 17 (.bin .gtr (t 16) (i 300)),
   a 18 (.mv (t 17)),
   g 19 18 false (.call 52 []),
   g 20 18 false (.un .not (t 19)),
   a 21 (.pick (t 18) (bo true) (t 20))] none)
 (.cond (t 21)
  (.seq (.region [a 22 (.call 52 []),
    a 8 (.mv (t 22))] none)
  .ret)
  .skip))
 (.seq (.region [a 23 (.mv (t 0)),
   a 24 (.append 1 1 [(.int .u8 0)] (.k (.c (.t .nil))) (t 23)),
   a 9 (.mv (t 24))] none)
 (.seq (.seq (.region [a 25 (.mv (t 3)),
   a 26 (.mv (t 25)),
   g 27 26 true (.mv (t 9)),
   g 28 26 true (.len false (t 27)),
   g 29 26 true (.bin .gtr (t 28) (i 0)),
   a 30 (.pick (t 26) (t 29) (bo false))] none)
 (.cond (t 30)
  (.seq (.region [a 31 (.mv (t 9)),
    a 32 (.mv (t 2)),
    a 33 (.call 22 [(t 32), (i 46)]),
    a 34 (.conv .u8 (t 33)),
    a 35 (.idxAddr 1 (t 31) (i 0)),
    a_ (.store 1 (t 35) (t 34))] none)
  (.seq (.region [a 36 (.mv (t 9)),
    a 37 (.len false (t 36)),
    a 38 (.bin .gtr (t 37) (i 1)),
    a 39 (.mv (t 38)),
    g 40 39 true (.mv (t 9)),
    g 41 39 true (.idxAddr 1 (t 40) (i 0)),
    g 42 39 true (.load none (t 41)),
    g 43 39 true (.bin .lss (t 42) (.k (.c (.t (.int .u8 5))))),
    a 44 (.pick (t 39) (t 43) (bo false))] none)
  (.cond (t 44)
   (.region [a 45 (.mv (t 9)),
     a 46 (.mv (t 9)),
     a 47 (.len false (t 46)),
     a 48 (.bin .sub (t 47) (i 2)),
     a 49 (.conv .u8 (t 48)),
     a 50 (.mv (t 9)),
     a 51 (.len false (t 50)),
     a 52 (.bin .sub (t 51) (i 2)),
     a 53 (.bin .mul (i 8) (t 52)),
     a 54 (.mv (t 1)),
     a 55 (.call 22 [(t 54), (i 9)]),
     a 56 (.bin .sub (t 53) (t 55)),
     a 57 (.idxAddr 1 (t 45) (i 1)),
     a_ (.store 1 (t 57) (t 49)),
     a 1 (.mv (t 56))] none)
   .skip)))
  .skip))
 (.seq (.region [a 58 (.mv (t 9)),
   a 59 (.call 33 [(t 58)]),
   a 10 (.mv (t 59))] none)
 (.seq (.region [a 61 (.mv (t 10)),
   a 62 (.mv (t 1)),
   a 63 (.call 60 [(t 61), (t 62)]),
   a 60 (.mv (t 63)),
   a 64 (.extract (t 60) 0),
   a 65 (.extract (t 60) 1),
   a 11 (.alloc [(.t (.int .i64 0)), (.t (.int .i64 0)), (.t .nil), (.t .nil), (.t (.int .i64 0)), (.t (.int .i64 0)), (.t (.int .u16 0)), (.t (.int .u16 0)), (.t (.int .u16 0)), (.t (.int .i64 0)), (.t (.int .i64 0)), (.t (.bool false)), (.t (.int .i64 0)), (.t .nil)]),
   a_ (.store 14 (t 11) (t 64)),
   a 12 (.mv (t 65))] none)
 (.seq (.region [a 67 (.mv (t 9)),
   a 68 (.mv (t 1)),
   a 69 (.call 61 [(t 67), (t 68)]),
   a 66 (.mv (t 69)),
   a 70 (.extract (t 66) 0),
   a 71 (.extract (t 66) 1),
   a 13 (.alloc [(.t (.int .i64 0)), (.t (.int .i64 0)), (.t .nil), (.t .nil), (.t (.int .i64 0)), (.t (.int .i64 0)), (.t (.int .u16 0)), (.t (.int .u16 0)), (.t (.int .u16 0)), (.t (.int .i64 0)), (.t (.int .i64 0)), (.t (.bool false)), (.t (.int .i64 0)), (.t .nil)]),
   a_ (.store 14 (t 13) (t 70)),
   a 14 (.mv (t 71))] none)
 (.seq (.region [a 72 (.mv (t 12)),
   a 73 (.mv (t 14)),
   a 74 (.bin .eql (t 72) (t 73)),
   a 75 (.mv (t 74)),
   g 76 75 true (.load (some 14) (t 11)),
   g 77 75 true (.load (some 14) (t 13)),
   g 78 75 true (.call 42 [(t 76), (t 77)]),
   a 79 (.pick (t 75) (t 78) (bo false)),
   a 80 (.mv (t 79)),
   g 81 80 true (.mv (t 10)),
   g 82 80 true (.mv (t 9)),
   g 83 80 true (.call 37 [(t 81), (t 82)]),
   a 84 (.pick (t 80) (t 83) (bo false)),
   a 8 (.mv (t 84))] none)
 .ret)))))))), [.tmp 8]⟩
theorem t15 : FnAt Try.prog 15 a15 := .mk Try.func15 (by kernel_rfl) (by kernel_rfl)
/-- busbar/busbarlaw6.TellBack -/
def a16 : AF := ⟨7, 134, (.seq (.region [a 14 (.mv (bo false))] none)
 (.seq (.seq (.region [a 25 (.mv (t 2)),
   a 26 (.len false (t 25)),
   a 27 (.bin .lss (t 26) (i 1)),
   a 28 (.mv (t 27)),
   g 29 28 false (.mv (t 2)),
   g 30 28 false (.len false (t 29)),
   g 31 28 false (.bin .gtr (t 30) (i 125)),
   a 32 (.pick (t 28) (bo true) (t 31)),
   a 33 (.mv (t 32)),
   g 34 33 false (.mv (t 3)),
   g 35 33 false (.len false (t 34)),
   g 36 33 false (.bin .lss (t 35) (i 1)),
   a 37 (.pick (t 33) (bo true) (t 36)),
   a 38 (.mv (t 37)),
   g 39 38 false (.mv (t 3)),
   g 40 38 false (.len false (t 39)),
   g 41 38 false (.bin .gtr (t 40) (i 200)),
   a 42 (.pick (t 38) (bo true) (t 41)),
   a 43 (.mv (t 42)),
   g 44 43 false (.call 52 []),
   g 45 43 false (.un .not (t 44)),
   a 46 (.pick (t 43) (bo true) (t 45))] none)
 (.cond (t 46)
  (.seq (.region [a 47 (.call 52 []),
    a 14 (.mv (t 47))] none)
  .ret)
  .skip))
 (.seq (.region [a 48 (.mv (t 0)),
   a 49 (.mv (t 1)),
   a 50 (.mv (t 2)),
   a 51 (.mv (t 3)),
   a 52 (.call 62 [(t 48), (t 49), (t 50), (t 51)]),
   a 15 (.alloc [(.t (.int .i64 0)), (.t (.int .i64 0)), (.t .nil), (.t .nil), (.t (.int .i64 0)), (.t (.int .i64 0)), (.t (.int .u16 0)), (.t (.int .u16 0)), (.t (.int .u16 0)), (.t (.int .i64 0)), (.t (.int .i64 0)), (.t (.bool false)), (.t (.int .i64 0)), (.t .nil)]),
   a_ (.store 14 (t 15) (t 52))] none)
 (.seq (.region [a 54 (.load (some 14) (t 15)),
   a 55 (.call 43 [(t 54)]),
   a 53 (.mv (t 55)),
   a 56 (.extract (t 53) 0),
   a 57 (.extract (t 53) 1),
   a 16 (.mv (t 56)),
   a 17 (.mv (t 57))] none)
 (.seq (.region [a 59 (.mv (t 16)),
   a 60 (.mv (t 3)),
   a 61 (.len false (t 60)),
   a 62 (.call 60 [(t 59), (t 61)]),
   a 58 (.mv (t 62)),
   a 63 (.extract (t 58) 0),
   a 64 (.extract (t 58) 1),
   a 18 (.alloc [(.t (.int .i64 0)), (.t (.int .i64 0)), (.t .nil), (.t .nil), (.t (.int .i64 0)), (.t (.int .i64 0)), (.t (.int .u16 0)), (.t (.int .u16 0)), (.t (.int .u16 0)), (.t (.int .i64 0)), (.t (.int .i64 0)), (.t (.bool false)), (.t (.int .i64 0)), (.t .nil)]),
   a_ (.store 14 (t 18) (t 63)),
   a 19 (.mv (t 64))] none)
 (.seq (.seq (.region [a 65 (.load (some 14) (t 15)),
   a 66 (.call 56 [(t 65)]),
   a 67 (.un .not (t 66)),
   a 68 (.mv (t 67)),
   g 69 68 false (.mv (t 17)),
   g 70 68 false (.bin .neq (t 69) (i 0)),
   a 71 (.pick (t 68) (bo true) (t 70)),
   a 72 (.mv (t 71)),
   g 73 72 false (.mv (t 19)),
   g 74 72 false (.bin .neq (t 73) (i 0)),
   a 75 (.pick (t 72) (bo true) (t 74)),
   a 76 (.mv (t 75)),
   g 77 76 false (.load (some 14) (t 15)),
   g 78 76 false (.load (some 14) (t 18)),
   g 79 76 false (.call 42 [(t 77), (t 78)]),
   g 80 76 false (.un .not (t 79)),
   a 81 (.pick (t 76) (bo true) (t 80))] none)
 (.cond (t 81)
  (.seq (.region [a 14 (.mv (bo false))] none)
  .ret)
  .skip))
 (.seq (.region [a 82 (.mv (t 16)),
   a 83 (.append 1 1 [(.int .u8 0)] (.k (.c (.t .nil))) (t 82)),
   a 20 (.mv (t 83))] none)
 (.seq (.region [a 84 (.mv (t 20)),
   a 85 (.mv (t 4)),
   a 86 (.mv (t 20)),
   a 87 (.len false (t 86)),
   a 88 (.call 22 [(t 85), (t 87)]),
   a 89 (.idxAddr 1 (t 84) (t 88)),
   a 90 (.load none (t 89)),
   a 91 (.mv (t 5)),
   a 92 (.bin .add (t 90) (t 91)),
   a 93 (.idxAddr 1 (t 84) (t 88)),
   a_ (.store 1 (t 93) (t 92))] none)
 (.seq (.region [a 94 (.mv (t 6)),
   a 95 (.mv (t 20)),
   a 96 (.len false (t 95)),
   a 97 (.bin .add (t 96) (i 4)),
   a 98 (.call 22 [(t 94), (t 97)]),
   a 6 (.mv (t 98))] none)
 (.seq (.seq (.region [a 99 (.mv (t 6)),
   a 100 (.mv (t 20)),
   a 101 (.len false (t 100)),
   a 102 (.bin .leq (t 99) (t 101))] none)
 (.cond (t 102)
  (.region [a 103 (.mv (t 20)),
    a 104 (.mv (t 6)),
    a 105 (.slice 1 (t 103) none (some (t 104))),
    a 20 (.mv (t 105))] none)
  (.region [a 106 (.mv (t 20)),
    a 107 (.mv (t 6)),
    a 108 (.mv (t 20)),
    a 109 (.len false (t 108)),
    a 110 (.bin .sub (t 107) (t 109)),
    a 111 (.appendZ 1 1 [(.int .u8 0)] (t 106) (t 110)),
    a 20 (.mv (t 111))] none)))
 (.seq (.region [a 113 (.mv (t 20)),
   a 114 (.mv (t 3)),
   a 115 (.len false (t 114)),
   a 116 (.call 60 [(t 113), (t 115)]),
   a 112 (.mv (t 116)),
   a 117 (.extract (t 112) 0),
   a 118 (.extract (t 112) 1),
   a 21 (.alloc [(.t (.int .i64 0)), (.t (.int .i64 0)), (.t .nil), (.t .nil), (.t (.int .i64 0)), (.t (.int .i64 0)), (.t (.int .u16 0)), (.t (.int .u16 0)), (.t (.int .u16 0)), (.t (.int .i64 0)), (.t (.int .i64 0)), (.t (.bool false)), (.t (.int .i64 0)), (.t .nil)]),
   a_ (.store 14 (t 21) (t 117)),
   a 22 (.mv (t 118))] none)
 (.seq (.region [a 120 (.mv (t 20)),
   a 121 (.mv (t 3)),
   a 122 (.len false (t 121)),
   a 123 (.call 61 [(t 120), (t 122)]),
   a 119 (.mv (t 123)),
   a 124 (.extract (t 119) 0),
   a 125 (.extract (t 119) 1),
   a 23 (.alloc [(.t (.int .i64 0)), (.t (.int .i64 0)), (.t .nil), (.t .nil), (.t (.int .i64 0)), (.t (.int .i64 0)), (.t (.int .u16 0)), (.t (.int .u16 0)), (.t (.int .u16 0)), (.t (.int .i64 0)), (.t (.int .i64 0)), (.t (.bool false)), (.t (.int .i64 0)), (.t .nil)]),
   a_ (.store 14 (t 23) (t 124)),
   a 24 (.mv (t 125))] none)
 (.seq (.region [a 126 (.mv (t 22)),
   a 127 (.mv (t 24)),
   a 128 (.bin .eql (t 126) (t 127)),
   a 129 (.mv (t 128)),
   g 130 129 true (.load (some 14) (t 21)),
   g 131 129 true (.load (some 14) (t 23)),
   g 132 129 true (.call 42 [(t 130), (t 131)]),
   a 133 (.pick (t 129) (t 132) (bo false)),
   a 14 (.mv (t 133))] none)
 .ret))))))))))))), [.tmp 14]⟩
theorem t16 : FnAt Try.prog 16 a16 := .mk Try.func16 (by kernel_rfl) (by kernel_rfl)
/-- busbar/busbarlaw6.TellFails -/
def a17 : AF := ⟨3, 131, (.seq (.region [a 6 (.mv (bo false))] none)
 (.seq (.seq (.region [a 13 (.call 52 []),
   a 14 (.un .not (t 13))] none)
 (.cond (t 14)
  (.seq (.region [a 6 (.mv (bo false))] none)
  .ret)
  .skip))
 (.seq (.seq (.region [a 15 (.mv (t 2))] none)
 (.cond (t 15)
  (.region [a 16 (.mv (t 0)),
    a 17 (.call 22 [(t 16), (i 256)]),
    a 18 (.mv (t 1)),
    a 19 (.call 22 [(t 18), (i 9)]),
    a 0 (.mv (t 17)),
    a 1 (.mv (t 19))] none)
  .skip))
 (.seq (.region [a 20 (.mv (t 0)),
   a 21 (.mv (t 1)),
   a 22 (.call 63 [(t 20), (t 21)]),
   a 7 (.alloc [(.t (.int .i64 0)), (.t (.int .i64 0)), (.t .nil), (.t .nil), (.t (.int .i64 0)), (.t (.int .i64 0)), (.t (.int .u16 0)), (.t (.int .u16 0)), (.t (.int .u16 0)), (.t (.int .i64 0)), (.t (.int .i64 0)), (.t (.bool false)), (.t (.int .i64 0)), (.t .nil)]),
   a_ (.store 14 (t 7) (t 22))] none)
 (.seq (.seq (.region [a 23 (.fieldAddr 0 (t 7)),
   a 24 (.load none (t 23)),
   a 25 (.mv (t 0)),
   a 26 (.bin .neq (t 24) (t 25)),
   a 27 (.mv (t 26)),
   g 28 27 false (.fieldAddr 1 (t 7)),
   g 29 27 false (.load none (t 28)),
   g 30 27 false (.mv (t 1)),
   g 31 27 false (.bin .neq (t 29) (t 30)),
   a 32 (.pick (t 27) (bo true) (t 31)),
   a 33 (.mv (t 32)),
   g 34 33 false (.fieldAddr 2 (t 7)),
   g 35 33 false (.load none (t 34)),
   g 36 33 false (.len false (t 35)),
   g 37 33 false (.fieldAddr 3 (t 7)),
   g 38 33 false (.load none (t 37)),
   g 39 33 false (.len false (t 38)),
   g 40 33 false (.bin .add (t 36) (t 39)),
   g 41 33 false (.fieldAddr 13 (t 7)),
   g 42 33 false (.load none (t 41)),
   g 43 33 false (.len false (t 42)),
   g 44 33 false (.bin .add (t 40) (t 43)),
   g 45 33 false (.bin .neq (t 44) (i 0)),
   a 46 (.pick (t 33) (bo true) (t 45))] none)
 (.cond (t 46)
  (.seq (.region [a 6 (.mv (bo false))] none)
  .ret)
  .skip))
 (.seq (.seq (.region [a 47 (.mv (t 1)),
   a 48 (.bin .eql (t 47) (i 0))] none)
 (.cond (t 48)
  (.seq (.region [a 6 (.mv (bo true))] none)
  .ret)
  .skip))
 (.seq (.region [a 50 (.load (some 14) (t 7)),
   a 51 (.call 43 [(t 50)]),
   a 49 (.mv (t 51)),
   a 52 (.extract (t 49) 0),
   a 53 (.extract (t 49) 1),
   a 8 (.mv (t 52)),
   a 9 (.mv (t 53))] none)
 (.seq (.region [a 54 (.mv (t 0)),
   a 55 (.bin .geq (t 54) (i 0)),
   a 56 (.mv (t 55)),
   g 57 56 true (.mv (t 0)),
   g 58 56 true (.bin .leq (t 57) (i 255)),
   a 59 (.pick (t 56) (t 58) (bo false)),
   a 60 (.mv (t 59)),
   g 61 60 true (.mv (t 1)),
   g 62 60 true (.bin .geq (t 61) (i 1)),
   g 63 60 true (.mv (t 62)),
   g 64 63 true (.mv (t 1)),
   g 65 63 true (.bin .leq (t 64) (i 4)),
   g 66 60 true (.pick (t 63) (t 65) (bo false)),
   g 67 60 true (.mv (t 66)),
   g 68 67 false (.mv (t 1)),
   g 69 67 false (.bin .eql (t 68) (i 6)),
   g 70 60 true (.pick (t 67) (bo true) (t 69)),
   a 71 (.pick (t 60) (t 70) (bo false)),
   a 10 (.mv (t 71))] none)
 (.seq (.seq (.region [a 72 (.mv (t 9)),
   a 73 (.bin .eql (t 72) (i 0)),
   a 74 (.mv (t 10)),
   a 75 (.binB true (t 73) (t 74)),
   a 76 (.mv (t 75)),
   g 77 76 false (.mv (t 10)),
   g 78 76 false (.un .not (t 77)),
   a 79 (.pick (t 76) (bo true) (t 78))] none)
 (.cond (t 79)
  (.seq (.region [a 80 (.mv (t 9)),
    a 81 (.bin .eql (t 80) (i 0)),
    a 82 (.mv (t 10)),
    a 83 (.binB false (t 81) (t 82)),
    a 84 (.mv (t 83)),
    g 85 84 true (.mv (t 8)),
    g 86 84 true (.len false (t 85)),
    g 87 84 true (.bin .eql (t 86) (i 0)),
    a 88 (.pick (t 84) (t 87) (bo false)),
    a 6 (.mv (t 88))] none)
  .ret)
  .skip))
 (.seq (.region [a 90 (.mv (t 8)),
   a 91 (.call 60 [(t 90), (i 0)]),
   a 89 (.mv (t 91)),
   a 92 (.extract (t 89) 0),
   a 93 (.extract (t 89) 1),
   a 11 (.alloc [(.t (.int .i64 0)), (.t (.int .i64 0)), (.t .nil), (.t .nil), (.t (.int .i64 0)), (.t (.int .i64 0)), (.t (.int .u16 0)), (.t (.int .u16 0)), (.t (.int .u16 0)), (.t (.int .i64 0)), (.t (.int .i64 0)), (.t (.bool false)), (.t (.int .i64 0)), (.t .nil)]),
   a_ (.store 14 (t 11) (t 92)),
   a 12 (.mv (t 93))] none)
 (.seq (.region [a 94 (.mv (t 8)),
   a 95 (.len false (t 94)),
   a 96 (.bin .eql (t 95) (i 2)),
   a 97 (.mv (t 96)),
   g 98 97 true (.mv (t 8)),
   g 99 97 true (.idxAddr 1 (t 98) (i 0)),
   g 100 97 true (.load none (t 99)),
   g 101 97 true (.conv .i64 (t 100)),
   g 102 97 true (.mv (t 0)),
   g 103 97 true (.bin .or (t 102) (i 128)),
   g 104 97 true (.bin .eql (t 101) (t 103)),
   a 105 (.pick (t 97) (t 104) (bo false)),
   a 106 (.mv (t 105)),
   g 107 106 true (.mv (t 8)),
   g 108 106 true (.idxAddr 1 (t 107) (i 1)),
   g 109 106 true (.load none (t 108)),
   g 110 106 true (.conv .i64 (t 109)),
   g 111 106 true (.mv (t 1)),
   g 112 106 true (.bin .eql (t 110) (t 111)),
   a 113 (.pick (t 106) (t 112) (bo false)),
   a 114 (.mv (t 113)),
   g 115 114 true (.mv (t 12)),
   g 116 114 true (.bin .eql (t 115) (i 0)),
   a 117 (.pick (t 114) (t 116) (bo false)),
   a 118 (.mv (t 117)),
   g 119 118 true (.fieldAddr 0 (t 11)),
   g 120 118 true (.load none (t 119)),
   g 121 118 true (.mv (t 0)),
   g 122 118 true (.bin .and (t 121) (i 127)),
   g 123 118 true (.bin .eql (t 120) (t 122)),
   a 124 (.pick (t 118) (t 123) (bo false)),
   a 125 (.mv (t 124)),
   g 126 125 true (.fieldAddr 1 (t 11)),
   g 127 125 true (.load none (t 126)),
   g 128 125 true (.mv (t 1)),
   g 129 125 true (.bin .eql (t 127) (t 128)),
   a 130 (.pick (t 125) (t 129) (bo false)),
   a 6 (.mv (t 130))] none)
 .ret))))))))))), [.tmp 6]⟩
theorem t17 : FnAt Try.prog 17 a17 := .mk Try.func17 (by kernel_rfl) (by kernel_rfl)
/-- busbar/busbarlaw6.TellFits -/
def a18 : AF := ⟨3, 82, (.seq (.region [a 6 (.mv (bo false))] none)
 (.seq (.seq (.region [a 16 (.call 52 []),
   a 17 (.un .not (t 16))] none)
 (.cond (t 17)
  (.seq (.region [a 6 (.mv (bo false))] none)
  .ret)
  .skip))
 (.seq (.region [a 18 (.build [(.t .nil)] []),
   a 19 (.box (t 18)),
   a 7 (.mv (t 19))] none)
 (.seq (.region [a 20 (.mv (t 7)),
   a 21 (.mv (t 2)),
   a 22 (.call 65 [(t 21)]),
   a 23 (.call 64 [(t 20), (t 22)])] none)
 (.seq (.region [a 24 (.mv (t 0)),
   a 25 (.mv (t 1)),
   a 26 (.call 38 [(t 24), (t 25)]),
   a 8 (.alloc [(.t (.int .i64 0)), (.t (.int .i64 0)), (.t (.int .i64 0)), (.t (.int .u16 0)), (.t (.int .u16 0)), (.t (.int .u16 0)), (.t .nil), (.t .nil), (.t (.int .i64 0)), (.t (.int .i64 0)), (.t (.int .i64 0)), (.t (.int .i64 0))]),
   a_ (.store 12 (t 8) (t 26))] none)
 (.seq (.region [a 28 (.mv (t 7)),
   a 29 (.load (some 12) (t 8)),
   a 30 (.call 66 [(t 28), (t 29)]),
   a 27 (.mv (t 30)),
   a 31 (.extract (t 27) 0),
   a 32 (.extract (t 27) 1),
   a 9 (.alloc [(.t (.int .i64 0)), (.t (.int .i64 0)), (.t .nil), (.t .nil), (.t (.int .i64 0)), (.t (.int .i64 0)), (.t (.int .u16 0)), (.t (.int .u16 0)), (.t (.int .u16 0)), (.t (.int .i64 0)), (.t (.int .i64 0)), (.t (.bool false)), (.t (.int .i64 0)), (.t .nil)]),
   a_ (.store 14 (t 9) (t 31)),
   a 10 (.mv (t 32))] none)
 (.seq (.seq (.region [a 33 (.mv (t 10)),
   a 34 (.un .not (t 33))] none)
 (.cond (t 34)
  (.seq (.region [a 6 (.mv (bo true))] none)
  .ret)
  .skip))
 (.seq (.region [a 36 (.load (some 14) (t 9)),
   a 37 (.call 43 [(t 36)]),
   a 35 (.mv (t 37)),
   a 38 (.extract (t 35) 0),
   a 39 (.extract (t 35) 1),
   a 11 (.mv (t 38)),
   a 12 (.mv (t 39))] none)
 (.seq (.region [a 40 (.fieldAddr 2 (t 8)),
   a 41 (.load none (t 40)),
   a 13 (.mv (t 41))] none)
 (.seq (.region [a 43 (.mv (t 11)),
   a 44 (.mv (t 13)),
   a 45 (.call 60 [(t 43), (t 44)]),
   a 42 (.mv (t 45)),
   a 46 (.extract (t 42) 0),
   a 47 (.extract (t 42) 1),
   a 14 (.alloc [(.t (.int .i64 0)), (.t (.int .i64 0)), (.t .nil), (.t .nil), (.t (.int .i64 0)), (.t (.int .i64 0)), (.t (.int .u16 0)), (.t (.int .u16 0)), (.t (.int .u16 0)), (.t (.int .i64 0)), (.t (.int .i64 0)), (.t (.bool false)), (.t (.int .i64 0)), (.t .nil)]),
   a_ (.store 14 (t 14) (t 46)),
   a 15 (.mv (t 47))] none)
 (.seq (.region [a 48 (.mv (t 12)),
   a 49 (.bin .eql (t 48) (i 0)),
   a 50 (.mv (t 49)),
   g 51 50 true (.mv (t 11)),
   g 52 50 true (.len false (t 51)),
   g 53 50 true (.bin .geq (t 52) (i 2)),
   a 54 (.pick (t 50) (t 53) (bo false)),
   a 55 (.mv (t 54)),
   g 56 55 true (.mv (t 11)),
   g 57 55 true (.len false (t 56)),
   g 58 55 true (.bin .leq (t 57) (i 253)),
   a 59 (.pick (t 55) (t 58) (bo false)),
   a 60 (.mv (t 59)),
   g 61 60 true (.load (some 14) (t 9)),
   g 62 60 true (.call 56 [(t 61)]),
   a 63 (.pick (t 60) (t 62) (bo false)),
   a 64 (.mv (t 63)),
   g 65 64 true (.mv (t 15)),
   g 66 64 true (.bin .eql (t 65) (i 0)),
   a 67 (.pick (t 64) (t 66) (bo false)),
   a 68 (.mv (t 67)),
   g 69 68 true (.load (some 14) (t 9)),
   g 70 68 true (.load (some 14) (t 14)),
   g 71 68 true (.call 42 [(t 69), (t 70)]),
   a 72 (.pick (t 68) (t 71) (bo false)),
   a 73 (.mv (t 72)),
   g 74 73 true (.mv (t 11)),
   g 75 73 true (.idxAddr 1 (t 74) (i 0)),
   g 76 73 true (.load none (t 75)),
   g 77 73 true (.conv .i64 (t 76)),
   g 78 73 true (.fieldAddr 0 (t 8)),
   g 79 73 true (.load none (t 78)),
   g 80 73 true (.bin .eql (t 77) (t 79)),
   a 81 (.pick (t 73) (t 80) (bo false)),
   a 6 (.mv (t 81))] (some [[], [0], [1, 0], [2, 1, 0], [3, 2, 2, 1, 0], [4, 2, 3, 2, 2, 1, 0], [2, 5, 4, 2, 3, 2, 2, 1, 0], [6, 2, 2, 5, 4, 2, 3, 2, 2, 1, 0], [7, 6, 2, 2, 5, 4, 2, 3, 2, 2, 1, 0], [8, 7, 7, 6, 2, 2, 5, 4, 2, 3, 2, 2, 1, 0], [9, 7, 8, 7, 7, 6, 2, 2, 5, 4, 2, 3, 2, 2, 1, 0], [7, 10, 9, 7, 8, 7, 7, 6, 2, 2, 5, 4, 2, 3, 2, 2, 1, 0], [11, 7, 7, 10, 9, 7, 8, 7, 7, 6, 2, 2, 5, 4, 2, 3, 2, 2, 1, 0], [12, 11, 7, 7, 10, 9, 7, 8, 7, 7, 6, 2, 2, 5, 4, 2, 3, 2, 2, 1, 0], [13, 12, 12, 12, 11, 7, 7, 10, 9, 7, 8, 7, 7, 6, 2, 2, 5, 4, 2, 3, 2, 2, 1, 0], [12, 14, 13, 12, 12, 12, 11, 7, 7, 10, 9, 7, 8, 7, 7, 6, 2, 2, 5, 4, 2, 3, 2, 2, 1, 0], [15, 14, 12, 14, 13, 12, 12, 12, 11, 7, 7, 10, 9, 7, 8, 7, 7, 6, 2, 2, 5, 4, 2, 3, 2, 2, 1, 0], [16, 15, 14, 12, 14, 13, 12, 12, 12, 11, 7, 7, 10, 9, 7, 8, 7, 7, 6, 2, 2, 5, 4, 2, 3, 2, 2, 1, 0], [17, 16, 16, 15, 14, 12, 14, 13, 12, 12, 12, 11, 7, 7, 10, 9, 7, 8, 7, 7, 6, 2, 2, 5, 4, 2, 3, 2, 2, 1, 0], [16, 18, 17, 16, 16, 15, 14, 12, 14, 13, 12, 12, 12, 11, 7, 7, 10, 9, 7, 8, 7, 7, 6, 2, 2, 5, 4, 2, 3, 2, 2, 1, 0], [19, 16, 16, 18, 17, 16, 16, 15, 14, 12, 14, 13, 12, 12, 12, 11, 7, 7, 10, 9, 7, 8, 7, 7, 6, 2, 2, 5, 4, 2, 3, 2, 2, 1, 0], [20, 19, 16, 16, 18, 17, 16, 16, 15, 14, 12, 14, 13, 12, 12, 12, 11, 7, 7, 10, 9, 7, 8, 7, 7, 6, 2, 2, 5, 4, 2, 3, 2, 2, 1, 0], [20, 19, 16, 16, 18, 17, 16, 16, 15, 14, 12, 14, 13, 12, 12, 12, 11, 7, 7, 10, 9, 7, 8, 7, 7, 6, 2, 2, 5, 4, 2, 3, 2, 2, 1, 0], [21, 22, 20, 20, 20, 20, 19, 16, 16, 18, 17, 16, 16, 15, 14, 12, 14, 13, 12, 12, 12, 11, 7, 7, 10, 9, 7, 8, 7, 7, 6, 2, 2, 5, 4, 2, 3, 2, 2, 1, 0], [20, 23, 21, 22, 20, 20, 20, 20, 19, 16, 16, 18, 17, 16, 16, 15, 14, 12, 14, 13, 12, 12, 12, 11, 7, 7, 10, 9, 7, 8, 7, 7, 6, 2, 2, 5, 4, 2, 3, 2, 2, 1, 0], [24, 23, 20, 23, 21, 22, 20, 20, 20, 20, 19, 16, 16, 18, 17, 16, 16, 15, 14, 12, 14, 13, 12, 12, 12, 11, 7, 7, 10, 9, 7, 8, 7, 7, 6, 2, 2, 5, 4, 2, 3, 2, 2, 1, 0], [25, 24, 23, 20, 23, 21, 22, 20, 20, 20, 20, 19, 16, 16, 18, 17, 16, 16, 15, 14, 12, 14, 13, 12, 12, 12, 11, 7, 7, 10, 9, 7, 8, 7, 7, 6, 2, 2, 5, 4, 2, 3, 2, 2, 1, 0], [26, 25, 25, 24, 23, 20, 23, 21, 22, 20, 20, 20, 20, 19, 16, 16, 18, 17, 16, 16, 15, 14, 12, 14, 13, 12, 12, 12, 11, 7, 7, 10, 9, 7, 8, 7, 7, 6, 2, 2, 5, 4, 2, 3, 2, 2, 1, 0], [27, 25, 26, 25, 25, 24, 23, 20, 23, 21, 22, 20, 20, 20, 20, 19, 16, 16, 18, 17, 16, 16, 15, 14, 12, 14, 13, 12, 12, 12, 11, 7, 7, 10, 9, 7, 8, 7, 7, 6, 2, 2, 5, 4, 2, 3, 2, 2, 1, 0], [28, 25, 27, 25, 26, 25, 25, 24, 23, 20, 23, 21, 22, 20, 20, 20, 20, 19, 16, 16, 18, 17, 16, 16, 15, 14, 12, 14, 13, 12, 12, 12, 11, 7, 7, 10, 9, 7, 8, 7, 7, 6, 2, 2, 5, 4, 2, 3, 2, 2, 1, 0], [25, 24, 23, 20, 23, 21, 22, 20, 20, 20, 20, 19, 16, 16, 18, 17, 16, 16, 15, 14, 12, 14, 13, 12, 12, 12, 11, 7, 7, 10, 9, 7, 8, 7, 7, 6, 2, 2, 5, 4, 2, 3, 2, 2, 1, 0], [30, 25, 25, 24, 23, 20, 23, 21, 22, 20, 20, 20, 20, 19, 16, 16, 18, 17, 16, 16, 15, 14, 12, 14, 13, 12, 12, 12, 11, 7, 7, 10, 9, 7, 8, 7, 7, 6, 2, 2, 5, 4, 2, 3, 2, 2, 1, 0], [29, 31, 25, 30, 25, 25, 28, 25, 27, 25, 26, 25, 25, 24, 23, 20, 23, 21, 22, 20, 20, 20, 20, 19, 16, 16, 18, 17, 16, 16, 15, 14, 12, 14, 13, 12, 12, 12, 11, 7, 7, 10, 9, 7, 8, 7, 7, 6, 2, 2, 5, 4, 2, 3, 2, 2, 1, 0], [25, 32, 29, 31, 25, 30, 25, 25, 28, 25, 27, 25, 26, 25, 25, 24, 23, 20, 23, 21, 22, 20, 20, 20, 20, 19, 16, 16, 18, 17, 16, 16, 15, 14, 12, 14, 13, 12, 12, 12, 11, 7, 7, 10, 9, 7, 8, 7, 7, 6, 2, 2, 5, 4, 2, 3, 2, 2, 1, 0], [33, 25, 0, 1, 2, 3, 4, 5, 6, 7, 8, 9, 10, 11, 12, 13, 14, 15, 16, 17, 18, 19, 20, 21, 22, 23, 24, 25, 26, 27, 28, 29, 30, 31, 32, 33, 25, 32, 29, 31, 25, 30, 25, 25, 28, 25, 27, 25, 26, 25, 25, 24, 23, 20, 23, 21, 22, 20, 20, 20, 20, 19, 16, 16, 18, 17, 16, 16, 15, 14, 12, 14, 13, 12, 12, 12, 11, 7, 7, 10, 9, 7, 8, 7, 7, 6, 2, 2, 5, 4, 2, 3, 2, 2, 1, 0]]))
 .ret))))))))))), [.tmp 6]⟩
theorem t18 : FnAt Try.prog 18 a18 := .mk Try.func18 (by kernel_rfl) (by kernel_rfl)
/-- busbar/busbarlaw6.TellEchoes -/
def a19 : AF := ⟨3, 95, (.seq (.region [a 3 (.box (t 0)),
   a 6 (.mv (bo false))] none)
 (.seq (.seq (.region [a 13 (.fieldAddr 6 (t 3)),
   a 14 (.load none (t 13)),
   a 15 (.len false (t 14)),
   a 16 (.bin .gtr (t 15) (i 2100)),
   a 17 (.mv (t 16)),
   g 18 17 false (.fieldAddr 7 (t 3)),
   g 19 17 false (.load none (t 18)),
   g 20 17 false (.len false (t 19)),
   g 21 17 false (.bin .gtr (t 20) (i 200)),
   a 22 (.pick (t 17) (bo true) (t 21)),
   a 23 (.mv (t 22)),
   g 24 23 false (.call 52 []),
   g 25 23 false (.un .not (t 24)),
   a 26 (.pick (t 23) (bo true) (t 25))] none)
 (.cond (t 26)
  (.seq (.region [a 27 (.call 52 []),
    a 6 (.mv (t 27))] none)
  .ret)
  .skip))
 (.seq (.region [a 28 (.mv (t 1)),
   a 29 (.mv (t 2)),
   a 30 (.call 38 [(t 28), (t 29)]),
   a 7 (.alloc [(.t (.int .i64 0)), (.t (.int .i64 0)), (.t (.int .i64 0)), (.t (.int .u16 0)), (.t (.int .u16 0)), (.t (.int .u16 0)), (.t .nil), (.t .nil), (.t (.int .i64 0)), (.t (.int .i64 0)), (.t (.int .i64 0)), (.t (.int .i64 0))]),
   a_ (.store 12 (t 7) (t 30))] none)
 (.seq (.region [a 31 (.load (some 12) (t 7)),
   a 32 (.call 67 [(t 31)]),
   a 8 (.alloc [(.t (.int .i64 0)), (.t (.int .i64 0)), (.t .nil), (.t .nil), (.t (.int .i64 0)), (.t (.int .i64 0)), (.t (.int .u16 0)), (.t (.int .u16 0)), (.t (.int .u16 0)), (.t (.int .i64 0)), (.t (.int .i64 0)), (.t (.bool false)), (.t (.int .i64 0)), (.t .nil)]),
   a_ (.store 14 (t 8) (t 32))] none)
 (.seq (.seq (.region [a 33 (.load (some 12) (t 3)),
   a 34 (.call 67 [(t 33)]),
   a 35 (.load (some 12) (t 3)),
   a 36 (.call 68 [(t 35)]),
   a 37 (.call 42 [(t 34), (t 36)]),
   a 38 (.un .not (t 37)),
   a 39 (.mv (t 38)),
   g 40 39 false (.load (some 14) (t 8)),
   g 41 39 false (.load (some 12) (t 7)),
   g 42 39 false (.call 68 [(t 41)]),
   g 43 39 false (.call 42 [(t 40), (t 42)]),
   g 44 39 false (.un .not (t 43)),
   a 45 (.pick (t 39) (bo true) (t 44))] (some [[], [0], [], [2, 1, 0], [1, 3, 3, 2, 1, 0], [4, 1, 3, 3, 2, 1, 0], [5, 4, 4, 1, 3, 3, 2, 1, 0], [6, 5, 4, 4, 1, 3, 3, 2, 1, 0], [6, 5, 4, 4, 1, 3, 3, 2, 1, 0], [8, 6, 6, 6, 5, 4, 4, 1, 3, 3, 2, 1, 0], [7, 9, 9, 6, 8, 6, 6, 6, 6, 5, 4, 4, 1, 3, 3, 2, 1, 0], [10, 6, 7, 9, 9, 6, 8, 6, 6, 6, 6, 5, 4, 4, 1, 3, 3, 2, 1, 0], [6, 11, 10, 6, 7, 9, 9, 6, 8, 6, 6, 6, 6, 5, 4, 4, 1, 3, 3, 2, 1, 0]]))
 (.cond (t 45)
  (.seq (.region [a 6 (.mv (bo false))] none)
  .ret)
  .skip))
 (.seq (.seq (.region [a 46 (.fieldAddr 0 (t 8)),
   a 47 (.load none (t 46)),
   a 48 (.bin .eql (t 47) (i 0))] none)
 (.cond (t 48)
  (.seq (.region [a 49 (.fieldAddr 0 (t 7)),
    a 50 (.load none (t 49)),
    a 51 (.bin .leq (t 50) (i 4)),
    a 52 (.mv (t 51)),
    g 53 52 false (.fieldAddr 0 (t 7)),
    g 54 52 false (.load none (t 53)),
    g 55 52 false (.bin .eql (t 54) (i 23)),
    a 56 (.pick (t 52) (bo true) (t 55)),
    a 57 (.mv (t 56)),
    g 58 57 false (.fieldAddr 0 (t 7)),
    g 59 57 false (.load none (t 58)),
    g 60 57 false (.bin .eql (t 59) (i 43)),
    a 61 (.pick (t 57) (bo true) (t 60)),
    a 6 (.mv (t 61))] none)
  .ret)
  .skip))
 (.seq (.region [a 63 (.load (some 14) (t 8)),
   a 64 (.call 43 [(t 63)]),
   a 62 (.mv (t 64)),
   a 65 (.extract (t 62) 0),
   a 66 (.extract (t 62) 1),
   a 9 (.mv (t 65)),
   a 10 (.mv (t 66))] none)
 (.seq (.region [a 68 (.load (some 12) (t 7)),
   a 69 (.call 69 [(t 68)]),
   a 67 (.mv (t 69)),
   a 70 (.extract (t 67) 0),
   a 71 (.extract (t 67) 1),
   a 11 (.mv (t 70)),
   a 12 (.mv (t 71))] none)
 (.seq (.region [a 72 (.mv (t 10)),
   a 73 (.bin .eql (t 72) (i 0)),
   a 74 (.mv (t 73)),
   g 75 74 true (.mv (t 12)),
   g 76 74 true (.bin .eql (t 75) (i 0)),
   a 77 (.pick (t 74) (t 76) (bo false)),
   a 78 (.mv (t 77)),
   g 79 78 true (.mv (t 9)),
   g 80 78 true (.len false (t 79)),
   g 81 78 true (.mv (t 11)),
   g 82 78 true (.len false (t 81)),
   g 83 78 true (.bin .leq (t 80) (t 82)),
   a 84 (.pick (t 78) (t 83) (bo false)),
   a 85 (.mv (t 84)),
   g 86 85 true (.mv (t 9)),
   g 87 85 true (.bstr (t 86)),
   g 88 85 true (.mv (t 11)),
   g 89 85 true (.mv (t 9)),
   g 90 85 true (.len false (t 89)),
   g 91 85 true (.slice 1 (t 88) none (some (t 90))),
   g 92 85 true (.bstr (t 91)),
   g 93 85 true (.bin .eql (t 87) (t 92)),
   a 94 (.pick (t 85) (t 93) (bo false)),
   a 6 (.mv (t 94))] (some [[], [0], [1, 0], [2, 1, 0], [3, 2, 2, 1, 0], [2, 4, 3, 2, 2, 1, 0], [5, 2, 2, 4, 3, 2, 2, 1, 0], [6, 5, 2, 2, 4, 3, 2, 2, 1, 0], [7, 6, 6, 5, 2, 2, 4, 3, 2, 2, 1, 0], [6, 5, 2, 2, 4, 3, 2, 2, 1, 0], [9, 6, 6, 5, 2, 2, 4, 3, 2, 2, 1, 0], [8, 10, 6, 9, 6, 6, 7, 6, 6, 5, 2, 2, 4, 3, 2, 2, 1, 0], [6, 11, 8, 10, 6, 9, 6, 6, 7, 6, 6, 5, 2, 2, 4, 3, 2, 2, 1, 0], [12, 6, 6, 11, 8, 10, 6, 9, 6, 6, 7, 6, 6, 5, 2, 2, 4, 3, 2, 2, 1, 0], [13, 12, 6, 6, 11, 8, 10, 6, 9, 6, 6, 7, 6, 6, 5, 2, 2, 4, 3, 2, 2, 1, 0], [14, 13, 13, 12, 6, 6, 11, 8, 10, 6, 9, 6, 6, 7, 6, 6, 5, 2, 2, 4, 3, 2, 2, 1, 0], [13, 12, 6, 6, 11, 8, 10, 6, 9, 6, 6, 7, 6, 6, 5, 2, 2, 4, 3, 2, 2, 1, 0], [13, 12, 6, 6, 11, 8, 10, 6, 9, 6, 6, 7, 6, 6, 5, 2, 2, 4, 3, 2, 2, 1, 0], [17, 13, 13, 12, 6, 6, 11, 8, 10, 6, 9, 6, 6, 7, 6, 6, 5, 2, 2, 4, 3, 2, 2, 1, 0], [16, 18, 13, 17, 13, 13, 13, 12, 6, 6, 11, 8, 10, 6, 9, 6, 6, 7, 6, 6, 5, 2, 2, 4, 3, 2, 2, 1, 0], [19, 13, 16, 18, 13, 17, 13, 13, 13, 12, 6, 6, 11, 8, 10, 6, 9, 6, 6, 7, 6, 6, 5, 2, 2, 4, 3, 2, 2, 1, 0], [15, 20, 13, 19, 13, 16, 18, 13, 17, 13, 13, 13, 14, 13, 13, 12, 6, 6, 11, 8, 10, 6, 9, 6, 6, 7, 6, 6, 5, 2, 2, 4, 3, 2, 2, 1, 0], [13, 21, 15, 20, 13, 19, 13, 16, 18, 13, 17, 13, 13, 13, 14, 13, 13, 12, 6, 6, 11, 8, 10, 6, 9, 6, 6, 7, 6, 6, 5, 2, 2, 4, 3, 2, 2, 1, 0], [22, 13, 0, 1, 2, 3, 4, 5, 6, 7, 8, 9, 10, 11, 12, 13, 14, 15, 16, 17, 18, 19, 20, 21, 22, 13, 21, 15, 20, 13, 19, 13, 16, 18, 13, 17, 13, 13, 13, 14, 13, 13, 12, 6, 6, 11, 8, 10, 6, 9, 6, 6, 7, 6, 6, 5, 2, 2, 4, 3, 2, 2, 1, 0]]))
 .ret))))))))), [.tmp 6]⟩
theorem t19 : FnAt Try.prog 19 a19 := .mk Try.func19 (by kernel_rfl) (by kernel_rfl)
/-- busbar/busbarlaw7.awake -/
def a20 : AF := ⟨0, 37, (.seq (.region [a 0 (.mv (bo false))] none)
 (.seq (.region [a 4 (.build [(.t (.int .i64 0)), (.t (.str ⟨#[]⟩))] [(0, 1, (i 0)), (1, 1, (.k (.c (.t (.str ⟨#[97]⟩)))))]),
   a 5 (.build [(.t (.int .i64 0)), (.t (.str ⟨#[]⟩))] [(0, 1, (i 1)), (1, 1, (.k (.c (.t (.str ⟨#[98]⟩)))))]),
   a 6 (.build [(.t (.int .i64 0)), (.t (.str ⟨#[]⟩))] [(0, 1, (i 2)), (1, 1, (.k (.c (.t (.str ⟨#[99]⟩)))))]),
   a 7 (.mkList false 2 3 [(.int .i64 0), (.str ⟨#[]⟩)] [(0, (t 4)), (1, (t 5)), (2, (t 6))]),
   a 8 (.call 23 [(t 7), (i 1), (i 1)]),
   a 3 (.mv (t 8)),
   a 9 (.extract (t 3) 0),
   a 10 (.extract (t 3) 1),
   a 1 (.alloc [(.t (.int .i64 0)), (.t (.int .i64 0)), (.t .nil), (.t .nil), (.t (.int .i64 0)), (.t (.int .i64 0)), (.t (.int .u16 0)), (.t (.int .u16 0)), (.t (.int .u16 0)), (.t (.int .i64 0)), (.t (.int .i64 0)), (.t (.bool false)), (.t (.int .i64 0)), (.t .nil)]),
   a_ (.store 14 (t 1) (t 9)),
   a 2 (.mv (t 10))] none)
 (.seq (.region [a 11 (.mv (t 2)),
   a 12 (.bin .eql (t 11) (i 0)),
   a 13 (.mv (t 12)),
   g 14 13 true (.fieldAddr 10 (t 1)),
   g 15 13 true (.load none (t 14)),
   g 16 13 true (.bin .eql (t 15) (i 129)),
   a 17 (.pick (t 13) (t 16) (bo false)),
   a 18 (.mv (t 17)),
   g 19 18 true (.fieldAddr 13 (t 1)),
   g 20 18 true (.load none (t 19)),
   g 21 18 true (.len false (t 20)),
   g 22 18 true (.bin .eql (t 21) (i 2)),
   a 23 (.pick (t 18) (t 22) (bo false)),
   a 24 (.mv (t 23)),
   g 25 24 true (.fieldAddr 13 (t 1)),
   g 26 24 true (.load none (t 25)),
   g 27 24 true (.idxAddr 2 (t 26) (i 0)),
   g 28 24 true (.load (some 2) (t 27)),
   g 29 24 true (.build [(.t (.int .i64 0)), (.t (.str ⟨#[]⟩))] [(0, 1, (i 1)), (1, 1, (.k (.c (.t (.str ⟨#[98]⟩)))))]),
   g 30 24 true (.eqAgg false [.int, .str] (t 28) (t 29)),
   a 31 (.pick (t 24) (t 30) (bo false)),
   a 32 (.mv (t 31)),
   g 33 32 true (.fieldAddr 11 (t 1)),
   g 34 32 true (.load none (t 33)),
   g 35 32 true (.un .not (t 34)),
   a 36 (.pick (t 32) (t 35) (bo false)),
   a 0 (.mv (t 36))] none)
 .ret))), [.tmp 0]⟩
theorem t20 : FnAt Try.prog 20 a20 := .mk Try.func20 (by kernel_rfl) (by kernel_rfl)
/-- busbar/busbarlaw7.Objects -/
def a21 : AF := ⟨1, 71, (.seq (.region [a 2 (.mv (.k (.c (.t .nil))))] none)
 (.seq (.region [a 8 (.build [(.t (.int .i64 0)), (.t (.str ⟨#[]⟩))] [(0, 1, (i 0)), (1, 1, (.k (.c (.t (.str ⟨#[98, 117, 115, 98, 97, 114]⟩)))))]),
   a 9 (.build [(.t (.int .i64 0)), (.t (.str ⟨#[]⟩))] [(0, 1, (i 1))]),
   a 10 (.build [(.t (.int .i64 0)), (.t (.str ⟨#[]⟩))] [(0, 1, (i 2)), (1, 1, (.k (.c (.t (.str ⟨#[49]⟩)))))]),
   a 11 (.mkList false 2 3 [(.int .i64 0), (.str ⟨#[]⟩)] [(0, (t 8)), (1, (t 9)), (2, (t 10))]),
   a 3 (.mv (t 11))] none)
 (.seq (.region [a 4 (.mv (i 2))] none)
 (.seq (.seq (.region [a 5 (.mv (i 0))] none)
 (.block 0 (.loop
  (.seq (.seq (.region [a 12 (.mv (t 5)),
    a 13 (.mv (t 0)),
    a 14 (.len false (t 13)),
    a 15 (.bin .lss (t 12) (t 14)),
    a 16 (.mv (t 15)),
    g 17 16 true (.mv (t 5)),
    g 18 16 true (.bin .lss (t 17) (i 40)),
    a 19 (.pick (t 16) (t 18) (bo false))] none)
  (.cond (t 19)
   .skip
   (.exit 0)))
  (.seq (.block 1 (.seq (.region [a 22 (.mv (t 4)),
    a 23 (.bin .add (t 22) (i 1)),
    a 24 (.mv (t 0)),
    a 25 (.mv (t 5)),
    a 26 (.idxAddr 1 (t 24) (t 25)),
    a 27 (.load none (t 26)),
    a 28 (.call 22 [(t 27), (i 12)]),
    a 29 (.bin .add (t 23) (t 28)),
    a 4 (.mv (t 29))] none)
  (.seq (.seq (.region [a 30 (.mv (t 4)),
    a 31 (.bin .gtr (t 30) (i 255))] none)
  (.cond (t 31)
   (.exit 0)
   .skip))
  (.seq (.region [a 32 (.mv (t 0)),
    a 33 (.mv (t 5)),
    a 34 (.idxAddr 1 (t 32) (t 33)),
    a 35 (.load none (t 34)),
    a 36 (.call 49 [(t 35), (i 12), (i 245)]),
    a 37 (.mkSlice 1 1 [(.int .u8 0)] (t 36) (t 36)),
    a 6 (.mv (t 37))] none)
  (.seq (.seq (.region [a 7 (.mv (i 0))] none)
  (.block 2 (.loop
   (.seq (.seq (.region [a 38 (.mv (t 7)),
     a 39 (.mv (t 6)),
     a 40 (.len false (t 39)),
     a 41 (.bin .lss (t 38) (t 40))] none)
   (.cond (t 41)
    .skip
    (.exit 2)))
   (.seq (.block 3 (.region [a 44 (.mv (t 6)),
     a 45 (.mv (t 7)),
     a 46 (.mv (t 7)),
     a 47 (.bin .rem (t 46) (i 26)),
     a 48 (.bin .add (i 97) (t 47)),
     a 49 (.conv .u8 (t 48)),
     a 50 (.idxAddr 1 (t 44) (t 45)),
     a_ (.store 1 (t 50) (t 49))] none))
   (.region [a 42 (.mv (t 7)),
     a 43 (.bin .add (t 42) (i 1)),
     a 7 (.mv (t 43))] none))))))
  (.region [a 51 (.mv (t 3)),
    a 52 (.mv (t 4)),
    a 53 (.mv (t 6)),
    a 54 (.bstr (t 53)),
    a 55 (.build [(.t (.int .i64 0)), (.t (.str ⟨#[]⟩))] [(0, 1, (t 52)), (1, 1, (t 54))]),
    a 56 (.mkList false 2 1 [(.int .i64 0), (.str ⟨#[]⟩)] [(0, (t 55))]),
    a 57 (.append 2 24 [(.int .i64 0), (.str ⟨#[]⟩)] (t 51) (t 56)),
    a 3 (.mv (t 57))] none))))))
  (.region [a 20 (.mv (t 5)),
    a 21 (.bin .add (t 20) (i 1)),
    a 5 (.mv (t 21))] none))))))
 (.seq (.seq (.region [a 58 (.mv (t 0)),
   a 59 (.len false (t 58)),
   a 60 (.bin .gtr (t 59) (i 0))] none)
 (.cond (t 60)
  (.region [a 61 (.mv (t 3)),
    a 62 (.mv (t 0)),
    a 63 (.idxAddr 1 (t 62) (i 0)),
    a 64 (.load none (t 63)),
    a 65 (.call 49 [(t 64), (i 2940), (i 245)]),
    a 66 (.mkSlice 1 1 [(.int .u8 0)] (t 65) (t 65)),
    a 67 (.bstr (t 66)),
    a 68 (.idxAddr 2 (t 61) (i 1)),
    a 69 (.fieldAddr 1 (t 68)),
    a_ (.store 1 (t 69) (t 67))] none)
  .skip))
 (.seq (.region [a 70 (.mv (t 3)),
   a 2 (.mv (t 70))] none)
 .ret)))))), [.tmp 2]⟩
theorem t21 : FnAt Try.prog 21 a21 := .mk Try.func21 (by kernel_rfl) (by kernel_rfl)
/-- busbar/iden.Answer -/
def a23 : AF := ⟨3, 80, (.seq (.region [a 6 (.alloc [(.t (.int .i64 0)), (.t (.int .i64 0)), (.t .nil), (.t .nil), (.t (.int .i64 0)), (.t (.int .i64 0)), (.t (.int .u16 0)), (.t (.int .u16 0)), (.t (.int .u16 0)), (.t (.int .i64 0)), (.t (.int .i64 0)), (.t (.bool false)), (.t (.int .i64 0)), (.t .nil)]),
   a 7 (.mv (i 0))] none)
 (.seq (.seq (.region [a 13 (.mv (t 1)),
   a 14 (.bin .lss (t 13) (i 1)),
   a 15 (.mv (t 14)),
   g 16 15 false (.mv (t 1)),
   g 17 15 false (.bin .gtr (t 16) (i 4)),
   a 18 (.pick (t 15) (bo true) (t 17)),
   a 19 (.mv (t 18)),
   g 20 19 false (.mv (t 2)),
   g 21 19 false (.bin .lss (t 20) (i 0)),
   a 22 (.pick (t 19) (bo true) (t 21)),
   a 23 (.mv (t 22)),
   g 24 23 false (.mv (t 2)),
   g 25 23 false (.bin .gtr (t 24) (i 255)),
   a 26 (.pick (t 23) (bo true) (t 25))] none)
 (.cond (t 26)
  (.seq (.region [a 27 (.build [(.t (.int .i64 0)), (.t (.int .i64 0)), (.t .nil), (.t .nil), (.t (.int .i64 0)), (.t (.int .i64 0)), (.t (.int .u16 0)), (.t (.int .u16 0)), (.t (.int .u16 0)), (.t (.int .i64 0)), (.t (.int .i64 0)), (.t (.bool false)), (.t (.int .i64 0)), (.t .nil)] []),
    a_ (.store 14 (t 6) (t 27)),
    a 7 (.mv (i 3))] none)
  .ret)
  .skip))
 (.seq (.region [a 28 (.mv (t 1)),
   a 29 (.mv (t 0)),
   a 30 (.call 30 [(t 29)]),
   a 31 (.build [(.t (.int .i64 0)), (.t (.int .i64 0)), (.t .nil), (.t .nil), (.t (.int .i64 0)), (.t (.int .i64 0)), (.t (.int .u16 0)), (.t (.int .u16 0)), (.t (.int .u16 0)), (.t (.int .i64 0)), (.t (.int .i64 0)), (.t (.bool false)), (.t (.int .i64 0)), (.t .nil)] [(0, 1, (i 43)), (9, 1, (t 28)), (10, 1, (t 30))]),
   a 8 (.alloc [(.t (.int .i64 0)), (.t (.int .i64 0)), (.t .nil), (.t .nil), (.t (.int .i64 0)), (.t (.int .i64 0)), (.t (.int .u16 0)), (.t (.int .u16 0)), (.t (.int .u16 0)), (.t (.int .i64 0)), (.t (.int .i64 0)), (.t (.bool false)), (.t (.int .i64 0)), (.t .nil)]),
   a_ (.store 14 (t 8) (t 31))] none)
 (.seq (.seq (.region [a 32 (.mv (t 1)),
   a 33 (.bin .eql (t 32) (i 4))] none)
 (.cond (t 33)
  (.seq (.region [a 34 (.mv (t 0)),
    a 35 (.mv (t 2)),
    a 36 (.call 70 [(t 34), (t 35)]),
    a 9 (.mv (t 36))] none)
  (.seq (.seq (.region [a 37 (.mv (t 9)),
    a 38 (.bin .lss (t 37) (i 0))] none)
  (.cond (t 38)
   (.seq (.region [a 39 (.build [(.t (.int .i64 0)), (.t (.int .i64 0)), (.t .nil), (.t .nil), (.t (.int .i64 0)), (.t (.int .i64 0)), (.t (.int .u16 0)), (.t (.int .u16 0)), (.t (.int .u16 0)), (.t (.int .i64 0)), (.t (.int .i64 0)), (.t (.bool false)), (.t (.int .i64 0)), (.t .nil)] []),
     a_ (.store 14 (t 6) (t 39)),
     a 7 (.mv (i 2))] none)
   .ret)
   .skip))
  (.seq (.region [a 40 (.mv (t 0)),
    a 41 (.mv (t 9)),
    a 42 (.idxAddr 2 (t 40) (t 41)),
    a 43 (.load (some 2) (t 42)),
    a 44 (.mkList false 2 1 [(.int .i64 0), (.str ⟨#[]⟩)] [(0, (t 43))]),
    a 45 (.fieldAddr 13 (t 8)),
    a_ (.store 1 (t 45) (t 44))] none)
  (.seq (.region [a 46 (.load (some 14) (t 8)),
    a_ (.store 14 (t 6) (t 46)),
    a 7 (.mv (i 0))] none)
  .ret))))
  .skip))
 (.seq (.region [a 47 (.mv (t 0)),
   a 48 (.mv (t 1)),
   a 49 (.call 71 [(t 47), (t 48)]),
   a 0 (.mv (t 49))] none)
 (.seq (.region [a 50 (.mv (t 0)),
   a 51 (.mv (t 0)),
   a 52 (.mv (t 2)),
   a 53 (.call 70 [(t 51), (t 52)]),
   a 54 (.minmax true (t 53) (i 0)),
   a 55 (.slice 2 (t 50) (some (t 54)) none),
   a 0 (.mv (t 55))] none)
 (.seq (.seq (.region [a 56 (.mv (t 0)),
   a 57 (.len false (t 56)),
   a 58 (.mv (i 0))] none)
 (.block 0 (.loop
  (.seq (.region [a 59 (.bin .lss (t 58) (t 57))] none)
  (.seq (.cond (t 59)
   .skip
   (.exit 0))
  (.seq (.block 1 (.seq (.region [a 60 (.idxAddr 2 (t 56) (t 58)),
    a 61 (.load (some 2) (t 60)),
    a 11 (.alloc [(.t (.int .i64 0)), (.t (.str ⟨#[]⟩))]),
    a_ (.store 2 (t 11) (t 61))] none)
  (.seq (.region [a 62 (.load (some 14) (t 8)),
    a 12 (.alloc [(.t (.int .i64 0)), (.t (.int .i64 0)), (.t .nil), (.t .nil), (.t (.int .i64 0)), (.t (.int .i64 0)), (.t (.int .u16 0)), (.t (.int .u16 0)), (.t (.int .u16 0)), (.t (.int .i64 0)), (.t (.int .i64 0)), (.t (.bool false)), (.t (.int .i64 0)), (.t .nil)]),
    a_ (.store 14 (t 12) (t 62))] none)
  (.seq (.region [a 63 (.fieldAddr 13 (t 8)),
    a 64 (.load none (t 63)),
    a 65 (.call 72 [(t 64)]),
    a 66 (.load (some 2) (t 11)),
    a 67 (.mkList false 2 1 [(.int .i64 0), (.str ⟨#[]⟩)] [(0, (t 66))]),
    a 68 (.append 2 24 [(.int .i64 0), (.str ⟨#[]⟩)] (t 65) (t 67)),
    a 69 (.fieldAddr 13 (t 12)),
    a_ (.store 1 (t 69) (t 68))] (some [[], [0], [1, 0], [], [3], [2, 4, 2, 3, 1, 0], [0, 1, 2, 3, 4, 5, 2, 4, 2, 3, 1, 0], [6, 5, 5, 0, 1, 2, 3, 4, 5, 0, 1, 2, 3, 4, 5, 2, 4, 2, 3, 1, 0]]))
  (.seq (.seq (.region [a 70 (.load (some 14) (t 12)),
    a 71 (.call 73 [(t 70)]),
    a 72 (.un .not (t 71))] none)
  (.cond (t 72)
   (.seq (.region [a 73 (.fieldAddr 0 (t 11)),
     a 74 (.load none (t 73)),
     a 75 (.fieldAddr 11 (t 8)),
     a_ (.store 1 (t 75) (bo true)),
     a 76 (.fieldAddr 12 (t 8)),
     a_ (.store 1 (t 76) (t 74))] (some [[], [0], [], [2], [0, 1, 2, 3, 2, 0], [4, 1, 3, 0, 1, 2, 3, 0, 1, 2, 3, 2, 0]]))
   (.exit 0))
   .skip))
  (.region [a 77 (.load (some 14) (t 12)),
    a_ (.store 14 (t 8) (t 77))] none))))))
  (.region [a 78 (.bin .add (t 58) (i 1)),
    a 58 (.mv (t 78))] none)))))))
 (.seq (.region [a 79 (.load (some 14) (t 8)),
   a_ (.store 14 (t 6) (t 79)),
   a 7 (.mv (i 0))] none)
 .ret)))))))), [.cell 6 (some 14), .tmp 7]⟩
theorem t23 : FnAt Try.prog 23 a23 := .mk Try.func23 (by kernel_rfl) (by kernel_rfl)
/-- busbar/busbarlaw0.SameObjects -/
def a24 : AF := ⟨2, 26, (.seq (.region [a 4 (.mv (bo false))] none)
 (.seq (.seq (.region [a 6 (.mv (t 0)),
   a 7 (.len false (t 6)),
   a 8 (.mv (t 1)),
   a 9 (.len false (t 8)),
   a 10 (.bin .neq (t 7) (t 9))] none)
 (.cond (t 10)
  (.seq (.region [a 4 (.mv (bo false))] none)
  .ret)
  .skip))
 (.seq (.seq (.region [a 5 (.mv (i 0))] none)
 (.block 0 (.loop
  (.seq (.seq (.region [a 11 (.mv (t 5)),
    a 12 (.mv (t 0)),
    a 13 (.len false (t 12)),
    a 14 (.bin .lss (t 11) (t 13))] none)
  (.cond (t 14)
   .skip
   (.exit 0)))
  (.seq (.block 1 (.seq (.region [a 17 (.mv (t 0)),
    a 18 (.mv (t 5)),
    a 19 (.idxAddr 2 (t 17) (t 18)),
    a 20 (.load (some 2) (t 19)),
    a 21 (.mv (t 1)),
    a 22 (.mv (t 5)),
    a 23 (.idxAddr 2 (t 21) (t 22)),
    a 24 (.load (some 2) (t 23)),
    a 25 (.eqAgg true [.int, .str] (t 20) (t 24))] (some [[], [], [0, 1], [2, 0, 1], [], [], [4, 5], [6, 4, 5], [3, 7, 6, 4, 5, 2, 0, 1]]))
  (.cond (t 25)
   (.seq (.region [a 4 (.mv (bo false))] none)
   .ret)
   .skip)))
  (.region [a 15 (.mv (t 5)),
    a 16 (.bin .add (t 15) (i 1)),
    a 5 (.mv (t 16))] none))))))
 (.seq (.region [a 4 (.mv (bo true))] none)
 .ret)))), [.tmp 4]⟩
theorem t24 : FnAt Try.prog 24 a24 := .mk Try.func24 (by kernel_rfl) (by kernel_rfl)
/-- busbar/busbarlaw7.few -/
def a25 : AF := ⟨1, 24, (.seq (.region [a 2 (.mv (bo false))] none)
 (.seq (.seq (.region [a 3 (.mv (i 0))] none)
 (.block 0 (.loop
  (.seq (.seq (.region [a 4 (.mv (t 3)),
    a 5 (.mv (t 0)),
    a 6 (.len false (t 5)),
    a 7 (.bin .lss (t 4) (t 6)),
    a 8 (.mv (t 7)),
    g 9 8 true (.mv (t 3)),
    g 10 8 true (.bin .leq (t 9) (i 60)),
    a 11 (.pick (t 8) (t 10) (bo false))] none)
  (.cond (t 11)
   .skip
   (.exit 0)))
  (.seq (.block 1 (.seq (.region [a 14 (.mv (t 0)),
    a 15 (.mv (t 3)),
    a 16 (.idxAddr 2 (t 14) (t 15)),
    a 17 (.fieldAddr 1 (t 16)),
    a 18 (.load none (t 17)),
    a 19 (.len true (t 18)),
    a 20 (.bin .gtr (t 19) (i 300))] none)
  (.cond (t 20)
   (.seq (.region [a 2 (.mv (bo false))] none)
   .ret)
   .skip)))
  (.region [a 12 (.mv (t 3)),
    a 13 (.bin .add (t 12) (i 1)),
    a 3 (.mv (t 13))] none))))))
 (.seq (.region [a 21 (.mv (t 0)),
   a 22 (.len false (t 21)),
   a 23 (.bin .leq (t 22) (i 60)),
   a 2 (.mv (t 23))] none)
 .ret))), [.tmp 2]⟩
theorem t25 : FnAt Try.prog 25 a25 := .mk Try.func25 (by kernel_rfl) (by kernel_rfl)
/-- busbar/busbarlaw0.LentObjects -/
def a26 : AF := ⟨1, 28, (.seq (.region [a 2 (.mv (.k (.c (.t .nil))))] none)
 (.seq (.region [a 5 (.mv (t 0)),
   a 6 (.len false (t 5)),
   a 7 (.bin .add (t 6) (i 3)),
   a 8 (.mkSlice 2 24 [(.int .i64 0), (.str ⟨#[]⟩)] (t 7) (t 7)),
   a 3 (.mv (t 8))] none)
 (.seq (.region [a 9 (.mv (t 3)),
   a 10 (.mv (t 0)),
   a 11 (.copy 2 (t 9) (t 10))] none)
 (.seq (.seq (.region [a 12 (.mv (t 0)),
   a 13 (.len false (t 12)),
   a 4 (.mv (t 13))] none)
 (.block 0 (.loop
  (.seq (.seq (.region [a 14 (.mv (t 4)),
    a 15 (.mv (t 3)),
    a 16 (.len false (t 15)),
    a 17 (.bin .lss (t 14) (t 16))] none)
  (.cond (t 17)
   .skip
   (.exit 0)))
  (.seq (.block 1 (.region [a 20 (.mv (t 3)),
    a 21 (.mv (t 4)),
    a 22 (.build [(.t (.int .i64 0)), (.t (.str ⟨#[]⟩))] [(0, 1, (i 7)), (1, 1, (.k (.c (.t (.str ⟨#[109]⟩)))))]),
    a 23 (.idxAddr 2 (t 20) (t 21)),
    a_ (.store 2 (t 23) (t 22))] none))
  (.region [a 18 (.mv (t 4)),
    a 19 (.bin .add (t 18) (i 1)),
    a 4 (.mv (t 19))] none))))))
 (.seq (.region [a 24 (.mv (t 3)),
   a 25 (.mv (t 0)),
   a 26 (.len false (t 25)),
   a 27 (.slice 2 (t 24) none (some (t 26))),
   a 2 (.mv (t 27))] none)
 .ret))))), [.tmp 2]⟩
theorem t26 : FnAt Try.prog 26 a26 := .mk Try.func26 (by kernel_rfl) (by kernel_rfl)
/-- busbar/iden.Check -/
def a27 : AF := ⟨1, 58, (.seq (.region [a 2 (.mv (i 0))] none)
 (.seq (.seq (.region [a 8 (.mv (t 0)),
   a 9 (.len false (t 8)),
   a 10 (.mv (i 0))] none)
 (.block 0 (.loop
  (.seq (.region [a 11 (.bin .lss (t 10) (t 9))] none)
  (.seq (.cond (t 11)
   .skip
   (.exit 0))
  (.seq (.block 1 (.seq (.region [a 12 (.mv (t 10)),
    a 13 (.idxAddr 2 (t 8) (t 10)),
    a 14 (.load (some 2) (t 13)),
    a 4 (.alloc [(.t (.int .i64 0)), (.t (.str ⟨#[]⟩))]),
    a 3 (.mv (t 12)),
    a_ (.store 2 (t 4) (t 14))] none)
  (.seq (.region [a 15 (.fieldAddr 0 (t 4)),
    a 16 (.load none (t 15)),
    a 17 (.bin .lss (t 16) (i 0)),
    a 18 (.mv (t 17)),
    g 19 18 false (.fieldAddr 0 (t 4)),
    g 20 18 false (.load none (t 19)),
    g 21 18 false (.bin .gtr (t 20) (i 255)),
    a 22 (.pick (t 18) (bo true) (t 21)),
    a 23 (.mv (t 22)),
    g 24 23 false (.mv (t 3)),
    g 25 23 false (.bin .gtr (t 24) (i 0)),
    g 26 23 false (.mv (t 25)),
    g 27 26 true (.fieldAddr 0 (t 4)),
    g 28 26 true (.load none (t 27)),
    g 29 26 true (.mv (t 0)),
    g 30 26 true (.mv (t 3)),
    g 31 26 true (.bin .sub (t 30) (i 1)),
    g 32 26 true (.idxAddr 2 (t 29) (t 31)),
    g 33 26 true (.fieldAddr 0 (t 32)),
    g 34 26 true (.load none (t 33)),
    g 35 26 true (.bin .leq (t 28) (t 34)),
    g 36 23 false (.pick (t 26) (t 35) (bo false)),
    a 37 (.pick (t 23) (bo true) (t 36))] (some [[], [0], [1, 0], [2, 1, 0], [3, 2, 1, 0], [4, 3, 3, 2, 1, 0], [5, 3, 4, 3, 3, 2, 1, 0], [3, 6, 5, 3, 4, 3, 3, 2, 1, 0], [7, 3, 3, 6, 5, 3, 4, 3, 3, 2, 1, 0], [8, 7, 3, 3, 6, 5, 3, 4, 3, 3, 2, 1, 0], [9, 8, 8, 7, 3, 3, 6, 5, 3, 4, 3, 3, 2, 1, 0], [10, 8, 8, 9, 8, 8, 7, 3, 3, 6, 5, 3, 4, 3, 3, 2, 1, 0], [11, 10, 8, 8, 9, 8, 8, 7, 3, 3, 6, 5, 3, 4, 3, 3, 2, 1, 0], [12, 11, 11, 10, 8, 8, 9, 8, 8, 7, 3, 3, 6, 5, 3, 4, 3, 3, 2, 1, 0], [11, 10, 8, 8, 9, 8, 8, 7, 3, 3, 6, 5, 3, 4, 3, 3, 2, 1, 0], [11, 10, 8, 8, 9, 8, 8, 7, 3, 3, 6, 5, 3, 4, 3, 3, 2, 1, 0], [15, 11, 11, 10, 8, 8, 9, 8, 8, 7, 3, 3, 6, 5, 3, 4, 3, 3, 2, 1, 0], [14, 16, 11, 15, 11, 11, 11, 10, 8, 8, 9, 8, 8, 7, 3, 3, 6, 5, 3, 4, 3, 3, 2, 1, 0], [17, 11, 14, 16, 11, 15, 11, 11, 11, 10, 8, 8, 9, 8, 8, 7, 3, 3, 6, 5, 3, 4, 3, 3, 2, 1, 0], [18, 11, 17, 11, 14, 16, 11, 15, 11, 11, 11, 10, 8, 8, 9, 8, 8, 7, 3, 3, 6, 5, 3, 4, 3, 3, 2, 1, 0], [13, 19, 11, 18, 11, 17, 11, 14, 16, 11, 15, 11, 11, 11, 12, 11, 11, 10, 8, 8, 9, 8, 8, 7, 3, 3, 6, 5, 3, 4, 3, 3, 2, 1, 0], [11, 20, 8, 13, 19, 11, 18, 11, 17, 11, 14, 16, 11, 15, 11, 11, 11, 12, 11, 11, 10, 8, 8, 9, 8, 8, 7, 3, 3, 6, 5, 3, 4, 3, 3, 2, 1, 0], [8, 21, 11, 20, 8, 13, 19, 11, 18, 11, 17, 11, 14, 16, 11, 15, 11, 11, 11, 12, 11, 11, 10, 8, 8, 9, 8, 8, 7, 3, 3, 6, 5, 3, 4, 3, 3, 2, 1, 0]]))
  (.cond (t 37)
   (.seq (.region [a 2 (.mv (i 1))] none)
   .ret)
   .skip))))
  (.region [a 38 (.bin .add (t 10) (i 1)),
    a 10 (.mv (t 38))] none)))))))
 (.seq (.seq (.region [a 39 (.mv (t 0)),
   a 40 (.len false (t 39)),
   a 41 (.mv (i 0))] none)
 (.block 2 (.loop
  (.seq (.region [a 42 (.bin .lss (t 41) (t 40))] none)
  (.seq (.cond (t 42)
   .skip
   (.exit 2))
  (.seq (.block 3 (.seq (.region [a 43 (.idxAddr 2 (t 39) (t 41)),
    a 44 (.load (some 2) (t 43)),
    a 6 (.alloc [(.t (.int .i64 0)), (.t (.str ⟨#[]⟩))]),
    a_ (.store 2 (t 6) (t 44))] none)
  (.seq (.region [a 45 (.fieldAddr 1 (t 6)),
    a 46 (.load none (t 45)),
    a 47 (.len true (t 46)),
    a 48 (.bin .gtr (t 47) (i 244))] none)
  (.cond (t 48)
   (.seq (.region [a 2 (.mv (i 4))] none)
   .ret)
   .skip))))
  (.region [a 49 (.bin .add (t 41) (i 1)),
    a 41 (.mv (t 49))] none)))))))
 (.seq (.seq (.region [a 50 (.mv (i 0))] none)
 (.block 4 (.loop
  (.seq (.region [a 51 (.bin .lss (t 50) (i 3))] none)
  (.seq (.cond (t 51)
   .skip
   (.exit 4))
  (.seq (.block 5 (.seq (.region [a 52 (.mv (t 50)),
    a 7 (.mv (t 52))] none)
  (.seq (.region [a 53 (.mv (t 0)),
    a 54 (.mv (t 7)),
    a 55 (.call 70 [(t 53), (t 54)]),
    a 56 (.bin .lss (t 55) (i 0))] none)
  (.cond (t 56)
   (.seq (.region [a 2 (.mv (i 5))] none)
   .ret)
   .skip))))
  (.region [a 57 (.bin .add (t 50) (i 1)),
    a 50 (.mv (t 57))] none)))))))
 (.seq (.region [a 2 (.mv (i 0))] none)
 .ret))))), [.tmp 2]⟩
theorem t27 : FnAt Try.prog 27 a27 := .mk Try.func27 (by kernel_rfl) (by kernel_rfl)
/-- busbar/busbarref5.Objects -/
def a28 : AF := ⟨1, 67, (.seq (.region [a 2 (.mv (i 0))] none)
 (.seq (.seq (.region [a 3 (.mv (i 0))] none)
 (.block 0 (.loop
  (.seq (.seq (.region [a 6 (.mv (t 3)),
    a 7 (.mv (t 0)),
    a 8 (.len false (t 7)),
    a 9 (.bin .lss (t 6) (t 8))] none)
  (.cond (t 9)
   .skip
   (.exit 0)))
  (.seq (.block 1 (.seq (.region [a 12 (.mv (t 0)),
    a 13 (.mv (t 3)),
    a 14 (.idxAddr 2 (t 12) (t 13)),
    a 15 (.fieldAddr 0 (t 14)),
    a 16 (.load none (t 15)),
    a 17 (.call 74 [(t 16)]),
    a 18 (.un .not (t 17)),
    a 19 (.mv (t 18)),
    g 20 19 false (.mv (t 3)),
    g 21 19 false (.bin .gtr (t 20) (i 0)),
    g 22 19 false (.mv (t 21)),
    g 23 22 true (.mv (t 0)),
    g 24 22 true (.mv (t 3)),
    g 25 22 true (.bin .sub (t 24) (i 1)),
    g 26 22 true (.idxAddr 2 (t 23) (t 25)),
    g 27 22 true (.fieldAddr 0 (t 26)),
    g 28 22 true (.load none (t 27)),
    g 29 22 true (.mv (t 0)),
    g 30 22 true (.mv (t 3)),
    g 31 22 true (.idxAddr 2 (t 29) (t 30)),
    g 32 22 true (.fieldAddr 0 (t 31)),
    g 33 22 true (.load none (t 32)),
    g 34 22 true (.bin .geq (t 28) (t 33)),
    g 35 19 false (.pick (t 22) (t 34) (bo false)),
    a 36 (.pick (t 19) (bo true) (t 35))] (some [[], [], [0, 1], [2, 0, 1], [3, 2, 0, 1], [4, 3, 2, 0, 1], [5, 4, 3, 2, 0, 1], [6, 5, 5, 4, 3, 2, 0, 1], [7, 6, 5, 5, 4, 3, 2, 0, 1], [8, 7, 7, 6, 5, 5, 4, 3, 2, 0, 1], [9, 7, 7, 8, 7, 7, 6, 5, 5, 4, 3, 2, 0, 1], [10, 9, 7, 7, 8, 7, 7, 6, 5, 5, 4, 3, 2, 0, 1], [10, 9, 7, 7, 8, 7, 7, 6, 5, 5, 4, 3, 2, 0, 1], [12, 10, 10, 9, 7, 7, 8, 7, 7, 6, 5, 5, 4, 3, 2, 0, 1], [11, 13, 10, 12, 10, 10, 10, 9, 7, 7, 8, 7, 7, 6, 5, 5, 4, 3, 2, 0, 1], [14, 10, 11, 13, 10, 12, 10, 10, 10, 9, 7, 7, 8, 7, 7, 6, 5, 5, 4, 3, 2, 0, 1], [15, 10, 14, 10, 11, 13, 10, 12, 10, 10, 10, 9, 7, 7, 8, 7, 7, 6, 5, 5, 4, 3, 2, 0, 1], [10, 9, 7, 7, 8, 7, 7, 6, 5, 5, 4, 3, 2, 0, 1], [10, 9, 7, 7, 8, 7, 7, 6, 5, 5, 4, 3, 2, 0, 1], [17, 18, 10, 10, 10, 9, 7, 7, 8, 7, 7, 6, 5, 5, 4, 3, 2, 0, 1], [19, 10, 17, 18, 10, 10, 10, 9, 7, 7, 8, 7, 7, 6, 5, 5, 4, 3, 2, 0, 1], [20, 10, 19, 10, 17, 18, 10, 10, 10, 9, 7, 7, 8, 7, 7, 6, 5, 5, 4, 3, 2, 0, 1], [16, 21, 10, 20, 10, 19, 10, 17, 18, 10, 10, 10, 15, 10, 14, 10, 11, 13, 10, 12, 10, 10, 10, 9, 7, 7, 8, 7, 7, 6, 5, 5, 4, 3, 2, 0, 1], [10, 22, 7, 16, 21, 10, 20, 10, 19, 10, 17, 18, 10, 10, 10, 15, 10, 14, 10, 11, 13, 10, 12, 10, 10, 10, 9, 7, 7, 8, 7, 7, 6, 5, 5, 4, 3, 2, 0, 1], [7, 23, 10, 22, 7, 16, 21, 10, 20, 10, 19, 10, 17, 18, 10, 10, 10, 15, 10, 14, 10, 11, 13, 10, 12, 10, 10, 10, 9, 7, 7, 8, 7, 7, 6, 5, 5, 4, 3, 2, 0, 1]]))
  (.cond (t 36)
   (.seq (.region [a 2 (.mv (i 1))] none)
   .ret)
   .skip)))
  (.region [a 10 (.mv (t 3)),
    a 11 (.bin .add (t 10) (i 1)),
    a 3 (.mv (t 11))] none))))))
 (.seq (.seq (.region [a 4 (.mv (i 0))] none)
 (.block 2 (.loop
  (.seq (.seq (.region [a 37 (.mv (t 4)),
    a 38 (.mv (t 0)),
    a 39 (.len false (t 38)),
    a 40 (.bin .lss (t 37) (t 39))] none)
  (.cond (t 40)
   .skip
   (.exit 2)))
  (.seq (.block 3 (.seq (.region [a 43 (.mv (t 0)),
    a 44 (.mv (t 4)),
    a 45 (.idxAddr 2 (t 43) (t 44)),
    a 46 (.fieldAddr 1 (t 45)),
    a 47 (.load none (t 46)),
    a 48 (.len true (t 47)),
    a 49 (.bin .gtr (t 48) (i 244))] none)
  (.cond (t 49)
   (.seq (.region [a 2 (.mv (i 4))] none)
   .ret)
   .skip)))
  (.region [a 41 (.mv (t 4)),
    a 42 (.bin .add (t 41) (i 1)),
    a 4 (.mv (t 42))] none))))))
 (.seq (.seq (.region [a 5 (.mv (i 0))] none)
 (.block 4 (.loop
  (.seq (.seq (.region [a 50 (.mv (t 5)),
    a 51 (.bin .lss (t 50) (i 3))] none)
  (.cond (t 51)
   .skip
   (.exit 4)))
  (.seq (.block 5 (.seq (.region [a 54 (.mv (t 5)),
    a 55 (.mv (t 0)),
    a 56 (.len false (t 55)),
    a 57 (.bin .geq (t 54) (t 56)),
    a 58 (.mv (t 57)),
    g 59 58 false (.mv (t 0)),
    g 60 58 false (.mv (t 5)),
    g 61 58 false (.idxAddr 2 (t 59) (t 60)),
    g 62 58 false (.fieldAddr 0 (t 61)),
    g 63 58 false (.load none (t 62)),
    g 64 58 false (.mv (t 5)),
    g 65 58 false (.bin .neq (t 63) (t 64)),
    a 66 (.pick (t 58) (bo true) (t 65))] none)
  (.cond (t 66)
   (.seq (.region [a 2 (.mv (i 5))] none)
   .ret)
   .skip)))
  (.region [a 52 (.mv (t 5)),
    a 53 (.bin .add (t 52) (i 1)),
    a 5 (.mv (t 53))] none))))))
 (.seq (.region [a 2 (.mv (i 0))] none)
 .ret))))), [.tmp 2]⟩
theorem t28 : FnAt Try.prog 28 a28 := .mk Try.func28 (by kernel_rfl) (by kernel_rfl)
/-- busbar/busbarlaw0.StaysObjects -/
def a29 : AF := ⟨2, 52, (.seq (.region [a 4 (.mv (bo false))] none)
 (.seq (.seq (.region [a 7 (.mv (t 0)),
   a 8 (.len false (t 7)),
   a 9 (.mv (t 1)),
   a 10 (.len false (t 9)),
   a 11 (.bin .neq (t 8) (t 10))] none)
 (.cond (t 11)
  (.seq (.region [a 4 (.mv (bo false))] none)
  .ret)
  .skip))
 (.seq (.region [a 12 (.mv (t 0)),
   a 13 (.mv (t 1)),
   a 14 (.len false (t 13)),
   a 15 (.bin .add (t 14) (i 3)),
   a 16 (.slice 2 (t 12) none (some (t 15))),
   a 5 (.mv (t 16))] none)
 (.seq (.seq (.region [a 6 (.mv (i 0))] none)
 (.block 0 (.loop
  (.seq (.seq (.region [a 17 (.mv (t 6)),
    a 18 (.mv (t 5)),
    a 19 (.len false (t 18)),
    a 20 (.bin .lss (t 17) (t 19))] none)
  (.cond (t 20)
   .skip
   (.exit 0)))
  (.seq (.block 1 (.seq (.region [a 23 (.mv (t 6)),
    a 24 (.mv (t 1)),
    a 25 (.len false (t 24)),
    a 26 (.bin .lss (t 23) (t 25)),
    a 27 (.mv (t 26)),
    g 28 27 true (.mv (t 5)),
    g 29 27 true (.mv (t 6)),
    g 30 27 true (.idxAddr 2 (t 28) (t 29)),
    g 31 27 true (.load (some 2) (t 30)),
    g 32 27 true (.mv (t 1)),
    g 33 27 true (.mv (t 6)),
    g 34 27 true (.idxAddr 2 (t 32) (t 33)),
    g 35 27 true (.load (some 2) (t 34)),
    g 36 27 true (.eqAgg true [.int, .str] (t 31) (t 35)),
    a 37 (.pick (t 27) (t 36) (bo false)),
    a 38 (.mv (t 37)),
    g 39 38 false (.mv (t 6)),
    g 40 38 false (.mv (t 1)),
    g 41 38 false (.len false (t 40)),
    g 42 38 false (.bin .geq (t 39) (t 41)),
    g 43 38 false (.mv (t 42)),
    g 44 43 true (.mv (t 5)),
    g 45 43 true (.mv (t 6)),
    g 46 43 true (.idxAddr 2 (t 44) (t 45)),
    g 47 43 true (.load (some 2) (t 46)),
    g 48 43 true (.build [(.t (.int .i64 0)), (.t (.str ⟨#[]⟩))] [(0, 1, (i 7)), (1, 1, (.k (.c (.t (.str ⟨#[109]⟩)))))]),
    g 49 43 true (.eqAgg true [.int, .str] (t 47) (t 48)),
    g 50 38 false (.pick (t 43) (t 49) (bo false)),
    a 51 (.pick (t 38) (bo true) (t 50))] (some [[], [], [1], [0, 2, 1], [3, 0, 2, 1], [4, 3, 0, 2, 1], [4, 3, 0, 2, 1], [5, 6, 4, 4, 4, 3, 0, 2, 1], [7, 4, 5, 6, 4, 4, 4, 3, 0, 2, 1], [4, 3, 0, 2, 1], [4, 3, 0, 2, 1], [9, 10, 4, 4, 4, 3, 0, 2, 1], [11, 4, 9, 10, 4, 4, 4, 3, 0, 2, 1], [8, 12, 4, 11, 4, 9, 10, 4, 4, 4, 7, 4, 5, 6, 4, 4, 4, 3, 0, 2, 1], [4, 13, 8, 12, 4, 11, 4, 9, 10, 4, 4, 4, 7, 4, 5, 6, 4, 4, 4, 3, 0, 2, 1], [14, 4, 4, 13, 8, 12, 4, 11, 4, 9, 10, 4, 4, 4, 7, 4, 5, 6, 4, 4, 4, 3, 0, 2, 1], [15, 14, 4, 4, 13, 8, 12, 4, 11, 4, 9, 10, 4, 4, 4, 7, 4, 5, 6, 4, 4, 4, 3, 0, 2, 1], [15, 14, 4, 4, 13, 8, 12, 4, 11, 4, 9, 10, 4, 4, 4, 7, 4, 5, 6, 4, 4, 4, 3, 0, 2, 1], [17, 15, 15, 14, 4, 4, 13, 8, 12, 4, 11, 4, 9, 10, 4, 4, 4, 7, 4, 5, 6, 4, 4, 4, 3, 0, 2, 1], [16, 18, 15, 17, 15, 15, 15, 14, 4, 4, 13, 8, 12, 4, 11, 4, 9, 10, 4, 4, 4, 7, 4, 5, 6, 4, 4, 4, 3, 0, 2, 1], [19, 15, 15, 16, 18, 15, 17, 15, 15, 15, 14, 4, 4, 13, 8, 12, 4, 11, 4, 9, 10, 4, 4, 4, 7, 4, 5, 6, 4, 4, 4, 3, 0, 2, 1], [20, 19, 15, 15, 16, 18, 15, 17, 15, 15, 15, 14, 4, 4, 13, 8, 12, 4, 11, 4, 9, 10, 4, 4, 4, 7, 4, 5, 6, 4, 4, 4, 3, 0, 2, 1], [20, 19, 15, 15, 16, 18, 15, 17, 15, 15, 15, 14, 4, 4, 13, 8, 12, 4, 11, 4, 9, 10, 4, 4, 4, 7, 4, 5, 6, 4, 4, 4, 3, 0, 2, 1], [21, 22, 20, 20, 20, 19, 15, 15, 16, 18, 15, 17, 15, 15, 15, 14, 4, 4, 13, 8, 12, 4, 11, 4, 9, 10, 4, 4, 4, 7, 4, 5, 6, 4, 4, 4, 3, 0, 2, 1], [23, 20, 21, 22, 20, 20, 20, 19, 15, 15, 16, 18, 15, 17, 15, 15, 15, 14, 4, 4, 13, 8, 12, 4, 11, 4, 9, 10, 4, 4, 4, 7, 4, 5, 6, 4, 4, 4, 3, 0, 2, 1], [20, 19, 15, 15, 16, 18, 15, 17, 15, 15, 15, 14, 4, 4, 13, 8, 12, 4, 11, 4, 9, 10, 4, 4, 4, 7, 4, 5, 6, 4, 4, 4, 3, 0, 2, 1], [24, 25, 20, 20, 23, 20, 21, 22, 20, 20, 20, 19, 15, 15, 16, 18, 15, 17, 15, 15, 15, 14, 4, 4, 13, 8, 12, 4, 11, 4, 9, 10, 4, 4, 4, 7, 4, 5, 6, 4, 4, 4, 3, 0, 2, 1], [20, 26, 15, 24, 25, 20, 20, 23, 20, 21, 22, 20, 20, 20, 19, 15, 15, 16, 18, 15, 17, 15, 15, 15, 14, 4, 4, 13, 8, 12, 4, 11, 4, 9, 10, 4, 4, 4, 7, 4, 5, 6, 4, 4, 4, 3, 0, 2, 1], [15, 27, 20, 26, 15, 24, 25, 20, 20, 23, 20, 21, 22, 20, 20, 20, 19, 15, 15, 16, 18, 15, 17, 15, 15, 15, 14, 4, 4, 13, 8, 12, 4, 11, 4, 9, 10, 4, 4, 4, 7, 4, 5, 6, 4, 4, 4, 3, 0, 2, 1]]))
  (.cond (t 51)
   (.seq (.region [a 4 (.mv (bo false))] none)
   .ret)
   .skip)))
  (.region [a 21 (.mv (t 6)),
    a 22 (.bin .add (t 21) (i 1)),
    a 6 (.mv (t 22))] none))))))
 (.seq (.region [a 4 (.mv (bo true))] none)
 .ret))))), [.tmp 4]⟩
theorem t29 : FnAt Try.prog 29 a29 := .mk Try.func29 (by kernel_rfl) (by kernel_rfl)
/-- busbar/iden.Level -/
def a30 : AF := ⟨1, 24, (.seq (.region [a 2 (.mv (i 0))] none)
 (.seq (.region [a 3 (.mv (i 129))] none)
 (.seq (.seq (.region [a 6 (.mv (t 0)),
   a 7 (.len false (t 6)),
   a 8 (.mv (i 0))] none)
 (.block 0 (.loop
  (.seq (.region [a 9 (.bin .lss (t 8) (t 7))] none)
  (.seq (.cond (t 9)
   .skip
   (.exit 0))
  (.seq (.block 1 (.seq (.region [a 10 (.idxAddr 2 (t 6) (t 8)),
    a 11 (.load (some 2) (t 10)),
    a 5 (.alloc [(.t (.int .i64 0)), (.t (.str ⟨#[]⟩))]),
    a_ (.store 2 (t 5) (t 11))] none)
  (.block 2 (.seq (.region [a 13 (.fieldAddr 0 (t 5)),
    a 14 (.load none (t 13)),
    a 15 (.call 75 [(i 2)]),
    a 16 (.bin .gtr (t 14) (t 15)),
    a 12 (.mv (t 16))] (some [[], [0], [], [1, 2, 0], [3, 2, 1, 2, 0]]))
  (.cond (t 12)
   (.seq (.region [a 2 (.mv (i 131))] none)
   .ret)
   (.seq (.region [a 18 (.fieldAddr 0 (t 5)),
     a 19 (.load none (t 18)),
     a 20 (.call 75 [(i 1)]),
     a 21 (.bin .gtr (t 19) (t 20)),
     a 17 (.mv (t 21))] (some [[], [0], [], [1, 2, 0], [3, 2, 1, 2, 0]]))
   (.cond (t 17)
    (.region [a 3 (.mv (i 130))] none)
    .skip)))))))
  (.region [a 22 (.bin .add (t 8) (i 1)),
    a 8 (.mv (t 22))] none)))))))
 (.seq (.region [a 23 (.mv (t 3)),
   a 2 (.mv (t 23))] none)
 .ret)))), [.tmp 2]⟩
theorem t30 : FnAt Try.prog 30 a30 := .mk Try.func30 (by kernel_rfl) (by kernel_rfl)
/-- busbar/busbarref5.Level -/
def a31 : AF := ⟨1, 30, (.seq (.region [a 2 (.mv (i 0))] none)
 (.seq (.region [a 3 (.mv (i 129))] none)
 (.seq (.seq (.region [a 4 (.mv (i 0))] none)
 (.block 0 (.loop
  (.seq (.seq (.region [a 5 (.mv (t 4)),
    a 6 (.mv (t 0)),
    a 7 (.len false (t 6)),
    a 8 (.bin .lss (t 5) (t 7))] none)
  (.cond (t 8)
   .skip
   (.exit 0)))
  (.seq (.block 1 (.block 2 (.seq (.region [a 12 (.mv (t 0)),
    a 13 (.mv (t 4)),
    a 14 (.idxAddr 2 (t 12) (t 13)),
    a 15 (.fieldAddr 0 (t 14)),
    a 16 (.load none (t 15)),
    a 17 (.bin .gtr (t 16) (i 127)),
    a 11 (.mv (t 17))] none)
  (.cond (t 11)
   (.region [a 3 (.mv (i 131))] none)
   (.seq (.region [a 19 (.mv (t 0)),
     a 20 (.mv (t 4)),
     a 21 (.idxAddr 2 (t 19) (t 20)),
     a 22 (.fieldAddr 0 (t 21)),
     a 23 (.load none (t 22)),
     a 24 (.bin .gtr (t 23) (i 2)),
     a 25 (.mv (t 24)),
     g 26 25 true (.mv (t 3)),
     g 27 25 true (.bin .lss (t 26) (i 130)),
     a 28 (.pick (t 25) (t 27) (bo false)),
     a 18 (.mv (t 28))] none)
   (.cond (t 18)
    (.region [a 3 (.mv (i 130))] none)
    .skip))))))
  (.region [a 9 (.mv (t 4)),
    a 10 (.bin .add (t 9) (i 1)),
    a 4 (.mv (t 10))] none))))))
 (.seq (.region [a 29 (.mv (t 3)),
   a 2 (.mv (t 29))] none)
 .ret)))), [.tmp 2]⟩
theorem t31 : FnAt Try.prog 31 a31 := .mk Try.func31 (by kernel_rfl) (by kernel_rfl)
/-- busbar/busbarref5.Answer -/
def a41 : AF := ⟨3, 121, (.seq (.region [a 6 (.alloc [(.t (.int .i64 0)), (.t (.int .i64 0)), (.t .nil), (.t .nil), (.t (.int .i64 0)), (.t (.int .i64 0)), (.t (.int .u16 0)), (.t (.int .u16 0)), (.t (.int .u16 0)), (.t (.int .i64 0)), (.t (.int .i64 0)), (.t (.bool false)), (.t (.int .i64 0)), (.t .nil)]),
   a 7 (.mv (i 0))] none)
 (.seq (.seq (.region [a 15 (.mv (t 1)),
   a 16 (.bin .lss (t 15) (i 1)),
   a 17 (.mv (t 16)),
   g 18 17 false (.mv (t 1)),
   g 19 17 false (.bin .gtr (t 18) (i 4)),
   a 20 (.pick (t 17) (bo true) (t 19)),
   a 21 (.mv (t 20)),
   g 22 21 false (.mv (t 2)),
   g 23 21 false (.call 74 [(t 22)]),
   g 24 21 false (.un .not (t 23)),
   a 25 (.pick (t 21) (bo true) (t 24))] none)
 (.cond (t 25)
  (.seq (.region [a 26 (.build [(.t (.int .i64 0)), (.t (.int .i64 0)), (.t .nil), (.t .nil), (.t (.int .i64 0)), (.t (.int .i64 0)), (.t (.int .u16 0)), (.t (.int .u16 0)), (.t (.int .u16 0)), (.t (.int .i64 0)), (.t (.int .i64 0)), (.t (.bool false)), (.t (.int .i64 0)), (.t .nil)] []),
    a_ (.store 14 (t 6) (t 26)),
    a 7 (.mv (i 3))] none)
  .ret)
  .skip))
 (.seq (.region [a 27 (.mv (t 1)),
   a 28 (.mv (t 0)),
   a 29 (.call 31 [(t 28)]),
   a 30 (.build [(.t (.int .i64 0)), (.t (.int .i64 0)), (.t .nil), (.t .nil), (.t (.int .i64 0)), (.t (.int .i64 0)), (.t (.int .u16 0)), (.t (.int .u16 0)), (.t (.int .u16 0)), (.t (.int .i64 0)), (.t (.int .i64 0)), (.t (.bool false)), (.t (.int .i64 0)), (.t .nil)] [(0, 1, (i 43)), (9, 1, (t 27)), (10, 1, (t 29))]),
   a 8 (.alloc [(.t (.int .i64 0)), (.t (.int .i64 0)), (.t .nil), (.t .nil), (.t (.int .i64 0)), (.t (.int .i64 0)), (.t (.int .u16 0)), (.t (.int .u16 0)), (.t (.int .u16 0)), (.t (.int .i64 0)), (.t (.int .i64 0)), (.t (.bool false)), (.t (.int .i64 0)), (.t .nil)]),
   a_ (.store 14 (t 8) (t 30))] none)
 (.seq (.seq (.region [a 31 (.mv (t 1)),
   a 32 (.bin .eql (t 31) (i 4))] none)
 (.cond (t 32)
  (.seq (.seq (.region [a 9 (.mv (i 0))] none)
  (.block 0 (.loop
   (.seq (.seq (.region [a 33 (.mv (t 9)),
     a 34 (.mv (t 0)),
     a 35 (.len false (t 34)),
     a 36 (.bin .lss (t 33) (t 35))] none)
   (.cond (t 36)
    .skip
    (.exit 0)))
   (.seq (.block 1 (.seq (.region [a 39 (.mv (t 0)),
     a 40 (.mv (t 9)),
     a 41 (.idxAddr 2 (t 39) (t 40)),
     a 42 (.fieldAddr 0 (t 41)),
     a 43 (.load none (t 42)),
     a 44 (.mv (t 2)),
     a 45 (.bin .eql (t 43) (t 44))] none)
   (.cond (t 45)
    (.seq (.region [a 46 (.mv (t 0)),
      a 47 (.mv (t 9)),
      a 48 (.idxAddr 2 (t 46) (t 47)),
      a 49 (.load (some 2) (t 48)),
      a 50 (.mkList false 2 1 [(.int .i64 0), (.str ⟨#[]⟩)] [(0, (t 49))]),
      a 51 (.fieldAddr 13 (t 8)),
      a_ (.store 1 (t 51) (t 50))] none)
    (.seq (.region [a 52 (.load (some 14) (t 8)),
      a_ (.store 14 (t 6) (t 52)),
      a 7 (.mv (i 0))] none)
    .ret))
    .skip)))
   (.region [a 37 (.mv (t 9)),
     a 38 (.bin .add (t 37) (i 1)),
     a 9 (.mv (t 38))] none))))))
  (.seq (.region [a 53 (.build [(.t (.int .i64 0)), (.t (.int .i64 0)), (.t .nil), (.t .nil), (.t (.int .i64 0)), (.t (.int .i64 0)), (.t (.int .u16 0)), (.t (.int .u16 0)), (.t (.int .u16 0)), (.t (.int .i64 0)), (.t (.int .i64 0)), (.t (.bool false)), (.t (.int .i64 0)), (.t .nil)] []),
    a_ (.store 14 (t 6) (t 53)),
    a 7 (.mv (i 2))] none)
  .ret))
  .skip))
 (.seq (.region [a 54 (.build [(.t (.int .i64 0)), (.t (.int .i64 0)), (.t (.int .i64 0)), (.t (.int .i64 0))] [(0, 1, (i 0)), (1, 1, (i 2)), (2, 1, (i 127)), (3, 1, (i 255))]),
   a 55 (.mv (t 1)),
   a 56 (.index 1 4 none (t 54) (t 55)),
   a 10 (.mv (t 56))] none)
 (.seq (.region [a 11 (.mv (i 0))] none)
 (.seq (.seq (.region [a 12 (.mv (i 0))] none)
 (.block 2 (.loop
  (.seq (.seq (.region [a 57 (.mv (t 12)),
    a 58 (.mv (t 0)),
    a 59 (.len false (t 58)),
    a 60 (.bin .lss (t 57) (t 59))] none)
  (.cond (t 60)
   .skip
   (.exit 2)))
  (.seq (.block 3 (.seq (.region [a 63 (.mv (t 0)),
    a 64 (.mv (t 12)),
    a 65 (.idxAddr 2 (t 63) (t 64)),
    a 66 (.fieldAddr 0 (t 65)),
    a 67 (.load none (t 66)),
    a 68 (.mv (t 2)),
    a 69 (.bin .eql (t 67) (t 68)),
    a 70 (.mv (t 69)),
    g 71 70 true (.mv (t 2)),
    g 72 70 true (.mv (t 10)),
    g 73 70 true (.bin .leq (t 71) (t 72)),
    a 74 (.pick (t 70) (t 73) (bo false))] none)
  (.cond (t 74)
   (.region [a 75 (.mv (t 12)),
     a 11 (.mv (t 75))] none)
   .skip)))
  (.region [a 61 (.mv (t 12)),
    a 62 (.bin .add (t 61) (i 1)),
    a 12 (.mv (t 62))] none))))))
 (.seq (.region [a 13 (.mv (i 7))] none)
 (.seq (.seq (.region [a 76 (.mv (t 11)),
   a 14 (.mv (t 76))] none)
 (.block 4 (.loop
  (.seq (.seq (.region [a 77 (.mv (t 14)),
    a 78 (.mv (t 0)),
    a 79 (.len false (t 78)),
    a 80 (.bin .lss (t 77) (t 79)),
    a 81 (.mv (t 80)),
    g 82 81 true (.mv (t 0)),
    g 83 81 true (.mv (t 14)),
    g 84 81 true (.idxAddr 2 (t 82) (t 83)),
    g 85 81 true (.fieldAddr 0 (t 84)),
    g 86 81 true (.load none (t 85)),
    g 87 81 true (.mv (t 10)),
    g 88 81 true (.bin .leq (t 86) (t 87)),
    a 89 (.pick (t 81) (t 88) (bo false))] none)
  (.cond (t 89)
   .skip
   (.exit 4)))
  (.seq (.block 5 (.seq (.region [a 92 (.mv (t 13)),
    a 93 (.bin .add (t 92) (i 2)),
    a 94 (.mv (t 0)),
    a 95 (.mv (t 14)),
    a 96 (.idxAddr 2 (t 94) (t 95)),
    a 97 (.fieldAddr 1 (t 96)),
    a 98 (.load none (t 97)),
    a 99 (.len true (t 98)),
    a 100 (.bin .add (t 93) (t 99)),
    a 13 (.mv (t 100))] none)
  (.seq (.seq (.region [a 101 (.mv (t 13)),
    a 102 (.bin .gtr (t 101) (i 253))] none)
  (.cond (t 102)
   (.seq (.region [a 103 (.mv (t 0)),
     a 104 (.mv (t 14)),
     a 105 (.idxAddr 2 (t 103) (t 104)),
     a 106 (.fieldAddr 0 (t 105)),
     a 107 (.load none (t 106)),
     a 108 (.fieldAddr 11 (t 8)),
     a_ (.store 1 (t 108) (bo true)),
     a 109 (.fieldAddr 12 (t 8)),
     a_ (.store 1 (t 109) (t 107))] (some [[], [], [0, 1], [2, 0, 1], [3, 2, 0, 1], [], [5], [0, 1, 2, 3, 4, 5, 6, 5, 3, 2, 0, 1], [7, 4, 6, 0, 1, 2, 3, 4, 5, 6, 0, 1, 2, 3, 4, 5, 6, 5, 3, 2, 0, 1]]))
   (.seq (.region [a 110 (.load (some 14) (t 8)),
     a_ (.store 14 (t 6) (t 110)),
     a 7 (.mv (i 0))] none)
   .ret))
   .skip))
  (.region [a 111 (.fieldAddr 13 (t 8)),
    a 112 (.load none (t 111)),
    a 113 (.mv (t 0)),
    a 114 (.mv (t 14)),
    a 115 (.idxAddr 2 (t 113) (t 114)),
    a 116 (.load (some 2) (t 115)),
    a 117 (.mkList false 2 1 [(.int .i64 0), (.str ⟨#[]⟩)] [(0, (t 116))]),
    a 118 (.append 2 24 [(.int .i64 0), (.str ⟨#[]⟩)] (t 112) (t 117)),
    a 119 (.fieldAddr 13 (t 8)),
    a_ (.store 1 (t 119) (t 118))] (some [[], [0], [], [], [2, 3], [4, 2, 3], [5, 4, 2, 3], [1, 6, 5, 4, 2, 3, 0], [0, 1, 2, 3, 4, 5, 6, 7, 1, 6, 5, 4, 2, 3, 0], [8, 7, 7, 0, 1, 2, 3, 4, 5, 6, 7, 0, 1, 2, 3, 4, 5, 6, 7, 1, 6, 5, 4, 2, 3, 0]])))))
  (.region [a 90 (.mv (t 14)),
    a 91 (.bin .add (t 90) (i 1)),
    a 14 (.mv (t 91))] none))))))
 (.seq (.region [a 120 (.load (some 14) (t 8)),
   a_ (.store 14 (t 6) (t 120)),
   a 7 (.mv (i 0))] none)
 .ret)))))))))), [.cell 6 (some 14), .tmp 7]⟩
theorem t41 : FnAt Try.prog 41 a41 := .mk Try.func41 (by kernel_rfl) (by kernel_rfl)
/-- busbar/busbarref5.SameTell -/
def a42 : AF := ⟨2, 120, (.seq (.region [a 2 (.box (t 0)),
   a 3 (.box (t 1)),
   a 4 (.mv (bo false))] none)
 (.seq (.seq (.region [a 6 (.fieldAddr 13 (t 2)),
   a 7 (.load none (t 6)),
   a 8 (.len false (t 7)),
   a 9 (.fieldAddr 13 (t 3)),
   a 10 (.load none (t 9)),
   a 11 (.len false (t 10)),
   a 12 (.bin .neq (t 8) (t 11))] none)
 (.cond (t 12)
  (.seq (.region [a 4 (.mv (bo false))] none)
  .ret)
  .skip))
 (.seq (.seq (.region [a 5 (.mv (i 0))] none)
 (.block 0 (.loop
  (.seq (.seq (.region [a 13 (.mv (t 5)),
    a 14 (.fieldAddr 13 (t 2)),
    a 15 (.load none (t 14)),
    a 16 (.len false (t 15)),
    a 17 (.bin .lss (t 13) (t 16))] none)
  (.cond (t 17)
   .skip
   (.exit 0)))
  (.seq (.block 1 (.seq (.region [a 20 (.fieldAddr 13 (t 2)),
    a 21 (.load none (t 20)),
    a 22 (.mv (t 5)),
    a 23 (.idxAddr 2 (t 21) (t 22)),
    a 24 (.load (some 2) (t 23)),
    a 25 (.fieldAddr 13 (t 3)),
    a 26 (.load none (t 25)),
    a 27 (.mv (t 5)),
    a 28 (.idxAddr 2 (t 26) (t 27)),
    a 29 (.load (some 2) (t 28)),
    a 30 (.eqAgg true [.int, .str] (t 24) (t 29))] (some [[], [0], [], [1, 2, 0], [3, 1, 2, 0], [], [5], [], [6, 7, 5], [8, 6, 7, 5], [4, 9, 8, 6, 7, 5, 3, 1, 2, 0]]))
  (.cond (t 30)
   (.seq (.region [a 4 (.mv (bo false))] none)
   .ret)
   .skip)))
  (.region [a 18 (.mv (t 5)),
    a 19 (.bin .add (t 18) (i 1)),
    a 5 (.mv (t 19))] none))))))
 (.seq (.region [a 31 (.fieldAddr 0 (t 2)),
   a 32 (.load none (t 31)),
   a 33 (.fieldAddr 0 (t 3)),
   a 34 (.load none (t 33)),
   a 35 (.bin .eql (t 32) (t 34)),
   a 36 (.mv (t 35)),
   g 37 36 true (.fieldAddr 1 (t 2)),
   g 38 36 true (.load none (t 37)),
   g 39 36 true (.fieldAddr 1 (t 3)),
   g 40 36 true (.load none (t 39)),
   g 41 36 true (.bin .eql (t 38) (t 40)),
   a 42 (.pick (t 36) (t 41) (bo false)),
   a 43 (.mv (t 42)),
   g 44 43 true (.fieldAddr 2 (t 2)),
   g 45 43 true (.load none (t 44)),
   g 46 43 true (.fieldAddr 2 (t 3)),
   g 47 43 true (.load none (t 46)),
   g 48 43 true (.call 80 [(t 45), (t 47)]),
   a 49 (.pick (t 43) (t 48) (bo false)),
   a 50 (.mv (t 49)),
   g 51 50 true (.fieldAddr 3 (t 2)),
   g 52 50 true (.load none (t 51)),
   g 53 50 true (.fieldAddr 3 (t 3)),
   g 54 50 true (.load none (t 53)),
   g 55 50 true (.call 81 [(t 52), (t 54)]),
   a 56 (.pick (t 50) (t 55) (bo false)),
   a 57 (.mv (t 56)),
   g 58 57 true (.fieldAddr 4 (t 2)),
   g 59 57 true (.load none (t 58)),
   g 60 57 true (.fieldAddr 4 (t 3)),
   g 61 57 true (.load none (t 60)),
   g 62 57 true (.bin .eql (t 59) (t 61)),
   a 63 (.pick (t 57) (t 62) (bo false)),
   a 64 (.mv (t 63)),
   g 65 64 true (.fieldAddr 5 (t 2)),
   g 66 64 true (.load none (t 65)),
   g 67 64 true (.fieldAddr 5 (t 3)),
   g 68 64 true (.load none (t 67)),
   g 69 64 true (.bin .eql (t 66) (t 68)),
   a 70 (.pick (t 64) (t 69) (bo false)),
   a 71 (.mv (t 70)),
   g 72 71 true (.fieldAddr 6 (t 2)),
   g 73 71 true (.load none (t 72)),
   g 74 71 true (.fieldAddr 6 (t 3)),
   g 75 71 true (.load none (t 74)),
   g 76 71 true (.bin .eql (t 73) (t 75)),
   a 77 (.pick (t 71) (t 76) (bo false)),
   a 78 (.mv (t 77)),
   g 79 78 true (.fieldAddr 7 (t 2)),
   g 80 78 true (.load none (t 79)),
   g 81 78 true (.fieldAddr 7 (t 3)),
   g 82 78 true (.load none (t 81)),
   g 83 78 true (.bin .eql (t 80) (t 82)),
   a 84 (.pick (t 78) (t 83) (bo false)),
   a 85 (.mv (t 84)),
   g 86 85 true (.fieldAddr 8 (t 2)),
   g 87 85 true (.load none (t 86)),
   g 88 85 true (.fieldAddr 8 (t 3)),
   g 89 85 true (.load none (t 88)),
   g 90 85 true (.bin .eql (t 87) (t 89)),
   a 91 (.pick (t 85) (t 90) (bo false)),
   a 92 (.mv (t 91)),
   g 93 92 true (.fieldAddr 9 (t 2)),
   g 94 92 true (.load none (t 93)),
   g 95 92 true (.fieldAddr 9 (t 3)),
   g 96 92 true (.load none (t 95)),
   g 97 92 true (.bin .eql (t 94) (t 96)),
   a 98 (.pick (t 92) (t 97) (bo false)),
   a 99 (.mv (t 98)),
   g 100 99 true (.fieldAddr 10 (t 2)),
   g 101 99 true (.load none (t 100)),
   g 102 99 true (.fieldAddr 10 (t 3)),
   g 103 99 true (.load none (t 102)),
   g 104 99 true (.bin .eql (t 101) (t 103)),
   a 105 (.pick (t 99) (t 104) (bo false)),
   a 106 (.mv (t 105)),
   g 107 106 true (.fieldAddr 11 (t 2)),
   g 108 106 true (.load none (t 107)),
   g 109 106 true (.fieldAddr 11 (t 3)),
   g 110 106 true (.load none (t 109)),
   g 111 106 true (.binB false (t 108) (t 110)),
   a 112 (.pick (t 106) (t 111) (bo false)),
   a 113 (.mv (t 112)),
   g 114 113 true (.fieldAddr 12 (t 2)),
   g 115 113 true (.load none (t 114)),
   g 116 113 true (.fieldAddr 12 (t 3)),
   g 117 113 true (.load none (t 116)),
   g 118 113 true (.bin .eql (t 115) (t 117)),
   a 119 (.pick (t 113) (t 118) (bo false)),
   a 4 (.mv (t 119))] none)
 .ret)))), [.tmp 4]⟩
theorem t42 : FnAt Try.prog 42 a42 := .mk Try.func42 (by kernel_rfl) (by kernel_rfl)
/-- busbar/tell.Bytes -/
def a43 : AF := ⟨1, 143, (.seq (.region [a 1 (.box (t 0)),
   a 2 (.mv (.k (.c (.t .nil)))),
   a 3 (.mv (i 0))] none)
 (.seq (.seq (.region [a 8 (.load (some 14) (t 1)),
   a 9 (.call 56 [(t 8)]),
   a 10 (.un .not (t 9))] none)
 (.cond (t 10)
  (.seq (.region [a 2 (.mv (.k (.c (.t .nil)))),
    a 3 (.mv (i 1))] none)
  .ret)
  .skip))
 (.seq (.seq (.region [a 11 (.fieldAddr 1 (t 1)),
   a 12 (.load none (t 11)),
   a 13 (.bin .neq (t 12) (i 0))] none)
 (.cond (t 13)
  (.seq (.region [a 14 (.fieldAddr 0 (t 1)),
    a 15 (.load none (t 14)),
    a 16 (.conv .u8 (t 15)),
    a 17 (.bin .or (t 16) (.k (.c (.t (.int .u8 128))))),
    a 18 (.fieldAddr 1 (t 1)),
    a 19 (.load none (t 18)),
    a 20 (.conv .u8 (t 19)),
    a 21 (.mkList false 1 2 [(.int .u8 0)] [(0, (t 17)), (1, (t 20))]),
    a 2 (.mv (t 21)),
    a 3 (.mv (i 0))] none)
  .ret)
  .skip))
 (.seq (.region [a 22 (.fieldAddr 0 (t 1)),
   a 23 (.load none (t 22)),
   a 24 (.conv .u8 (t 23)),
   a 25 (.mkList false 1 1 [(.int .u8 0)] [(0, (t 24))]),
   a 4 (.mv (t 25))] none)
 (.seq (.seq (.region [a 26 (.fieldAddr 0 (t 1)),
   a 27 (.load none (t 26))] none)
 (.block 0 (.seq (.block 7 (.seq (.block 6 (.seq (.block 5 (.seq (.block 4 (.seq (.block 3 (.seq (.block 2 (.seq (.block 1 (.seq (.seq (.seq (.seq (.region [a 29 (.bin .eql (t 27) (i 1)),
   a 28 (.mv (t 29))] none)
 (.cond (t 28)
  .skip
  (.region [a 30 (.bin .eql (t 27) (i 2)),
    a 28 (.mv (t 30))] none)))
 (.cond (t 28)
  (.exit 1)
  .skip))
 (.seq (.seq (.seq (.region [a 32 (.bin .eql (t 27) (i 3)),
   a 31 (.mv (t 32))] none)
 (.cond (t 31)
  .skip
  (.seq (.region [a 33 (.bin .eql (t 27) (i 4)),
    a 31 (.mv (t 33))] none)
  (.cond (t 31)
   .skip
   (.region [a 34 (.bin .eql (t 27) (i 23)),
     a 31 (.mv (t 34))] none)))))
 (.cond (t 31)
  (.exit 2)
  .skip))
 (.seq (.seq (.region [a 36 (.bin .eql (t 27) (i 5)),
   a 35 (.mv (t 36))] none)
 (.cond (t 35)
  (.exit 3)
  .skip))
 (.seq (.seq (.region [a 38 (.bin .eql (t 27) (i 6)),
   a 37 (.mv (t 38))] none)
 (.cond (t 37)
  (.exit 4)
  .skip))
 (.seq (.seq (.seq (.region [a 40 (.bin .eql (t 27) (i 15)),
   a 39 (.mv (t 40))] none)
 (.cond (t 39)
  .skip
  (.region [a 41 (.bin .eql (t 27) (i 16)),
    a 39 (.mv (t 41))] none)))
 (.cond (t 39)
  (.exit 5)
  .skip))
 (.seq (.seq (.region [a 43 (.bin .eql (t 27) (i 22)),
   a 42 (.mv (t 43))] none)
 (.cond (t 42)
  (.exit 6)
  .skip))
 (.seq (.region [a 45 (.bin .eql (t 27) (i 43)),
   a 44 (.mv (t 45))] none)
 (.cond (t 44)
  (.exit 7)
  .skip))))))))
 (.exit 0)))
 (.seq (.seq (.region [a 46 (.fieldAddr 2 (t 1)),
   a 47 (.load none (t 46)),
   a 48 (.call 84 [(t 47)]),
   a 5 (.mv (t 48))] none)
 (.region [a 49 (.mv (t 4)),
   a 50 (.mv (t 5)),
   a 51 (.len false (t 50)),
   a 52 (.conv .u8 (t 51)),
   a 53 (.mkList false 1 1 [(.int .u8 0)] [(0, (t 52))]),
   a 54 (.append 1 1 [(.int .u8 0)] (t 49) (t 53)),
   a 55 (.mv (t 5)),
   a 56 (.append 1 1 [(.int .u8 0)] (t 54) (t 55)),
   a 4 (.mv (t 56))] none))
 (.exit 0))))
 (.seq (.region [a 57 (.mv (t 4)),
   a 58 (.fieldAddr 3 (t 1)),
   a 59 (.load none (t 58)),
   a 60 (.len false (t 59)),
   a 61 (.bin .mul (i 2) (t 60)),
   a 62 (.conv .u8 (t 61)),
   a 63 (.mkList false 1 1 [(.int .u8 0)] [(0, (t 62))]),
   a 64 (.append 1 1 [(.int .u8 0)] (t 57) (t 63)),
   a 65 (.fieldAddr 3 (t 1)),
   a 66 (.load none (t 65)),
   a 67 (.call 85 [(t 64), (t 66)]),
   a 4 (.mv (t 67))] (some [[], [], [1], [2, 1], [3, 2, 1], [4, 3, 2, 1], [5, 4, 3, 2, 1], [0, 6, 5, 4, 3, 2, 1], [], [8], [7, 9, 7, 8, 0, 6, 5, 4, 3, 2, 1], [10, 10, 0, 1, 2, 3, 4, 5, 6, 7, 8, 9, 10, 7, 9, 7, 8, 0, 6, 5, 4, 3, 2, 1]]))
 (.exit 0))))
 (.region [a 68 (.fieldAddr 6 (t 1)),
   a 69 (.load none (t 68)),
   a 70 (.bin .mul (t 69) (.k (.c (.t (.int .u16 65280))))),
   a 71 (.fieldAddr 6 (t 1)),
   a_ (.store 1 (t 71) (t 70))] none)))
 (.seq (.region [a 72 (.mv (t 4)),
   a 73 (.fieldAddr 4 (t 1)),
   a 74 (.load none (t 73)),
   a 75 (.conv .u16 (t 74)),
   a 76 (.fieldAddr 6 (t 1)),
   a 77 (.load none (t 76)),
   a 78 (.mkList false 1 2 [(.int .u16 0)] [(0, (t 75)), (1, (t 77))]),
   a 79 (.call 85 [(t 72), (t 78)]),
   a 4 (.mv (t 79))] none)
 (.exit 0))))
 (.seq (.region [a 80 (.mv (t 4)),
   a 81 (.fieldAddr 4 (t 1)),
   a 82 (.load none (t 81)),
   a 83 (.conv .u16 (t 82)),
   a 84 (.fieldAddr 5 (t 1)),
   a 85 (.load none (t 84)),
   a 86 (.conv .u16 (t 85)),
   a 87 (.mkList false 1 2 [(.int .u16 0)] [(0, (t 83)), (1, (t 86))]),
   a 88 (.call 85 [(t 80), (t 87)]),
   a 4 (.mv (t 88))] none)
 (.exit 0))))
 (.seq (.region [a 89 (.mv (t 4)),
   a 90 (.fieldAddr 4 (t 1)),
   a 91 (.load none (t 90)),
   a 92 (.conv .u16 (t 91)),
   a 93 (.fieldAddr 7 (t 1)),
   a 94 (.load none (t 93)),
   a 95 (.fieldAddr 8 (t 1)),
   a 96 (.load none (t 95)),
   a 97 (.mkList false 1 3 [(.int .u16 0)] [(0, (t 92)), (1, (t 94)), (2, (t 96))]),
   a 98 (.call 85 [(t 89), (t 97)]),
   a 4 (.mv (t 98))] none)
 (.exit 0))))
 (.seq (.seq (.region [a 99 (.mv (t 4)),
   a 100 (.fieldAddr 9 (t 1)),
   a 101 (.load none (t 100)),
   a 102 (.conv .u8 (t 101)),
   a 103 (.fieldAddr 10 (t 1)),
   a 104 (.load none (t 103)),
   a 105 (.conv .u8 (t 104)),
   a 106 (.fieldAddr 11 (t 1)),
   a 107 (.load none (t 106)),
   a 108 (.call 86 [(t 107)]),
   a 109 (.bin .mul (t 108) (i 255)),
   a 110 (.conv .u8 (t 109)),
   a 111 (.fieldAddr 12 (t 1)),
   a 112 (.load none (t 111)),
   a 113 (.conv .u8 (t 112)),
   a 114 (.fieldAddr 13 (t 1)),
   a 115 (.load none (t 114)),
   a 116 (.len false (t 115)),
   a 117 (.conv .u8 (t 116)),
   a 118 (.mkList false 1 6 [(.int .u8 0)] [(0, (.k (.c (.t (.int .u8 14))))), (1, (t 102)), (2, (t 105)), (3, (t 110)), (4, (t 113)), (5, (t 117))]),
   a 119 (.append 1 1 [(.int .u8 0)] (t 99) (t 118)),
   a 4 (.mv (t 119))] (some [[], [], [1], [2, 1], [], [4], [5, 4], [], [7], [8, 7], [9, 8, 7], [10, 9, 8, 7], [], [12], [13, 12], [], [15], [16, 15], [17, 16, 15], [3, 6, 11, 14, 18, 17, 16, 15, 13, 12, 10, 9, 8, 7, 5, 4, 2, 1], [0, 19, 9, 3, 6, 11, 14, 18, 17, 16, 15, 13, 12, 10, 9, 8, 7, 5, 4, 2, 1], [20, 20, 0, 1, 2, 3, 4, 5, 6, 7, 8, 9, 10, 11, 12, 13, 14, 15, 16, 17, 18, 19, 20, 0, 19, 9, 3, 6, 11, 14, 18, 17, 16, 15, 13, 12, 10, 9, 8, 7, 5, 4, 2, 1]]))
 (.seq (.region [a 120 (.fieldAddr 13 (t 1)),
   a 121 (.load none (t 120)),
   a 122 (.len false (t 121)),
   a 123 (.mv (i 0))] none)
 (.block 8 (.loop
  (.seq (.region [a 124 (.bin .lss (t 123) (t 122))] none)
  (.seq (.cond (t 124)
   .skip
   (.exit 8))
  (.seq (.block 9 (.seq (.region [a 125 (.idxAddr 2 (t 121) (t 123)),
    a 126 (.load (some 2) (t 125)),
    a 7 (.alloc [(.t (.int .i64 0)), (.t (.str ⟨#[]⟩))]),
    a_ (.store 2 (t 7) (t 126))] none)
  (.seq (.region [a 127 (.mv (t 4)),
    a 128 (.fieldAddr 0 (t 7)),
    a 129 (.load none (t 128)),
    a 130 (.conv .u8 (t 129)),
    a 131 (.fieldAddr 1 (t 7)),
    a 132 (.load none (t 131)),
    a 133 (.len true (t 132)),
    a 134 (.conv .u8 (t 133)),
    a 135 (.mkList false 1 2 [(.int .u8 0)] [(0, (t 130)), (1, (t 134))]),
    a 136 (.append 1 1 [(.int .u8 0)] (t 127) (t 135)),
    a 4 (.mv (t 136))] none)
  (.region [a 137 (.mv (t 4)),
    a 138 (.fieldAddr 1 (t 7)),
    a 139 (.load none (t 138)),
    a 140 (.append 1 1 [(.int .u8 0)] (t 137) (t 139)),
    a 4 (.mv (t 140))] none))))
  (.region [a 141 (.bin .add (t 123) (i 1)),
    a 123 (.mv (t 141))] none))))))))
 (.exit 0)))))
 (.seq (.region [a 142 (.mv (t 4)),
   a 2 (.mv (t 142)),
   a 3 (.mv (i 0))] none)
 .ret)))))), [.tmp 2, .tmp 3]⟩
theorem t43 : FnAt Try.prog 43 a43 := .mk Try.func43 (by kernel_rfl) (by kernel_rfl)
/-- busbar/busbarlaw6.few -/
def a51 : AF := ⟨1, 35, (.seq (.region [a 1 (.box (t 0)),
   a 2 (.mv (bo false))] none)
 (.seq (.seq (.region [a 3 (.mv (i 0))] none)
 (.block 0 (.loop
  (.seq (.seq (.region [a 4 (.mv (t 3)),
    a 5 (.fieldAddr 13 (t 1)),
    a 6 (.load none (t 5)),
    a 7 (.len false (t 6)),
    a 8 (.bin .lss (t 4) (t 7))] none)
  (.cond (t 8)
   .skip
   (.exit 0)))
  (.seq (.block 1 (.seq (.region [a 11 (.fieldAddr 13 (t 1)),
    a 12 (.load none (t 11)),
    a 13 (.mv (t 3)),
    a 14 (.idxAddr 2 (t 12) (t 13)),
    a 15 (.fieldAddr 1 (t 14)),
    a 16 (.load none (t 15)),
    a 17 (.len true (t 16)),
    a 18 (.bin .gtr (t 17) (i 300))] none)
  (.cond (t 18)
   (.seq (.region [a 2 (.mv (bo false))] none)
   .ret)
   .skip)))
  (.region [a 9 (.mv (t 3)),
    a 10 (.bin .add (t 9) (i 1)),
    a 3 (.mv (t 10))] none))))))
 (.seq (.region [a 19 (.fieldAddr 2 (t 1)),
   a 20 (.load none (t 19)),
   a 21 (.len false (t 20)),
   a 22 (.bin .leq (t 21) (i 2100)),
   a 23 (.mv (t 22)),
   g 24 23 true (.fieldAddr 3 (t 1)),
   g 25 23 true (.load none (t 24)),
   g 26 23 true (.len false (t 25)),
   g 27 23 true (.bin .leq (t 26) (i 200)),
   a 28 (.pick (t 23) (t 27) (bo false)),
   a 29 (.mv (t 28)),
   g 30 29 true (.fieldAddr 13 (t 1)),
   g 31 29 true (.load none (t 30)),
   g 32 29 true (.len false (t 31)),
   g 33 29 true (.bin .leq (t 32) (i 130)),
   a 34 (.pick (t 29) (t 33) (bo false)),
   a 2 (.mv (t 34))] none)
 .ret))), [.tmp 2]⟩
theorem t51 : FnAt Try.prog 51 a51 := .mk Try.func51 (by kernel_rfl) (by kernel_rfl)
/-- busbar/busbarlaw6.awake -/
def a52 : AF := ⟨0, 56, (.seq (.region [a 0 (.mv (bo false))] none)
 (.seq (.region [a 6 (.call 63 [(i 3), (i 2)]),
   a 7 (.call 43 [(t 6)]),
   a 5 (.mv (t 7)),
   a 8 (.extract (t 5) 0),
   a 9 (.extract (t 5) 1),
   a 1 (.mv (t 8)),
   a 2 (.mv (t 9))] none)
 (.seq (.region [a 11 (.mkList false 1 3 [(.int .u8 0)] [(0, (.k (.c (.t (.int .u8 1))))), (1, (.k (.c (.t (.int .u8 1))))), (2, (.k (.c (.t (.int .u8 5)))))]),
   a 12 (.call 60 [(t 11), (i 3)]),
   a 10 (.mv (t 12)),
   a 13 (.extract (t 10) 0),
   a 14 (.extract (t 10) 1),
   a 3 (.alloc [(.t (.int .i64 0)), (.t (.int .i64 0)), (.t .nil), (.t .nil), (.t (.int .i64 0)), (.t (.int .i64 0)), (.t (.int .u16 0)), (.t (.int .u16 0)), (.t (.int .u16 0)), (.t (.int .i64 0)), (.t (.int .i64 0)), (.t (.bool false)), (.t (.int .i64 0)), (.t .nil)]),
   a_ (.store 14 (t 3) (t 13)),
   a 4 (.mv (t 14))] none)
 (.seq (.region [a 15 (.mv (t 2)),
   a 16 (.bin .eql (t 15) (i 0)),
   a 17 (.mv (t 16)),
   g 18 17 true (.mv (t 1)),
   g 19 17 true (.bstr (t 18)),
   g 20 17 true (.bin .eql (t 19) (.k (.c (.t (.str ⟨#[131, 2]⟩))))),
   a 21 (.pick (t 17) (t 20) (bo false)),
   a 22 (.mv (t 21)),
   g 23 22 true (.mv (t 4)),
   g 24 22 true (.bin .eql (t 23) (i 0)),
   a 25 (.pick (t 22) (t 24) (bo false)),
   a 26 (.mv (t 25)),
   g 27 26 true (.fieldAddr 0 (t 3)),
   g 28 26 true (.load none (t 27)),
   g 29 26 true (.bin .eql (t 28) (i 1)),
   a 30 (.pick (t 26) (t 29) (bo false)),
   a 31 (.mv (t 30)),
   g 32 31 true (.fieldAddr 2 (t 3)),
   g 33 31 true (.load none (t 32)),
   g 34 31 true (.len false (t 33)),
   g 35 31 true (.bin .eql (t 34) (i 3)),
   a 36 (.pick (t 31) (t 35) (bo false)),
   a 37 (.mv (t 36)),
   g 38 37 true (.fieldAddr 2 (t 3)),
   g 39 37 true (.load none (t 38)),
   g 40 37 true (.idxAddr 1 (t 39) (i 0)),
   g 41 37 true (.load none (t 40)),
   a 42 (.pick (t 37) (t 41) (bo false)),
   a 43 (.mv (t 42)),
   g 44 43 true (.fieldAddr 2 (t 3)),
   g 45 43 true (.load none (t 44)),
   g 46 43 true (.idxAddr 1 (t 45) (i 1)),
   g 47 43 true (.load none (t 46)),
   g 48 43 true (.un .not (t 47)),
   a 49 (.pick (t 43) (t 48) (bo false)),
   a 50 (.mv (t 49)),
   g 51 50 true (.fieldAddr 2 (t 3)),
   g 52 50 true (.load none (t 51)),
   g 53 50 true (.idxAddr 1 (t 52) (i 2)),
   g 54 50 true (.load none (t 53)),
   a 55 (.pick (t 50) (t 54) (bo false)),
   a 0 (.mv (t 55))] none)
 .ret)))), [.tmp 0]⟩
theorem t52 : FnAt Try.prog 52 a52 := .mk Try.func52 (by kernel_rfl) (by kernel_rfl)
/-- busbar/busbarref5.TellBytes -/
def a55 : AF := ⟨1, 149, (.seq (.region [a 1 (.box (t 0)),
   a 2 (.mv (.k (.c (.t .nil)))),
   a 3 (.mv (i 0))] none)
 (.seq (.seq (.region [a 9 (.load (some 14) (t 1)),
   a 10 (.call 57 [(t 9)]),
   a 11 (.un .not (t 10))] none)
 (.cond (t 11)
  (.seq (.region [a 2 (.mv (.k (.c (.t .nil)))),
    a 3 (.mv (i 1))] none)
  .ret)
  .skip))
 (.seq (.seq (.region [a 12 (.fieldAddr 1 (t 1)),
   a 13 (.load none (t 12)),
   a 14 (.bin .neq (t 13) (i 0))] none)
 (.cond (t 14)
  (.seq (.region [a 15 (.fieldAddr 0 (t 1)),
    a 16 (.load none (t 15)),
    a 17 (.bin .rem (t 16) (i 128)),
    a 18 (.bin .add (t 17) (i 128)),
    a 19 (.conv .u8 (t 18)),
    a 20 (.fieldAddr 1 (t 1)),
    a 21 (.load none (t 20)),
    a 22 (.conv .u8 (t 21)),
    a 23 (.mkList false 1 2 [(.int .u8 0)] [(0, (t 19)), (1, (t 22))]),
    a 2 (.mv (t 23)),
    a 3 (.mv (i 0))] none)
  .ret)
  .skip))
 (.seq (.region [a 24 (.fieldAddr 0 (t 1)),
   a 25 (.load none (t 24)),
   a 26 (.conv .u8 (t 25)),
   a 27 (.mkList false 1 1 [(.int .u8 0)] [(0, (t 26))]),
   a 4 (.mv (t 27))] none)
 (.seq (.seq (.region [a 28 (.fieldAddr 0 (t 1)),
   a 29 (.load none (t 28))] none)
 (.block 0 (.seq (.seq (.region [a 31 (.bin .eql (t 29) (i 1)),
   a 30 (.mv (t 31))] none)
 (.cond (t 30)
  .skip
  (.region [a 32 (.bin .eql (t 29) (i 2)),
    a 30 (.mv (t 32))] none)))
 (.cond (t 30)
  (.seq (.region [a 33 (.fieldAddr 2 (t 1)),
    a 34 (.load none (t 33)),
    a 35 (.call 99 [(t 34)]),
    a 5 (.mv (t 35))] none)
  (.seq (.region [a 36 (.mv (t 4)),
    a 37 (.mv (t 5)),
    a 38 (.len false (t 37)),
    a 39 (.conv .u8 (t 38)),
    a 40 (.mkList false 1 1 [(.int .u8 0)] [(0, (t 39))]),
    a 41 (.append 1 1 [(.int .u8 0)] (t 36) (t 40)),
    a 42 (.mv (t 5)),
    a 43 (.append 1 1 [(.int .u8 0)] (t 41) (t 42)),
    a 2 (.mv (t 43)),
    a 3 (.mv (i 0))] none)
  .ret))
  (.seq (.seq (.region [a 45 (.bin .eql (t 29) (i 3)),
    a 44 (.mv (t 45))] none)
  (.cond (t 44)
   .skip
   (.seq (.region [a 46 (.bin .eql (t 29) (i 4)),
     a 44 (.mv (t 46))] none)
   (.cond (t 44)
    .skip
    (.region [a 47 (.bin .eql (t 29) (i 23)),
      a 44 (.mv (t 47))] none)))))
  (.cond (t 44)
   (.seq (.region [a 48 (.mv (t 4)),
     a 49 (.fieldAddr 3 (t 1)),
     a 50 (.load none (t 49)),
     a 51 (.len false (t 50)),
     a 52 (.bin .mul (i 2) (t 51)),
     a 53 (.conv .u8 (t 52)),
     a 54 (.mkList false 1 1 [(.int .u8 0)] [(0, (t 53))]),
     a 55 (.append 1 1 [(.int .u8 0)] (t 48) (t 54)),
     a 56 (.fieldAddr 3 (t 1)),
     a 57 (.load none (t 56)),
     a 58 (.call 100 [(t 55), (t 57)]),
     a 2 (.mv (t 58)),
     a 3 (.mv (i 0))] (some [[], [], [1], [2, 1], [3, 2, 1], [4, 3, 2, 1], [5, 4, 3, 2, 1], [0, 6, 5, 4, 3, 2, 1], [], [8], [7, 9, 7, 8, 0, 6, 5, 4, 3, 2, 1], [10, 10, 0, 1, 2, 3, 4, 5, 6, 7, 8, 9, 10, 7, 9, 7, 8, 0, 6, 5, 4, 3, 2, 1], [11, 0, 1, 2, 3, 4, 5, 6, 7, 8, 9, 10, 11, 10, 10, 0, 1, 2, 3, 4, 5, 6, 7, 8, 9, 10, 7, 9, 7, 8, 0, 6, 5, 4, 3, 2, 1]]))
   .ret)
   (.seq (.region [a 60 (.bin .eql (t 29) (i 5)),
     a 59 (.mv (t 60))] none)
   (.cond (t 59)
    (.seq (.region [a 61 (.mv (t 4)),
      a 62 (.fieldAddr 4 (t 1)),
      a 63 (.load none (t 62)),
      a 64 (.call 101 [(t 61), (t 63)]),
      a 65 (.fieldAddr 6 (t 1)),
      a 66 (.load none (t 65)),
      a 67 (.conv .i64 (t 66)),
      a 68 (.bin .mul (t 67) (i 65280)),
      a 69 (.call 101 [(t 64), (t 68)]),
      a 2 (.mv (t 69)),
      a 3 (.mv (i 0))] (some [[], [], [1], [0, 2, 1], [], [4], [5, 4], [6, 5, 4], [3, 7, 3, 6, 5, 4, 0, 2, 1], [8, 8, 0, 1, 2, 3, 4, 5, 6, 7, 8, 3, 7, 3, 6, 5, 4, 0, 2, 1], [9, 0, 1, 2, 3, 4, 5, 6, 7, 8, 9, 8, 8, 0, 1, 2, 3, 4, 5, 6, 7, 8, 3, 7, 3, 6, 5, 4, 0, 2, 1]]))
    .ret)
    (.seq (.region [a 71 (.bin .eql (t 29) (i 6)),
      a 70 (.mv (t 71))] none)
    (.cond (t 70)
     (.seq (.region [a 72 (.mv (t 4)),
       a 73 (.fieldAddr 4 (t 1)),
       a 74 (.load none (t 73)),
       a 75 (.call 101 [(t 72), (t 74)]),
       a 76 (.fieldAddr 6 (t 1)),
       a 77 (.load none (t 76)),
       a 78 (.conv .i64 (t 77)),
       a 79 (.call 101 [(t 75), (t 78)]),
       a 2 (.mv (t 79)),
       a 3 (.mv (i 0))] (some [[], [], [1], [0, 2, 1], [], [4], [5, 4], [3, 6, 3, 5, 4, 0, 2, 1], [7, 7, 0, 1, 2, 3, 4, 5, 6, 7, 3, 6, 3, 5, 4, 0, 2, 1], [8, 0, 1, 2, 3, 4, 5, 6, 7, 8, 7, 7, 0, 1, 2, 3, 4, 5, 6, 7, 3, 6, 3, 5, 4, 0, 2, 1]]))
     .ret)
     (.seq (.region [a 81 (.bin .eql (t 29) (i 22)),
       a 80 (.mv (t 81))] none)
     (.cond (t 80)
      (.seq (.region [a 82 (.mv (t 4)),
        a 83 (.fieldAddr 4 (t 1)),
        a 84 (.load none (t 83)),
        a 85 (.call 101 [(t 82), (t 84)]),
        a 86 (.fieldAddr 7 (t 1)),
        a 87 (.load none (t 86)),
        a 88 (.conv .i64 (t 87)),
        a 89 (.call 101 [(t 85), (t 88)]),
        a 90 (.fieldAddr 8 (t 1)),
        a 91 (.load none (t 90)),
        a 92 (.conv .i64 (t 91)),
        a 93 (.call 101 [(t 89), (t 92)]),
        a 2 (.mv (t 93)),
        a 3 (.mv (i 0))] (some [[], [], [1], [0, 2, 1], [], [4], [5, 4], [3, 6, 3, 5, 4, 0, 2, 1], [], [8], [9, 8], [7, 10, 7, 9, 8, 3, 6, 3, 5, 4, 0, 2, 1], [11, 11, 0, 1, 2, 3, 4, 5, 6, 7, 8, 9, 10, 11, 7, 10, 7, 9, 8, 3, 6, 3, 5, 4, 0, 2, 1], [12, 0, 1, 2, 3, 4, 5, 6, 7, 8, 9, 10, 11, 12, 11, 11, 0, 1, 2, 3, 4, 5, 6, 7, 8, 9, 10, 11, 7, 10, 7, 9, 8, 3, 6, 3, 5, 4, 0, 2, 1]]))
      .ret)
      (.seq (.seq (.region [a 95 (.bin .eql (t 29) (i 15)),
        a 94 (.mv (t 95))] none)
      (.cond (t 94)
       .skip
       (.region [a 96 (.bin .eql (t 29) (i 16)),
         a 94 (.mv (t 96))] none)))
      (.cond (t 94)
       (.seq (.region [a 97 (.mv (t 4)),
         a 98 (.fieldAddr 4 (t 1)),
         a 99 (.load none (t 98)),
         a 100 (.call 101 [(t 97), (t 99)]),
         a 101 (.fieldAddr 5 (t 1)),
         a 102 (.load none (t 101)),
         a 103 (.call 101 [(t 100), (t 102)]),
         a 2 (.mv (t 103)),
         a 3 (.mv (i 0))] (some [[], [], [1], [0, 2, 1], [], [4], [3, 5, 3, 4, 0, 2, 1], [6, 6, 0, 1, 2, 3, 4, 5, 6, 3, 5, 3, 4, 0, 2, 1], [7, 0, 1, 2, 3, 4, 5, 6, 7, 6, 6, 0, 1, 2, 3, 4, 5, 6, 3, 5, 3, 4, 0, 2, 1]]))
       .ret)
       .skip))))))))))))))
 (.seq (.region [a 6 (.mv (.k (.c (.t (.int .u8 0)))))] none)
 (.seq (.seq (.region [a 104 (.fieldAddr 11 (t 1)),
   a 105 (.load none (t 104))] none)
 (.cond (t 105)
  (.region [a 6 (.mv (.k (.c (.t (.int .u8 255)))))] none)
  .skip))
 (.seq (.region [a 106 (.mv (t 4)),
   a 107 (.fieldAddr 9 (t 1)),
   a 108 (.load none (t 107)),
   a 109 (.conv .u8 (t 108)),
   a 110 (.fieldAddr 10 (t 1)),
   a 111 (.load none (t 110)),
   a 112 (.conv .u8 (t 111)),
   a 113 (.mv (t 6)),
   a 114 (.fieldAddr 12 (t 1)),
   a 115 (.load none (t 114)),
   a 116 (.conv .u8 (t 115)),
   a 117 (.fieldAddr 13 (t 1)),
   a 118 (.load none (t 117)),
   a 119 (.len false (t 118)),
   a 120 (.conv .u8 (t 119)),
   a 121 (.mkList false 1 6 [(.int .u8 0)] [(0, (.k (.c (.t (.int .u8 14))))), (1, (t 109)), (2, (t 112)), (3, (t 113)), (4, (t 116)), (5, (t 120))]),
   a 122 (.append 1 1 [(.int .u8 0)] (t 106) (t 121)),
   a 4 (.mv (t 122))] none)
 (.seq (.seq (.region [a 7 (.mv (i 0))] none)
 (.block 1 (.loop
  (.seq (.seq (.region [a 123 (.mv (t 7)),
    a 124 (.fieldAddr 13 (t 1)),
    a 125 (.load none (t 124)),
    a 126 (.len false (t 125)),
    a 127 (.bin .lss (t 123) (t 126))] none)
  (.cond (t 127)
   .skip
   (.exit 1)))
  (.seq (.block 2 (.seq (.region [a 130 (.fieldAddr 13 (t 1)),
    a 131 (.load none (t 130)),
    a 132 (.mv (t 7)),
    a 133 (.idxAddr 2 (t 131) (t 132)),
    a 134 (.load (some 2) (t 133)),
    a 8 (.alloc [(.t (.int .i64 0)), (.t (.str ⟨#[]⟩))]),
    a_ (.store 2 (t 8) (t 134))] none)
  (.region [a 135 (.mv (t 4)),
    a 136 (.fieldAddr 0 (t 8)),
    a 137 (.load none (t 136)),
    a 138 (.conv .u8 (t 137)),
    a 139 (.fieldAddr 1 (t 8)),
    a 140 (.load none (t 139)),
    a 141 (.len true (t 140)),
    a 142 (.conv .u8 (t 141)),
    a 143 (.mkList false 1 2 [(.int .u8 0)] [(0, (t 138)), (1, (t 142))]),
    a 144 (.append 1 1 [(.int .u8 0)] (t 135) (t 143)),
    a 145 (.fieldAddr 1 (t 8)),
    a 146 (.load none (t 145)),
    a 147 (.append 1 1 [(.int .u8 0)] (t 144) (t 146)),
    a 4 (.mv (t 147))] (some [[], [], [1], [2, 1], [], [4], [5, 4], [6, 5, 4], [3, 7, 6, 5, 4, 2, 1], [0, 8, 3, 7, 6, 5, 4, 2, 1], [], [10], [9, 11, 9, 10, 0, 8, 3, 7, 6, 5, 4, 2, 1], [12, 12, 0, 1, 2, 3, 4, 5, 6, 7, 8, 9, 10, 11, 12, 9, 11, 9, 10, 0, 8, 3, 7, 6, 5, 4, 2, 1]]))))
  (.region [a 128 (.mv (t 7)),
    a 129 (.bin .add (t 128) (i 1)),
    a 7 (.mv (t 129))] none))))))
 (.seq (.region [a 148 (.mv (t 4)),
   a 2 (.mv (t 148)),
   a 3 (.mv (i 0))] none)
 .ret)))))))))), [.tmp 2, .tmp 3]⟩
theorem t55 : FnAt Try.prog 55 a55 := .mk Try.func55 (by kernel_rfl) (by kernel_rfl)
/-- busbar/tell.Right -/
def a56 : AF := ⟨1, 102, (.seq (.region [a 1 (.box (t 0)),
   a 2 (.mv (bo false))] none)
 (.seq (.seq (.region [a 5 (.fieldAddr 1 (t 1)),
   a 6 (.load none (t 5)),
   a 7 (.bin .neq (t 6) (i 0))] none)
 (.cond (t 7)
  (.seq (.region [a 8 (.fieldAddr 1 (t 1)),
    a 9 (.load none (t 8)),
    a 10 (.call 102 [(t 9)]),
    a 11 (.mv (t 10)),
    g 12 11 true (.fieldAddr 0 (t 1)),
    g 13 11 true (.load none (t 12)),
    g 14 11 true (.call 103 [(t 13)]),
    a 15 (.pick (t 11) (t 14) (bo false)),
    a 16 (.mv (t 15)),
    g 17 16 true (.load (some 14) (t 1)),
    g 18 16 true (.call 104 [(t 17)]),
    g 19 16 true (.build [(.t (.int .i64 0)), (.t (.int .i64 0)), (.t .nil), (.t .nil), (.t (.int .i64 0)), (.t (.int .i64 0)), (.t (.int .u16 0)), (.t (.int .u16 0)), (.t (.int .u16 0)), (.t (.int .i64 0)), (.t (.int .i64 0)), (.t (.bool false)), (.t (.int .i64 0)), (.t .nil)] []),
    g 20 16 true (.call 104 [(t 19)]),
    g 21 16 true (.eqAgg false [.int, .int, .int, .int, .int, .int, .int, .int, .int, .int, .int, .int] (t 18) (t 20)),
    a 22 (.pick (t 16) (t 21) (bo false)),
    a 2 (.mv (t 22))] none)
  .ret)
  .skip))
 (.seq (.seq (.region [a 23 (.fieldAddr 0 (t 1)),
   a 24 (.load none (t 23)),
   a 25 (.call 76 [(t 24)]),
   a 26 (.un .not (t 25)),
   a 27 (.mv (t 26)),
   g 28 27 false (.load (some 14) (t 1)),
   g 29 27 false (.call 104 [(t 28)]),
   g 30 27 false (.load (some 14) (t 1)),
   g 31 27 false (.call 105 [(t 30)]),
   g 32 27 false (.call 104 [(t 31)]),
   g 33 27 false (.eqAgg true [.int, .int, .int, .int, .int, .int, .int, .int, .int, .int, .int, .int] (t 29) (t 32)),
   a 34 (.pick (t 27) (bo true) (t 33)),
   a 35 (.mv (t 34)),
   g 36 35 false (.fieldAddr 4 (t 1)),
   g 37 35 false (.load none (t 36)),
   g 38 35 false (.bin .lss (t 37) (i 0)),
   a 39 (.pick (t 35) (bo true) (t 38)),
   a 40 (.mv (t 39)),
   g 41 40 false (.fieldAddr 4 (t 1)),
   g 42 40 false (.load none (t 41)),
   g 43 40 false (.bin .geq (t 42) (i 65536)),
   a 44 (.pick (t 40) (bo true) (t 43))] (some [[], [0], [1, 0], [2, 1, 0], [3, 2, 2, 1, 0], [4, 3, 2, 2, 1, 0], [5, 4, 4, 4, 3, 2, 2, 1, 0], [4, 3, 2, 2, 1, 0], [7, 6, 4, 4, 5, 4, 4, 4, 3, 2, 2, 1, 0], [8, 8, 4, 7, 6, 4, 4, 5, 4, 4, 4, 3, 2, 2, 1, 0], [6, 9, 4, 8, 8, 4, 7, 6, 4, 4, 5, 4, 4, 4, 3, 2, 2, 1, 0], [4, 10, 6, 9, 4, 8, 8, 4, 7, 6, 4, 4, 5, 4, 4, 4, 3, 2, 2, 1, 0], [11, 9, 4, 10, 6, 9, 4, 8, 8, 4, 7, 6, 4, 4, 5, 4, 4, 4, 3, 2, 2, 1, 0], [12, 11, 9, 4, 10, 6, 9, 4, 8, 8, 4, 7, 6, 4, 4, 5, 4, 4, 4, 3, 2, 2, 1, 0], [13, 12, 12, 11, 9, 4, 10, 6, 9, 4, 8, 8, 4, 7, 6, 4, 4, 5, 4, 4, 4, 3, 2, 2, 1, 0], [14, 12, 13, 12, 12, 11, 9, 4, 10, 6, 9, 4, 8, 8, 4, 7, 6, 4, 4, 5, 4, 4, 4, 3, 2, 2, 1, 0], [12, 15, 14, 12, 13, 12, 12, 11, 9, 4, 10, 6, 9, 4, 8, 8, 4, 7, 6, 4, 4, 5, 4, 4, 4, 3, 2, 2, 1, 0], [16, 12, 12, 15, 14, 12, 13, 12, 12, 11, 9, 4, 10, 6, 9, 4, 8, 8, 4, 7, 6, 4, 4, 5, 4, 4, 4, 3, 2, 2, 1, 0], [17, 16, 12, 12, 15, 14, 12, 13, 12, 12, 11, 9, 4, 10, 6, 9, 4, 8, 8, 4, 7, 6, 4, 4, 5, 4, 4, 4, 3, 2, 2, 1, 0], [18, 17, 17, 16, 12, 12, 15, 14, 12, 13, 12, 12, 11, 9, 4, 10, 6, 9, 4, 8, 8, 4, 7, 6, 4, 4, 5, 4, 4, 4, 3, 2, 2, 1, 0], [19, 17, 18, 17, 17, 16, 12, 12, 15, 14, 12, 13, 12, 12, 11, 9, 4, 10, 6, 9, 4, 8, 8, 4, 7, 6, 4, 4, 5, 4, 4, 4, 3, 2, 2, 1, 0], [17, 20, 19, 17, 18, 17, 17, 16, 12, 12, 15, 14, 12, 13, 12, 12, 11, 9, 4, 10, 6, 9, 4, 8, 8, 4, 7, 6, 4, 4, 5, 4, 4, 4, 3, 2, 2, 1, 0]]))
 (.cond (t 44)
  (.seq (.region [a 2 (.mv (bo false))] none)
  .ret)
  .skip))
 (.seq (.region [a 46 (.fieldAddr 0 (t 1)),
   a 47 (.load none (t 46)),
   a 48 (.call 92 [(t 47)]),
   a 45 (.mv (t 48)),
   a 49 (.extract (t 45) 0),
   a 50 (.extract (t 45) 1),
   a 3 (.mv (t 49)),
   a 4 (.mv (t 50))] none)
 (.seq (.seq (.region [a 51 (.fieldAddr 0 (t 1)),
   a 52 (.load none (t 51))] none)
 (.block 0 (.seq (.seq (.region [a 54 (.bin .eql (t 52) (i 1)),
   a 53 (.mv (t 54))] none)
 (.cond (t 53)
  .skip
  (.region [a 55 (.bin .eql (t 52) (i 2)),
    a 53 (.mv (t 55))] none)))
 (.cond (t 53)
  (.seq (.region [a 56 (.fieldAddr 2 (t 1)),
    a 57 (.load none (t 56)),
    a 58 (.len false (t 57)),
    a 59 (.mv (t 3)),
    a 60 (.call 106 [(t 58), (t 59)]),
    a 2 (.mv (t 60))] none)
  .ret)
  (.seq (.seq (.region [a 62 (.bin .eql (t 52) (i 3)),
    a 61 (.mv (t 62))] none)
  (.cond (t 61)
   .skip
   (.seq (.region [a 63 (.bin .eql (t 52) (i 4)),
     a 61 (.mv (t 63))] none)
   (.cond (t 61)
    .skip
    (.region [a 64 (.bin .eql (t 52) (i 23)),
      a 61 (.mv (t 64))] none)))))
  (.cond (t 61)
   (.seq (.region [a 65 (.fieldAddr 3 (t 1)),
     a 66 (.load none (t 65)),
     a 67 (.len false (t 66)),
     a 68 (.mv (t 3)),
     a 69 (.call 106 [(t 67), (t 68)]),
     a 2 (.mv (t 69))] none)
   .ret)
   (.seq (.region [a 71 (.bin .eql (t 52) (i 5)),
     a 70 (.mv (t 71))] none)
   (.cond (t 70)
    (.seq (.region [a 72 (.fieldAddr 6 (t 1)),
      a 73 (.load none (t 72)),
      a 74 (.bin .leq (t 73) (.k (.c (.t (.int .u16 1))))),
      a 2 (.mv (t 74))] none)
    .ret)
    (.seq (.seq (.region [a 76 (.bin .eql (t 52) (i 15)),
      a 75 (.mv (t 76))] none)
    (.cond (t 75)
     .skip
     (.region [a 77 (.bin .eql (t 52) (i 16)),
       a 75 (.mv (t 77))] none)))
    (.cond (t 75)
     (.seq (.region [a 78 (.fieldAddr 5 (t 1)),
       a 79 (.load none (t 78)),
       a 80 (.mv (t 4)),
       a 81 (.call 106 [(t 79), (t 80)]),
       a 2 (.mv (t 81))] none)
     .ret)
     (.seq (.region [a 83 (.bin .eql (t 52) (i 43)),
       a 82 (.mv (t 83))] none)
     (.cond (t 82)
      (.seq (.region [a 84 (.fieldAddr 9 (t 1)),
        a 85 (.load none (t 84)),
        a 86 (.call 106 [(t 85), (i 4)]),
        a 87 (.mv (t 86)),
        g 88 87 true (.fieldAddr 10 (t 1)),
        g 89 87 true (.load none (t 88)),
        g 90 87 true (.call 103 [(t 89)]),
        a 91 (.pick (t 87) (t 90) (bo false)),
        a 92 (.mv (t 91)),
        g 93 92 true (.fieldAddr 12 (t 1)),
        g 94 92 true (.load none (t 93)),
        g 95 92 true (.call 103 [(t 94)]),
        a 96 (.pick (t 92) (t 95) (bo false)),
        a 97 (.mv (t 96)),
        g 98 97 true (.fieldAddr 13 (t 1)),
        g 99 97 true (.load none (t 98)),
        g 100 97 true (.call 107 [(t 99)]),
        a 101 (.pick (t 97) (t 100) (bo false)),
        a 2 (.mv (t 101))] none)
      .ret)
      .skip))))))))))))
 (.seq (.region [a 2 (.mv (bo true))] none)
 .ret)))))), [.tmp 2]⟩
theorem t56 : FnAt Try.prog 56 a56 := .mk Try.func56 (by kernel_rfl) (by kernel_rfl)
/-- busbar/busbarref5.Tells -/
def a57 : AF := ⟨1, 91, (.seq (.region [a 1 (.box (t 0)),
   a 2 (.mv (bo false))] none)
 (.seq (.seq (.region [a 5 (.load (some 14) (t 1)),
   a 6 (.call 108 [(t 5)]),
   a 7 (.un .not (t 6))] none)
 (.cond (t 7)
  (.seq (.region [a 2 (.mv (bo false))] none)
  .ret)
  .skip))
 (.seq (.seq (.region [a 8 (.fieldAddr 1 (t 1)),
   a 9 (.load none (t 8)),
   a 10 (.bin .neq (t 9) (i 0))] none)
 (.cond (t 10)
  (.seq (.region [a 11 (.fieldAddr 1 (t 1)),
    a 12 (.load none (t 11)),
    a 13 (.call 109 [(t 12)]),
    a 14 (.mv (t 13)),
    g 15 14 true (.fieldAddr 0 (t 1)),
    g 16 14 true (.load none (t 15)),
    g 17 14 true (.call 74 [(t 16)]),
    a 18 (.pick (t 14) (t 17) (bo false)),
    a 2 (.mv (t 18))] none)
  .ret)
  .skip))
 (.seq (.region [a 20 (.fieldAddr 0 (t 1)),
   a 21 (.load none (t 20)),
   a 22 (.call 47 [(t 21)]),
   a 19 (.mv (t 22)),
   a 23 (.extract (t 19) 0),
   a 24 (.extract (t 19) 1),
   a 3 (.mv (t 23)),
   a 4 (.mv (t 24))] none)
 (.seq (.seq (.region [a 25 (.fieldAddr 0 (t 1)),
   a 26 (.load none (t 25))] none)
 (.block 0 (.seq (.seq (.region [a 28 (.bin .eql (t 26) (i 1)),
   a 27 (.mv (t 28))] none)
 (.cond (t 27)
  .skip
  (.region [a 29 (.bin .eql (t 26) (i 2)),
    a 27 (.mv (t 29))] none)))
 (.cond (t 27)
  (.seq (.region [a 30 (.fieldAddr 2 (t 1)),
    a 31 (.load none (t 30)),
    a 32 (.len false (t 31)),
    a 33 (.bin .geq (t 32) (i 1)),
    a 34 (.mv (t 33)),
    g 35 34 true (.fieldAddr 2 (t 1)),
    g 36 34 true (.load none (t 35)),
    g 37 34 true (.len false (t 36)),
    g 38 34 true (.bin .leq (t 37) (i 2000)),
    a 39 (.pick (t 34) (t 38) (bo false)),
    a 2 (.mv (t 39))] none)
  .ret)
  (.seq (.seq (.region [a 41 (.bin .eql (t 26) (i 3)),
    a 40 (.mv (t 41))] none)
  (.cond (t 40)
   .skip
   (.seq (.region [a 42 (.bin .eql (t 26) (i 4)),
     a 40 (.mv (t 42))] none)
   (.cond (t 40)
    .skip
    (.region [a 43 (.bin .eql (t 26) (i 23)),
      a 40 (.mv (t 43))] none)))))
  (.cond (t 40)
   (.seq (.region [a 44 (.fieldAddr 3 (t 1)),
     a 45 (.load none (t 44)),
     a 46 (.len false (t 45)),
     a 47 (.bin .geq (t 46) (i 1)),
     a 48 (.mv (t 47)),
     g 49 48 true (.fieldAddr 3 (t 1)),
     g 50 48 true (.load none (t 49)),
     g 51 48 true (.len false (t 50)),
     g 52 48 true (.bin .leq (t 51) (i 125)),
     a 53 (.pick (t 48) (t 52) (bo false)),
     a 2 (.mv (t 53))] none)
   .ret)
   (.seq (.region [a 55 (.bin .eql (t 26) (i 5)),
     a 54 (.mv (t 55))] none)
   (.cond (t 54)
    (.seq (.region [a 56 (.fieldAddr 4 (t 1)),
      a 57 (.load none (t 56)),
      a 58 (.call 110 [(t 57)]),
      a 59 (.mv (t 58)),
      g 60 59 true (.fieldAddr 6 (t 1)),
      g 61 59 true (.load none (t 60)),
      g 62 59 true (.bin .leq (t 61) (.k (.c (.t (.int .u16 1))))),
      a 63 (.pick (t 59) (t 62) (bo false)),
      a 2 (.mv (t 63))] none)
    .ret)
    (.seq (.seq (.region [a 65 (.bin .eql (t 26) (i 6)),
      a 64 (.mv (t 65))] none)
    (.cond (t 64)
     .skip
     (.region [a 66 (.bin .eql (t 26) (i 22)),
       a 64 (.mv (t 66))] none)))
    (.cond (t 64)
     (.seq (.region [a 67 (.fieldAddr 4 (t 1)),
       a 68 (.load none (t 67)),
       a 69 (.call 110 [(t 68)]),
       a 2 (.mv (t 69))] none)
     .ret)
     (.seq (.seq (.region [a 71 (.bin .eql (t 26) (i 15)),
       a 70 (.mv (t 71))] none)
     (.cond (t 70)
      .skip
      (.region [a 72 (.bin .eql (t 26) (i 16)),
        a 70 (.mv (t 72))] none)))
     (.cond (t 70)
      (.seq (.region [a 73 (.fieldAddr 4 (t 1)),
        a 74 (.load none (t 73)),
        a 75 (.call 110 [(t 74)]),
        a 76 (.mv (t 75)),
        g 77 76 true (.fieldAddr 5 (t 1)),
        g 78 76 true (.load none (t 77)),
        g 79 76 true (.bin .geq (t 78) (i 1)),
        a 80 (.pick (t 76) (t 79) (bo false)),
        a 81 (.mv (t 80)),
        g 82 81 true (.fieldAddr 5 (t 1)),
        g 83 81 true (.load none (t 82)),
        g 84 81 true (.mv (t 4)),
        g 85 81 true (.bin .leq (t 83) (t 84)),
        a 86 (.pick (t 81) (t 85) (bo false)),
        a 2 (.mv (t 86))] none)
      .ret)
      (.seq (.region [a 88 (.bin .eql (t 26) (i 43)),
        a 87 (.mv (t 88))] none)
      (.cond (t 87)
       (.seq (.region [a 89 (.load (some 14) (t 1)),
         a 90 (.call 111 [(t 89)]),
         a 2 (.mv (t 90))] none)
       .ret)
       .skip))))))))))))))
 (.seq (.region [a 2 (.mv (bo false))] none)
 .ret)))))), [.tmp 2]⟩
theorem t57 : FnAt Try.prog 57 a57 := .mk Try.func57 (by kernel_rfl) (by kernel_rfl)
/-- busbar/tell.Parse -/
def a60 : AF := ⟨2, 77, (.seq (.region [a 4 (.alloc [(.t (.int .i64 0)), (.t (.int .i64 0)), (.t .nil), (.t .nil), (.t (.int .i64 0)), (.t (.int .i64 0)), (.t (.int .u16 0)), (.t (.int .u16 0)), (.t (.int .u16 0)), (.t (.int .i64 0)), (.t (.int .i64 0)), (.t (.bool false)), (.t (.int .i64 0)), (.t .nil)]),
   a 5 (.mv (i 0))] none)
 (.seq (.seq (.region [a 8 (.mv (t 0)),
   a 9 (.len false (t 8)),
   a 10 (.bin .eql (t 9) (i 2)),
   a 11 (.mv (t 10)),
   g 12 11 true (.mv (t 0)),
   g 13 11 true (.idxAddr 1 (t 12) (i 0)),
   g 14 11 true (.load none (t 13)),
   g 15 11 true (.bin .and (t 14) (.k (.c (.t (.int .u8 128))))),
   g 16 11 true (.bin .neq (t 15) (.k (.c (.t (.int .u8 0))))),
   a 17 (.pick (t 11) (t 16) (bo false)),
   a 18 (.mv (t 17)),
   g 19 18 true (.mv (t 0)),
   g 20 18 true (.idxAddr 1 (t 19) (i 1)),
   g 21 18 true (.load none (t 20)),
   g 22 18 true (.conv .i64 (t 21)),
   g 23 18 true (.call 102 [(t 22)]),
   a 24 (.pick (t 18) (t 23) (bo false))] none)
 (.cond (t 24)
  (.seq (.region [a 25 (.mv (t 0)),
    a 26 (.idxAddr 1 (t 25) (i 0)),
    a 27 (.load none (t 26)),
    a 28 (.bin .andNot (t 27) (.k (.c (.t (.int .u8 128))))),
    a 29 (.conv .i64 (t 28)),
    a 30 (.mv (t 0)),
    a 31 (.idxAddr 1 (t 30) (i 1)),
    a 32 (.load none (t 31)),
    a 33 (.conv .i64 (t 32)),
    a 34 (.call 63 [(t 29), (t 33)]),
    a_ (.store 14 (t 4) (t 34)),
    a 5 (.mv (i 0))] (some [[], [0], [1, 0], [2, 1, 0], [3, 2, 1, 0], [], [5], [6, 5], [7, 6, 5], [4, 8, 7, 6, 5, 3, 2, 1, 0], [9, 9, 0, 1, 2, 3, 4, 5, 6, 7, 8, 9, 4, 8, 7, 6, 5, 3, 2, 1, 0], [10, 0, 1, 2, 3, 4, 5, 6, 7, 8, 9, 10, 9, 9, 0, 1, 2, 3, 4, 5, 6, 7, 8, 9, 4, 8, 7, 6, 5, 3, 2, 1, 0]]))
  .ret)
  .skip))
 (.seq (.seq (.region [a 35 (.mv (t 0)),
   a 36 (.len false (t 35)),
   a 37 (.bin .eql (t 36) (i 0)),
   a 38 (.mv (t 37)),
   g 39 38 false (.mv (t 0)),
   g 40 38 false (.idxAddr 1 (t 39) (i 0)),
   g 41 38 false (.load none (t 40)),
   g 42 38 false (.conv .i64 (t 41)),
   g 43 38 false (.call 76 [(t 42)]),
   g 44 38 false (.un .not (t 43)),
   a 45 (.pick (t 38) (bo true) (t 44))] none)
 (.cond (t 45)
  (.seq (.region [a 46 (.build [(.t (.int .i64 0)), (.t (.int .i64 0)), (.t .nil), (.t .nil), (.t (.int .i64 0)), (.t (.int .i64 0)), (.t (.int .u16 0)), (.t (.int .u16 0)), (.t (.int .u16 0)), (.t (.int .i64 0)), (.t (.int .i64 0)), (.t (.bool false)), (.t (.int .i64 0)), (.t .nil)] []),
    a_ (.store 14 (t 4) (t 46)),
    a 5 (.mv (i 2))] none)
  .ret)
  .skip))
 (.seq (.region [a 47 (.mv (t 0)),
   a 48 (.slice 1 (t 47) (some (i 1)) none),
   a 49 (.build [(.t .nil), (.t (.bool false))] [(0, 1, (t 48))]),
   a 50 (.box (t 49)),
   a 6 (.mv (t 50))] none)
 (.seq (.region [a 51 (.mv (t 6)),
   a 52 (.mv (t 0)),
   a 53 (.idxAddr 1 (t 52) (i 0)),
   a 54 (.load none (t 53)),
   a 55 (.conv .i64 (t 54)),
   a 56 (.mv (t 1)),
   a 57 (.call 112 [(t 51), (t 55), (t 56)]),
   a 7 (.alloc [(.t (.int .i64 0)), (.t (.int .i64 0)), (.t .nil), (.t .nil), (.t (.int .i64 0)), (.t (.int .i64 0)), (.t (.int .u16 0)), (.t (.int .u16 0)), (.t (.int .u16 0)), (.t (.int .i64 0)), (.t (.int .i64 0)), (.t (.bool false)), (.t (.int .i64 0)), (.t .nil)]),
   a_ (.store 14 (t 7) (t 57))] none)
 (.seq (.seq (.region [a 58 (.mv (t 6)),
   a 59 (.nilCheck (t 58)),
   a 60 (.fieldAddr 1 (t 59)),
   a 61 (.load none (t 60)),
   a 62 (.mv (t 61)),
   g 63 62 false (.mv (t 6)),
   g 64 62 false (.nilCheck (t 63)),
   g 65 62 false (.fieldAddr 0 (t 64)),
   g 66 62 false (.load none (t 65)),
   g 67 62 false (.len false (t 66)),
   g 68 62 false (.bin .gtr (t 67) (i 0)),
   a 69 (.pick (t 62) (bo true) (t 68)),
   a 70 (.mv (t 69)),
   g 71 70 false (.load (some 14) (t 7)),
   g 72 70 false (.call 56 [(t 71)]),
   g 73 70 false (.un .not (t 72)),
   a 74 (.pick (t 70) (bo true) (t 73))] none)
 (.cond (t 74)
  (.seq (.region [a 75 (.build [(.t (.int .i64 0)), (.t (.int .i64 0)), (.t .nil), (.t .nil), (.t (.int .i64 0)), (.t (.int .i64 0)), (.t (.int .u16 0)), (.t (.int .u16 0)), (.t (.int .u16 0)), (.t (.int .i64 0)), (.t (.int .i64 0)), (.t (.bool false)), (.t (.int .i64 0)), (.t .nil)] []),
    a_ (.store 14 (t 4) (t 75)),
    a 5 (.mv (i 2))] none)
  .ret)
  .skip))
 (.seq (.region [a 76 (.load (some 14) (t 7)),
   a_ (.store 14 (t 4) (t 76)),
   a 5 (.mv (i 0))] none)
 .ret))))))), [.cell 4 (some 14), .tmp 5]⟩
theorem t60 : FnAt Try.prog 60 a60 := .mk Try.func60 (by kernel_rfl) (by kernel_rfl)
/-- busbar/busbarref5.TellParse -/
def a61 : AF := ⟨2, 53, (.seq (.region [a 4 (.alloc [(.t (.int .i64 0)), (.t (.int .i64 0)), (.t .nil), (.t .nil), (.t (.int .i64 0)), (.t (.int .i64 0)), (.t (.int .u16 0)), (.t (.int .u16 0)), (.t (.int .u16 0)), (.t (.int .i64 0)), (.t (.int .i64 0)), (.t (.bool false)), (.t (.int .i64 0)), (.t .nil)]),
   a 5 (.mv (i 0))] none)
 (.seq (.seq (.region [a 8 (.mv (t 0)),
   a 9 (.len false (t 8)),
   a 10 (.bin .eql (t 9) (i 0))] none)
 (.cond (t 10)
  (.seq (.region [a 11 (.build [(.t (.int .i64 0)), (.t (.int .i64 0)), (.t .nil), (.t .nil), (.t (.int .i64 0)), (.t (.int .i64 0)), (.t (.int .u16 0)), (.t (.int .u16 0)), (.t (.int .u16 0)), (.t (.int .i64 0)), (.t (.int .i64 0)), (.t (.bool false)), (.t (.int .i64 0)), (.t .nil)] []),
    a_ (.store 14 (t 4) (t 11)),
    a 5 (.mv (i 2))] none)
  .ret)
  .skip))
 (.seq (.seq (.region [a 12 (.mv (t 0)),
   a 13 (.idxAddr 1 (t 12) (i 0)),
   a 14 (.load none (t 13)),
   a 15 (.bin .geq (t 14) (.k (.c (.t (.int .u8 128)))))] none)
 (.cond (t 15)
  (.seq (.seq (.region [a 16 (.mv (t 0)),
    a 17 (.len false (t 16)),
    a 18 (.bin .neq (t 17) (i 2)),
    a 19 (.mv (t 18)),
    g 20 19 false (.mv (t 0)),
    g 21 19 false (.idxAddr 1 (t 20) (i 1)),
    g 22 19 false (.load none (t 21)),
    g 23 19 false (.conv .i64 (t 22)),
    g 24 19 false (.call 109 [(t 23)]),
    g 25 19 false (.un .not (t 24)),
    a 26 (.pick (t 19) (bo true) (t 25))] none)
  (.cond (t 26)
   (.seq (.region [a 27 (.build [(.t (.int .i64 0)), (.t (.int .i64 0)), (.t .nil), (.t .nil), (.t (.int .i64 0)), (.t (.int .i64 0)), (.t (.int .u16 0)), (.t (.int .u16 0)), (.t (.int .u16 0)), (.t (.int .i64 0)), (.t (.int .i64 0)), (.t (.bool false)), (.t (.int .i64 0)), (.t .nil)] []),
     a_ (.store 14 (t 4) (t 27)),
     a 5 (.mv (i 2))] none)
   .ret)
   .skip))
  (.seq (.region [a 28 (.mv (t 0)),
    a 29 (.idxAddr 1 (t 28) (i 0)),
    a 30 (.load none (t 29)),
    a 31 (.conv .i64 (t 30)),
    a 32 (.bin .sub (t 31) (i 128)),
    a 33 (.mv (t 0)),
    a 34 (.idxAddr 1 (t 33) (i 1)),
    a 35 (.load none (t 34)),
    a 36 (.conv .i64 (t 35)),
    a 37 (.build [(.t (.int .i64 0)), (.t (.int .i64 0)), (.t .nil), (.t .nil), (.t (.int .i64 0)), (.t (.int .i64 0)), (.t (.int .u16 0)), (.t (.int .u16 0)), (.t (.int .u16 0)), (.t (.int .i64 0)), (.t (.int .i64 0)), (.t (.bool false)), (.t (.int .i64 0)), (.t .nil)] [(0, 1, (t 32)), (1, 1, (t 36))]),
    a_ (.store 14 (t 4) (t 37)),
    a 5 (.mv (i 0))] (some [[], [0], [1, 0], [2, 1, 0], [3, 2, 1, 0], [], [5], [6, 5], [7, 6, 5], [4, 8, 7, 6, 5, 3, 2, 1, 0], [9, 0, 1, 2, 3, 4, 5, 6, 7, 8, 9, 4, 8, 7, 6, 5, 3, 2, 1, 0], [10, 0, 1, 2, 3, 4, 5, 6, 7, 8, 9, 10, 9, 0, 1, 2, 3, 4, 5, 6, 7, 8, 9, 4, 8, 7, 6, 5, 3, 2, 1, 0]]))
  .ret))
  .skip))
 (.seq (.region [a 39 (.mv (t 0)),
   a 40 (.mv (t 1)),
   a 41 (.call 113 [(t 39), (t 40)]),
   a 38 (.mv (t 41)),
   a 42 (.extract (t 38) 0),
   a 43 (.extract (t 38) 1),
   a 6 (.alloc [(.t (.int .i64 0)), (.t (.int .i64 0)), (.t .nil), (.t .nil), (.t (.int .i64 0)), (.t (.int .i64 0)), (.t (.int .u16 0)), (.t (.int .u16 0)), (.t (.int .u16 0)), (.t (.int .i64 0)), (.t (.int .i64 0)), (.t (.bool false)), (.t (.int .i64 0)), (.t .nil)]),
   a_ (.store 14 (t 6) (t 42)),
   a 7 (.mv (t 43))] none)
 (.seq (.seq (.region [a 44 (.mv (t 7)),
   a 45 (.un .not (t 44)),
   a 46 (.mv (t 45)),
   g 47 46 false (.load (some 14) (t 6)),
   g 48 46 false (.call 57 [(t 47)]),
   g 49 46 false (.un .not (t 48)),
   a 50 (.pick (t 46) (bo true) (t 49))] none)
 (.cond (t 50)
  (.seq (.region [a 51 (.build [(.t (.int .i64 0)), (.t (.int .i64 0)), (.t .nil), (.t .nil), (.t (.int .i64 0)), (.t (.int .i64 0)), (.t (.int .u16 0)), (.t (.int .u16 0)), (.t (.int .u16 0)), (.t (.int .i64 0)), (.t (.int .i64 0)), (.t (.bool false)), (.t (.int .i64 0)), (.t .nil)] []),
    a_ (.store 14 (t 4) (t 51)),
    a 5 (.mv (i 2))] none)
  .ret)
  .skip))
 (.seq (.region [a 52 (.load (some 14) (t 6)),
   a_ (.store 14 (t 4) (t 52)),
   a 5 (.mv (i 0))] none)
 .ret)))))), [.cell 4 (some 14), .tmp 5]⟩
theorem t61 : FnAt Try.prog 61 a61 := .mk Try.func61 (by kernel_rfl) (by kernel_rfl)
/-- busbar/busbarlaw6.made -/
def a62 : AF := ⟨4, 70, (.seq (.region [a 8 (.alloc [(.t (.int .i64 0)), (.t (.int .i64 0)), (.t .nil), (.t .nil), (.t (.int .i64 0)), (.t (.int .i64 0)), (.t (.int .u16 0)), (.t (.int .u16 0)), (.t (.int .u16 0)), (.t (.int .i64 0)), (.t (.int .i64 0)), (.t (.bool false)), (.t (.int .i64 0)), (.t .nil)])] none)
 (.seq (.region [a 12 (.mv (t 0)),
   a 13 (.mv (t 1)),
   a 14 (.call 38 [(t 12), (t 13)]),
   a 9 (.alloc [(.t (.int .i64 0)), (.t (.int .i64 0)), (.t (.int .i64 0)), (.t (.int .u16 0)), (.t (.int .u16 0)), (.t (.int .u16 0)), (.t .nil), (.t .nil), (.t (.int .i64 0)), (.t (.int .i64 0)), (.t (.int .i64 0)), (.t (.int .i64 0))]),
   a_ (.store 12 (t 9) (t 14))] none)
 (.seq (.region [a 15 (.load (some 12) (t 9)),
   a 16 (.call 68 [(t 15)]),
   a 10 (.alloc [(.t (.int .i64 0)), (.t (.int .i64 0)), (.t .nil), (.t .nil), (.t (.int .i64 0)), (.t (.int .i64 0)), (.t (.int .u16 0)), (.t (.int .u16 0)), (.t (.int .u16 0)), (.t (.int .i64 0)), (.t (.int .i64 0)), (.t (.bool false)), (.t (.int .i64 0)), (.t .nil)]),
   a_ (.store 14 (t 10) (t 16))] none)
 (.seq (.seq (.region [a 17 (.fieldAddr 0 (t 9)),
   a 18 (.load none (t 17))] none)
 (.block 0 (.seq (.seq (.region [a 20 (.bin .eql (t 18) (i 1)),
   a 19 (.mv (t 20))] none)
 (.cond (t 19)
  .skip
  (.region [a 21 (.bin .eql (t 18) (i 2)),
    a 19 (.mv (t 21))] none)))
 (.cond (t 19)
  (.region [a 22 (.fieldAddr 0 (t 9)),
    a 23 (.load none (t 22)),
    a 24 (.mv (t 3)),
    a 25 (.build [(.t (.int .i64 0)), (.t (.int .i64 0)), (.t .nil), (.t .nil), (.t (.int .i64 0)), (.t (.int .i64 0)), (.t (.int .u16 0)), (.t (.int .u16 0)), (.t (.int .u16 0)), (.t (.int .i64 0)), (.t (.int .i64 0)), (.t (.bool false)), (.t (.int .i64 0)), (.t .nil)] [(0, 1, (t 23)), (2, 1, (t 24))]),
    a_ (.store 14 (t 10) (t 25))] none)
  (.seq (.seq (.region [a 27 (.bin .eql (t 18) (i 3)),
    a 26 (.mv (t 27))] none)
  (.cond (t 26)
   .skip
   (.seq (.region [a 28 (.bin .eql (t 18) (i 4)),
     a 26 (.mv (t 28))] none)
   (.cond (t 26)
    .skip
    (.region [a 29 (.bin .eql (t 18) (i 23)),
      a 26 (.mv (t 29))] none)))))
  (.cond (t 26)
   (.region [a 30 (.fieldAddr 0 (t 9)),
     a 31 (.load none (t 30)),
     a 32 (.mv (t 2)),
     a 33 (.build [(.t (.int .i64 0)), (.t (.int .i64 0)), (.t .nil), (.t .nil), (.t (.int .i64 0)), (.t (.int .i64 0)), (.t (.int .u16 0)), (.t (.int .u16 0)), (.t (.int .u16 0)), (.t (.int .i64 0)), (.t (.int .i64 0)), (.t (.bool false)), (.t (.int .i64 0)), (.t .nil)] [(0, 1, (t 31)), (3, 1, (t 32))]),
     a_ (.store 14 (t 10) (t 33))] none)
   (.seq (.region [a 35 (.bin .eql (t 18) (i 43)),
     a 34 (.mv (t 35))] none)
   (.cond (t 34)
    (.seq (.region [a 36 (.fieldAddr 10 (t 9)),
      a 37 (.load none (t 36)),
      a 38 (.mv (t 0)),
      a 39 (.call 22 [(t 38), (i 3)]),
      a 40 (.bin .eql (t 39) (i 0)),
      a 41 (.mv (t 0)),
      a 42 (.call 49 [(t 41), (i 3), (i 256)]),
      a 43 (.build [(.t (.int .i64 0)), (.t (.int .i64 0)), (.t .nil), (.t .nil), (.t (.int .i64 0)), (.t (.int .i64 0)), (.t (.int .u16 0)), (.t (.int .u16 0)), (.t (.int .u16 0)), (.t (.int .i64 0)), (.t (.int .i64 0)), (.t (.bool false)), (.t (.int .i64 0)), (.t .nil)] [(0, 1, (i 43)), (9, 1, (t 37)), (10, 1, (i 129)), (11, 1, (t 40)), (12, 1, (t 42))]),
      a_ (.store 14 (t 10) (t 43))] (some [[], [0], [], [2], [3, 2], [], [5, 3, 2], [1, 4, 6, 5, 3, 3, 2, 0], [7, 6, 0, 1, 2, 3, 4, 5, 6, 7, 1, 4, 6, 5, 3, 3, 2, 0]]))
    (.seq (.region [a 11 (.mv (i 0))] none)
    (.block 1 (.loop
     (.seq (.seq (.region [a 44 (.mv (t 11)),
       a 45 (.mv (t 2)),
       a 46 (.len false (t 45)),
       a 47 (.bin .lss (t 44) (t 46)),
       a 48 (.mv (t 47)),
       g 49 48 true (.mv (t 11)),
       g 50 48 true (.bin .lss (t 49) (i 9)),
       a 51 (.pick (t 48) (t 50) (bo false))] none)
     (.cond (t 51)
      .skip
      (.exit 1)))
     (.seq (.block 2 (.region [a 54 (.fieldAddr 13 (t 10)),
       a 55 (.load none (t 54)),
       a 56 (.mv (t 11)),
       a 57 (.mv (t 2)),
       a 58 (.mv (t 11)),
       a 59 (.idxAddr 1 (t 57) (t 58)),
       a 60 (.load none (t 59)),
       a 61 (.bin .rem (t 60) (.k (.c (.t (.int .u16 20))))),
       a 62 (.conv .i64 (t 61)),
       a 63 (.mkSlice 1 1 [(.int .u8 0)] (t 62) (t 62)),
       a 64 (.bstr (t 63)),
       a 65 (.build [(.t (.int .i64 0)), (.t (.str ⟨#[]⟩))] [(0, 1, (t 56)), (1, 1, (t 64))]),
       a 66 (.mkList false 2 1 [(.int .i64 0), (.str ⟨#[]⟩)] [(0, (t 65))]),
       a 67 (.append 2 24 [(.int .i64 0), (.str ⟨#[]⟩)] (t 55) (t 66)),
       a 68 (.fieldAddr 13 (t 10)),
       a_ (.store 1 (t 68) (t 67))] (some [[], [0], [], [], [], [3, 4], [5, 3, 4], [6, 5, 3, 4], [7, 6, 5, 3, 4], [8, 8, 7, 6, 5, 3, 4], [9, 8, 8, 7, 6, 5, 3, 4], [2, 10, 9, 8, 8, 7, 6, 5, 3, 4], [11, 2, 10, 9, 8, 8, 7, 6, 5, 3, 4], [1, 12, 11, 2, 10, 9, 8, 8, 7, 6, 5, 3, 4, 0], [0, 1, 2, 3, 4, 5, 6, 7, 8, 9, 10, 11, 12, 13, 1, 12, 11, 2, 10, 9, 8, 8, 7, 6, 5, 3, 4, 0], [14, 13, 13, 0, 1, 2, 3, 4, 5, 6, 7, 8, 9, 10, 11, 12, 13, 0, 1, 2, 3, 4, 5, 6, 7, 8, 9, 10, 11, 12, 13, 1, 12, 11, 2, 10, 9, 8, 8, 7, 6, 5, 3, 4, 0]])))
     (.region [a 52 (.mv (t 11)),
       a 53 (.bin .add (t 52) (i 1)),
       a 11 (.mv (t 53))] none)))))))
    .skip))))))))
 (.seq (.region [a 69 (.load (some 14) (t 10)),
   a_ (.store 14 (t 8) (t 69))] none)
 .ret))))), [.cell 8 (some 14)]⟩
theorem t62 : FnAt Try.prog 62 a62 := .mk Try.func62 (by kernel_rfl) (by kernel_rfl)
/-- busbar/tell.Fail -/
def a63 : AF := ⟨2, 8, (.seq (.region [a 4 (.alloc [(.t (.int .i64 0)), (.t (.int .i64 0)), (.t .nil), (.t .nil), (.t (.int .i64 0)), (.t (.int .i64 0)), (.t (.int .u16 0)), (.t (.int .u16 0)), (.t (.int .u16 0)), (.t (.int .i64 0)), (.t (.int .i64 0)), (.t (.bool false)), (.t (.int .i64 0)), (.t .nil)])] none)
 (.seq (.region [a 5 (.mv (t 0)),
   a 6 (.mv (t 1)),
   a 7 (.build [(.t (.int .i64 0)), (.t (.int .i64 0)), (.t .nil), (.t .nil), (.t (.int .i64 0)), (.t (.int .i64 0)), (.t (.int .u16 0)), (.t (.int .u16 0)), (.t (.int .u16 0)), (.t (.int .i64 0)), (.t (.int .i64 0)), (.t (.bool false)), (.t (.int .i64 0)), (.t .nil)] [(0, 1, (t 5)), (1, 1, (t 6))]),
   a_ (.store 14 (t 4) (t 7))] none)
 .ret)), [.cell 4 (some 14)]⟩
theorem t63 : FnAt Try.prog 63 a63 := .mk Try.func63 (by kernel_rfl) (by kernel_rfl)
/-- (*busbar/busbarref25.File).Set -/
def a64 : AF := ⟨2, 47, (.seq (.region [a 4 (.mv (i 0))] none)
 (.block 0 (.loop
  (.seq (.seq (.region [a 6 (.mv (t 4)),
    a 7 (.mv (t 1)),
    a 8 (.len false (t 7)),
    a 9 (.bin .lss (t 6) (t 8))] none)
  (.cond (t 9)
   .skip
   (.exit 0)))
  (.seq (.block 1 (.seq (.region [a 12 (.mv (t 1)),
    a 13 (.mv (t 4)),
    a 14 (.idxAddr 3 (t 12) (t 13)),
    a 15 (.fieldAddr 0 (t 14)),
    a 16 (.load (some 2) (t 15)),
    a 5 (.alloc [(.t (.int .i64 0)), (.t (.int .i64 0))]),
    a_ (.store 2 (t 5) (t 16))] none)
  (.seq (.region [a 17 (.fieldAddr 0 (t 5)),
    a 18 (.load none (t 17)),
    a 19 (.bin .geq (t 18) (i 0)),
    a 20 (.mv (t 19)),
    g 21 20 true (.fieldAddr 0 (t 5)),
    g 22 20 true (.load none (t 21)),
    g 23 20 true (.bin .leq (t 22) (i 3)),
    a 24 (.pick (t 20) (t 23) (bo false)),
    a 25 (.mv (t 24)),
    g 26 25 true (.fieldAddr 1 (t 5)),
    g 27 25 true (.load none (t 26)),
    g 28 25 true (.bin .geq (t 27) (i 0)),
    a 29 (.pick (t 25) (t 28) (bo false)),
    a 30 (.mv (t 29)),
    g 31 30 true (.fieldAddr 1 (t 5)),
    g 32 30 true (.load none (t 31)),
    g 33 30 true (.bin .lss (t 32) (i 65536)),
    a 34 (.pick (t 30) (t 33) (bo false))] none)
  (.cond (t 34)
   (.region [a 35 (.mv (t 0)),
     a 36 (.mv (t 0)),
     a 37 (.nilCheck (t 36)),
     a 38 (.fieldAddr 0 (t 37)),
     a 39 (.load none (t 38)),
     a 40 (.mv (t 1)),
     a 41 (.mv (t 4)),
     a 42 (.idxAddr 3 (t 40) (t 41)),
     a 43 (.load (some 3) (t 42)),
     a 44 (.call 114 [(t 39), (t 43)]),
     a 45 (.nilCheck (t 35)),
     a 46 (.fieldAddr 0 (t 45)),
     a_ (.store 1 (t 46) (t 44))] (some [[], [], [1], [2, 1], [3, 2, 1], [], [], [5, 6], [7, 5, 6], [4, 8, 7, 5, 6, 3, 2, 1], [0, 0, 1, 2, 3, 4, 5, 6, 7, 8, 9, 4, 8, 7, 5, 6, 3, 2, 1], [10, 0, 1, 2, 3, 4, 5, 6, 7, 8, 9, 0, 0, 1, 2, 3, 4, 5, 6, 7, 8, 9, 4, 8, 7, 5, 6, 3, 2, 1], [11, 9, 9, 0, 1, 2, 3, 4, 5, 6, 7, 8, 9, 10, 0, 1, 2, 3, 4, 5, 6, 7, 8, 9, 0, 0, 1, 2, 3, 4, 5, 6, 7, 8, 9, 4, 8, 7, 5, 6, 3, 2, 1]]))
   .skip))))
  (.region [a 10 (.mv (t 4)),
    a 11 (.bin .add (t 10) (i 1)),
    a 4 (.mv (t 11))] none)))))), []⟩
theorem t64 : FnAt Try.prog 64 a64 := .mk Try.func64 (by kernel_rfl) (by kernel_rfl)
/-- busbar/busbarlaw0.Cells -/
def a65 : AF := ⟨1, 23, (.seq (.region [a 2 (.mv (.k (.c (.t .nil))))] none)
 (.seq (.region [a 3 (.mv (.k (.c (.t .nil))))] none)
 (.seq (.seq (.region [a 4 (.mv (i 0))] none)
 (.block 0 (.loop
  (.seq (.seq (.region [a 5 (.mv (t 4)),
    a 6 (.mv (t 0)),
    a 7 (.len false (t 6)),
    a 8 (.bin .lss (t 5) (t 7)),
    a 9 (.mv (t 8)),
    g 10 9 true (.mv (t 4)),
    g 11 9 true (.bin .lss (t 10) (i 20)),
    a 12 (.pick (t 9) (t 11) (bo false))] none)
  (.cond (t 12)
   .skip
   (.exit 0)))
  (.seq (.block 1 (.region [a 15 (.mv (t 3)),
    a 16 (.mv (t 0)),
    a 17 (.mv (t 4)),
    a 18 (.idxAddr 1 (t 16) (t 17)),
    a 19 (.load none (t 18)),
    a 20 (.call 115 [(t 19)]),
    a 21 (.call 114 [(t 15), (t 20)]),
    a 3 (.mv (t 21))] none))
  (.region [a 13 (.mv (t 4)),
    a 14 (.bin .add (t 13) (i 1)),
    a 4 (.mv (t 14))] none))))))
 (.seq (.region [a 22 (.mv (t 3)),
   a 2 (.mv (t 22))] none)
 .ret)))), [.tmp 2]⟩
theorem t65 : FnAt Try.prog 65 a65 := .mk Try.func65 (by kernel_rfl) (by kernel_rfl)
/-- (*busbar/busbarref25.File).Do -/
def a66 : AF := ⟨2, 94, (.seq (.region [a 3 (.box (t 1)),
   a 4 (.alloc [(.t (.int .i64 0)), (.t (.int .i64 0)), (.t .nil), (.t .nil), (.t (.int .i64 0)), (.t (.int .i64 0)), (.t (.int .u16 0)), (.t (.int .u16 0)), (.t (.int .u16 0)), (.t (.int .i64 0)), (.t (.int .i64 0)), (.t (.bool false)), (.t (.int .i64 0)), (.t .nil)]),
   a 5 (.mv (bo false))] none)
 (.seq (.region [a 13 (.load (some 12) (t 3)),
   a 14 (.call 96 [(t 13)]),
   a 12 (.mv (t 14)),
   a 15 (.extract (t 12) 0),
   a 16 (.extract (t 12) 1),
   a 6 (.mv (t 15)),
   a 7 (.mv (t 16))] none)
 (.seq (.seq (.region [a 17 (.load (some 12) (t 3)),
   a 18 (.call 97 [(t 17)]),
   a 19 (.un .not (t 18)),
   a 20 (.mv (t 19)),
   g 21 20 false (.fieldAddr 0 (t 3)),
   g 22 20 false (.load none (t 21)),
   g 23 20 false (.bin .eql (t 22) (i 43)),
   a 24 (.pick (t 20) (bo true) (t 23)),
   a 25 (.mv (t 24)),
   g 26 25 false (.mv (t 6)),
   g 27 25 false (.len false (t 26)),
   g 28 25 false (.bin .gtr (t 27) (i 0)),
   g 29 25 false (.mv (t 28)),
   g 30 29 true (.mv (t 6)),
   g 31 29 true (.idxAddr 3 (t 30) (i 0)),
   g 32 29 true (.load (some 3) (t 31)),
   g 33 29 true (.call 116 [(t 32)]),
   g 34 29 true (.un .not (t 33)),
   g 35 25 false (.pick (t 29) (t 34) (bo false)),
   a 36 (.pick (t 25) (bo true) (t 35)),
   a 37 (.mv (t 36)),
   g 38 37 false (.mv (t 7)),
   g 39 37 false (.len false (t 38)),
   g 40 37 false (.bin .gtr (t 39) (i 0)),
   g 41 37 false (.mv (t 40)),
   g 42 41 true (.mv (t 7)),
   g 43 41 true (.idxAddr 3 (t 42) (i 0)),
   g 44 41 true (.load (some 3) (t 43)),
   g 45 41 true (.call 116 [(t 44)]),
   g 46 41 true (.un .not (t 45)),
   g 47 37 false (.pick (t 41) (t 46) (bo false)),
   a 48 (.pick (t 37) (bo true) (t 47))] none)
 (.cond (t 48)
  (.seq (.region [a 49 (.build [(.t (.int .i64 0)), (.t (.int .i64 0)), (.t .nil), (.t .nil), (.t (.int .i64 0)), (.t (.int .i64 0)), (.t (.int .u16 0)), (.t (.int .u16 0)), (.t (.int .u16 0)), (.t (.int .i64 0)), (.t (.int .i64 0)), (.t (.bool false)), (.t (.int .i64 0)), (.t .nil)] []),
    a_ (.store 14 (t 4) (t 49)),
    a 5 (.mv (bo false))] none)
  .ret)
  .skip))
 (.seq (.region [a 51 (.fieldAddr 0 (t 3)),
   a 52 (.load none (t 51)),
   a 53 (.call 40 [(t 52)]),
   a 50 (.mv (t 53)),
   a 54 (.extract (t 50) 0),
   a 55 (.extract (t 50) 1),
   a 8 (.mv (t 54)),
   a 9 (.mv (t 55))] none)
 (.seq (.region [a 56 (.mv (t 0)),
   a 57 (.load (some 12) (t 3)),
   a 58 (.mv (t 0)),
   a 59 (.mv (t 8)),
   a 60 (.fieldAddr 1 (t 3)),
   a 61 (.load none (t 60)),
   a 62 (.build [(.t (.int .i64 0)), (.t (.int .i64 0))] [(0, 1, (t 59)), (1, 1, (t 61))]),
   a 63 (.call 118 [(t 58), (t 62)]),
   a 64 (.call 117 [(t 57), (t 63)]),
   a 65 (.call 64 [(t 56), (t 64)])] (some [[], [], [], [], [], [4], [3, 5, 4], [2, 6, 3, 5, 4], [1, 7, 7, 2, 6, 3, 5, 4], [0, 8, 8, 1, 7, 7, 2, 6, 3, 5, 4]]))
 (.seq (.seq (.region [a 66 (.mv (t 6)),
   a 67 (.len false (t 66)),
   a 68 (.bin .eql (t 67) (i 0))] none)
 (.cond (t 68)
  (.seq (.region [a 69 (.load (some 12) (t 3)),
    a 70 (.call 68 [(t 69)]),
    a_ (.store 14 (t 4) (t 70)),
    a 5 (.mv (bo true))] none)
  .ret)
  .skip))
 (.seq (.region [a 10 (.mv (.k (.c (.t .nil))))] none)
 (.seq (.seq (.region [a 71 (.mv (t 6)),
   a 72 (.idxAddr 3 (t 71) (i 0)),
   a 73 (.fieldAddr 1 (t 72)),
   a 74 (.load none (t 73)),
   a 11 (.mv (t 74))] none)
 (.block 0 (.loop
  (.seq (.seq (.region [a 75 (.mv (t 11)),
    a 76 (.mv (t 6)),
    a 77 (.idxAddr 3 (t 76) (i 0)),
    a 78 (.fieldAddr 2 (t 77)),
    a 79 (.load none (t 78)),
    a 80 (.bin .lss (t 75) (t 79))] none)
  (.cond (t 80)
   .skip
   (.exit 0)))
  (.seq (.block 1 (.region [a 83 (.mv (t 10)),
    a 84 (.mv (t 0)),
    a 85 (.mv (t 8)),
    a 86 (.mv (t 11)),
    a 87 (.build [(.t (.int .i64 0)), (.t (.int .i64 0))] [(0, 1, (t 85)), (1, 1, (t 86))]),
    a 88 (.call 118 [(t 84), (t 87)]),
    a 89 (.mkList false 1 1 [(.int .u16 0)] [(0, (t 88))]),
    a 90 (.append 1 2 [(.int .u16 0)] (t 83) (t 89)),
    a 10 (.mv (t 90))] none))
  (.region [a 81 (.mv (t 11)),
    a 82 (.bin .add (t 81) (i 1)),
    a 11 (.mv (t 82))] none))))))
 (.seq (.region [a 91 (.load (some 12) (t 3)),
   a 92 (.mv (t 10)),
   a 93 (.call 119 [(t 91), (t 92)]),
   a_ (.store 14 (t 4) (t 93)),
   a 5 (.mv (bo true))] none)
 .ret))))))))), [.cell 4 (some 14), .tmp 5]⟩
theorem t66 : FnAt Try.prog 66 a66 := .mk Try.func66 (by kernel_rfl) (by kernel_rfl)
/-- busbar/tell.Echo -/
def a67 : AF := ⟨1, 41, (.seq (.region [a 1 (.box (t 0)),
   a 2 (.alloc [(.t (.int .i64 0)), (.t (.int .i64 0)), (.t .nil), (.t .nil), (.t (.int .i64 0)), (.t (.int .i64 0)), (.t (.int .u16 0)), (.t (.int .u16 0)), (.t (.int .u16 0)), (.t (.int .i64 0)), (.t (.int .i64 0)), (.t (.bool false)), (.t (.int .i64 0)), (.t .nil)])] none)
 (.seq (.seq (.region [a 3 (.load (some 12) (t 1)),
   a 4 (.call 45 [(t 3)]),
   a 5 (.un .not (t 4))] none)
 (.cond (t 5)
  (.seq (.region [a 6 (.build [(.t (.int .i64 0)), (.t (.int .i64 0)), (.t .nil), (.t .nil), (.t (.int .i64 0)), (.t (.int .i64 0)), (.t (.int .u16 0)), (.t (.int .u16 0)), (.t (.int .u16 0)), (.t (.int .i64 0)), (.t (.int .i64 0)), (.t (.bool false)), (.t (.int .i64 0)), (.t .nil)] []),
    a_ (.store 14 (t 2) (t 6))] none)
  .ret)
  .skip))
 (.seq (.seq (.region [a 7 (.fieldAddr 0 (t 1)),
   a 8 (.load none (t 7))] none)
 (.block 0 (.seq (.seq (.region [a 10 (.bin .eql (t 8) (i 5)),
   a 9 (.mv (t 10))] none)
 (.cond (t 9)
  .skip
  (.region [a 11 (.bin .eql (t 8) (i 6)),
    a 9 (.mv (t 11))] none)))
 (.cond (t 9)
  (.seq (.region [a 12 (.fieldAddr 0 (t 1)),
    a 13 (.load none (t 12)),
    a 14 (.fieldAddr 1 (t 1)),
    a 15 (.load none (t 14)),
    a 16 (.fieldAddr 3 (t 1)),
    a 17 (.load none (t 16)),
    a 18 (.build [(.t (.int .i64 0)), (.t (.int .i64 0)), (.t .nil), (.t .nil), (.t (.int .i64 0)), (.t (.int .i64 0)), (.t (.int .u16 0)), (.t (.int .u16 0)), (.t (.int .u16 0)), (.t (.int .i64 0)), (.t (.int .i64 0)), (.t (.bool false)), (.t (.int .i64 0)), (.t .nil)] [(0, 1, (t 13)), (4, 1, (t 15)), (6, 1, (t 17))]),
    a_ (.store 14 (t 2) (t 18))] none)
  .ret)
  (.seq (.seq (.region [a 20 (.bin .eql (t 8) (i 15)),
    a 19 (.mv (t 20))] none)
  (.cond (t 19)
   .skip
   (.region [a 21 (.bin .eql (t 8) (i 16)),
     a 19 (.mv (t 21))] none)))
  (.cond (t 19)
   (.seq (.region [a 22 (.fieldAddr 0 (t 1)),
     a 23 (.load none (t 22)),
     a 24 (.fieldAddr 1 (t 1)),
     a 25 (.load none (t 24)),
     a 26 (.fieldAddr 2 (t 1)),
     a 27 (.load none (t 26)),
     a 28 (.build [(.t (.int .i64 0)), (.t (.int .i64 0)), (.t .nil), (.t .nil), (.t (.int .i64 0)), (.t (.int .i64 0)), (.t (.int .u16 0)), (.t (.int .u16 0)), (.t (.int .u16 0)), (.t (.int .i64 0)), (.t (.int .i64 0)), (.t (.bool false)), (.t (.int .i64 0)), (.t .nil)] [(0, 1, (t 23)), (4, 1, (t 25)), (5, 1, (t 27))]),
     a_ (.store 14 (t 2) (t 28))] none)
   .ret)
   (.seq (.region [a 30 (.bin .eql (t 8) (i 22)),
     a 29 (.mv (t 30))] none)
   (.cond (t 29)
    (.seq (.region [a 31 (.fieldAddr 0 (t 1)),
      a 32 (.load none (t 31)),
      a 33 (.fieldAddr 1 (t 1)),
      a 34 (.load none (t 33)),
      a 35 (.fieldAddr 4 (t 1)),
      a 36 (.load none (t 35)),
      a 37 (.fieldAddr 5 (t 1)),
      a 38 (.load none (t 37)),
      a 39 (.build [(.t (.int .i64 0)), (.t (.int .i64 0)), (.t .nil), (.t .nil), (.t (.int .i64 0)), (.t (.int .i64 0)), (.t (.int .u16 0)), (.t (.int .u16 0)), (.t (.int .u16 0)), (.t (.int .i64 0)), (.t (.int .i64 0)), (.t (.bool false)), (.t (.int .i64 0)), (.t .nil)] [(0, 1, (t 32)), (4, 1, (t 34)), (7, 1, (t 36)), (8, 1, (t 38))]),
      a_ (.store 14 (t 2) (t 39))] none)
    .ret)
    .skip))))))))
 (.seq (.region [a 40 (.build [(.t (.int .i64 0)), (.t (.int .i64 0)), (.t .nil), (.t .nil), (.t (.int .i64 0)), (.t (.int .i64 0)), (.t (.int .u16 0)), (.t (.int .u16 0)), (.t (.int .u16 0)), (.t (.int .i64 0)), (.t (.int .i64 0)), (.t (.bool false)), (.t (.int .i64 0)), (.t .nil)] []),
   a_ (.store 14 (t 2) (t 40))] none)
 .ret)))), [.cell 2 (some 14)]⟩
theorem t67 : FnAt Try.prog 67 a67 := .mk Try.func67 (by kernel_rfl) (by kernel_rfl)
/-- busbar/busbarref5.Echo -/
def a68 : AF := ⟨1, 39, (.seq (.region [a 1 (.box (t 0)),
   a 2 (.alloc [(.t (.int .i64 0)), (.t (.int .i64 0)), (.t .nil), (.t .nil), (.t (.int .i64 0)), (.t (.int .i64 0)), (.t (.int .u16 0)), (.t (.int .u16 0)), (.t (.int .u16 0)), (.t (.int .i64 0)), (.t (.int .i64 0)), (.t (.bool false)), (.t (.int .i64 0)), (.t .nil)])] none)
 (.seq (.seq (.region [a 3 (.load (some 12) (t 1)),
   a 4 (.call 97 [(t 3)]),
   a 5 (.un .not (t 4))] none)
 (.cond (t 5)
  (.seq (.region [a 6 (.build [(.t (.int .i64 0)), (.t (.int .i64 0)), (.t .nil), (.t .nil), (.t (.int .i64 0)), (.t (.int .i64 0)), (.t (.int .u16 0)), (.t (.int .u16 0)), (.t (.int .u16 0)), (.t (.int .i64 0)), (.t (.int .i64 0)), (.t (.bool false)), (.t (.int .i64 0)), (.t .nil)] []),
    a_ (.store 14 (t 2) (t 6))] none)
  .ret)
  .skip))
 (.seq (.seq (.region [a 7 (.fieldAddr 0 (t 1)),
   a 8 (.load none (t 7))] none)
 (.block 0 (.seq (.seq (.region [a 10 (.bin .eql (t 8) (i 5)),
   a 9 (.mv (t 10))] none)
 (.cond (t 9)
  .skip
  (.region [a 11 (.bin .eql (t 8) (i 6)),
    a 9 (.mv (t 11))] none)))
 (.cond (t 9)
  (.seq (.region [a 12 (.fieldAddr 0 (t 1)),
    a 13 (.load none (t 12)),
    a 14 (.fieldAddr 1 (t 1)),
    a 15 (.load none (t 14)),
    a 16 (.fieldAddr 3 (t 1)),
    a 17 (.load none (t 16)),
    a 18 (.build [(.t (.int .i64 0)), (.t (.int .i64 0)), (.t .nil), (.t .nil), (.t (.int .i64 0)), (.t (.int .i64 0)), (.t (.int .u16 0)), (.t (.int .u16 0)), (.t (.int .u16 0)), (.t (.int .i64 0)), (.t (.int .i64 0)), (.t (.bool false)), (.t (.int .i64 0)), (.t .nil)] [(0, 1, (t 13)), (4, 1, (t 15)), (6, 1, (t 17))]),
    a_ (.store 14 (t 2) (t 18))] none)
  .ret)
  (.seq (.region [a 20 (.bin .eql (t 8) (i 22)),
    a 19 (.mv (t 20))] none)
  (.cond (t 19)
   (.seq (.region [a 21 (.fieldAddr 1 (t 1)),
     a 22 (.load none (t 21)),
     a 23 (.fieldAddr 4 (t 1)),
     a 24 (.load none (t 23)),
     a 25 (.fieldAddr 5 (t 1)),
     a 26 (.load none (t 25)),
     a 27 (.build [(.t (.int .i64 0)), (.t (.int .i64 0)), (.t .nil), (.t .nil), (.t (.int .i64 0)), (.t (.int .i64 0)), (.t (.int .u16 0)), (.t (.int .u16 0)), (.t (.int .u16 0)), (.t (.int .i64 0)), (.t (.int .i64 0)), (.t (.bool false)), (.t (.int .i64 0)), (.t .nil)] [(0, 1, (i 22)), (4, 1, (t 22)), (7, 1, (t 24)), (8, 1, (t 26))]),
     a_ (.store 14 (t 2) (t 27))] none)
   .ret)
   (.seq (.seq (.region [a 29 (.bin .eql (t 8) (i 15)),
     a 28 (.mv (t 29))] none)
   (.cond (t 28)
    .skip
    (.region [a 30 (.bin .eql (t 8) (i 16)),
      a 28 (.mv (t 30))] none)))
   (.cond (t 28)
    (.seq (.region [a 31 (.fieldAddr 0 (t 1)),
      a 32 (.load none (t 31)),
      a 33 (.fieldAddr 1 (t 1)),
      a 34 (.load none (t 33)),
      a 35 (.fieldAddr 2 (t 1)),
      a 36 (.load none (t 35)),
      a 37 (.build [(.t (.int .i64 0)), (.t (.int .i64 0)), (.t .nil), (.t .nil), (.t (.int .i64 0)), (.t (.int .i64 0)), (.t (.int .u16 0)), (.t (.int .u16 0)), (.t (.int .u16 0)), (.t (.int .i64 0)), (.t (.int .i64 0)), (.t (.bool false)), (.t (.int .i64 0)), (.t .nil)] [(0, 1, (t 32)), (4, 1, (t 34)), (5, 1, (t 36))]),
      a_ (.store 14 (t 2) (t 37))] none)
    .ret)
    .skip))))))))
 (.seq (.region [a 38 (.build [(.t (.int .i64 0)), (.t (.int .i64 0)), (.t .nil), (.t .nil), (.t (.int .i64 0)), (.t (.int .i64 0)), (.t (.int .u16 0)), (.t (.int .u16 0)), (.t (.int .u16 0)), (.t (.int .i64 0)), (.t (.int .i64 0)), (.t (.bool false)), (.t (.int .i64 0)), (.t .nil)] []),
   a_ (.store 14 (t 2) (t 38))] none)
 .ret)))), [.cell 2 (some 14)]⟩
theorem t68 : FnAt Try.prog 68 a68 := .mk Try.func68 (by kernel_rfl) (by kernel_rfl)
/-- busbar/iden.place -/
def a70 : AF := ⟨2, 8, (.seq (.region [a 3 (.box (t 1)),
   a 4 (.mv (i 0))] none)
 (.seq (.region [a 5 (.mv (t 0)),
   a 6 (.mkFn 122 [(t 3)]),
   a 7 (.call 121 [(t 5), (t 6)]),
   a 4 (.mv (t 7))] none)
 .ret)), [.tmp 4]⟩
theorem t70 : FnAt Try.prog 70 a70 := .mk Try.func70 (by kernel_rfl) (by kernel_rfl)
/-- busbar/iden.among -/
def a71 : AF := ⟨2, 9, (.seq (.region [a 3 (.box (t 1)),
   a 4 (.mv (.k (.c (.t .nil))))] none)
 (.seq (.region [a 5 (.mv (t 0)),
   a 6 (.call 72 [(t 5)]),
   a 7 (.mkFn 124 [(t 3)]),
   a 8 (.call 123 [(t 6), (t 7)]),
   a 4 (.mv (t 8))] none)
 .ret)), [.tmp 4]⟩
theorem t71 : FnAt Try.prog 71 a71 := .mk Try.func71 (by kernel_rfl) (by kernel_rfl)
/-- busbar/iden.fits -/
def a73 : AF := ⟨1, 5, (.seq (.region [a 1 (.box (t 0)),
   a 2 (.mv (bo false))] none)
 (.seq (.region [a 3 (.load (some 14) (t 1)),
   a 4 (.call 56 [(t 3)]),
   a 2 (.mv (t 4))] none)
 .ret)), [.tmp 2]⟩
theorem t73 : FnAt Try.prog 73 a73 := .mk Try.func73 (by kernel_rfl) (by kernel_rfl)
/-- busbar/iden.last -/
def a75 : AF := ⟨1, 7, (.seq (.region [a 2 (.mv (i 0))] none)
 (.seq (.region [a 3 (.build [(.t (.int .i64 0)), (.t (.int .i64 0)), (.t (.int .i64 0))] [(0, 1, (i 2)), (1, 1, (i 127)), (2, 1, (i 255))]),
   a 4 (.mv (t 0)),
   a 5 (.bin .sub (t 4) (i 1)),
   a 6 (.index 1 3 none (t 3) (t 5)),
   a 2 (.mv (t 6))] none)
 .ret)), [.tmp 2]⟩
theorem t75 : FnAt Try.prog 75 a75 := .mk Try.func75 (by kernel_rfl) (by kernel_rfl)
/-- busbar/tell.one -/
def a86 : AF := ⟨1, 4, (.seq (.region [a 2 (.mv (i 0))] none)
 (.seq (.seq (.region [a 3 (.mv (t 0))] none)
 (.cond (t 3)
  (.seq (.region [a 2 (.mv (i 1))] none)
  .ret)
  .skip))
 (.seq (.region [a 2 (.mv (i 0))] none)
 .ret))), [.tmp 2]⟩
theorem t86 : FnAt Try.prog 86 a86 := .mk Try.func86 (by kernel_rfl) (by kernel_rfl)
/-- busbar/tell.exception -/
def a102 : AF := ⟨1, 10, (.seq (.region [a 2 (.mv (bo false))] none)
 (.seq (.seq (.region [a 3 (.mv (t 0))] none)
 (.block 0 (.seq (.seq (.region [a 5 (.bin .eql (t 3) (i 1)),
   a 4 (.mv (t 5))] none)
 (.cond (t 4)
  .skip
  (.seq (.region [a 6 (.bin .eql (t 3) (i 2)),
    a 4 (.mv (t 6))] none)
  (.cond (t 4)
   .skip
   (.seq (.region [a 7 (.bin .eql (t 3) (i 3)),
     a 4 (.mv (t 7))] none)
   (.cond (t 4)
    .skip
    (.seq (.region [a 8 (.bin .eql (t 3) (i 4)),
      a 4 (.mv (t 8))] none)
    (.cond (t 4)
     .skip
     (.region [a 9 (.bin .eql (t 3) (i 6)),
       a 4 (.mv (t 9))] none)))))))))
 (.cond (t 4)
  (.seq (.region [a 2 (.mv (bo true))] none)
  .ret)
  .skip))))
 (.seq (.region [a 2 (.mv (bo false))] none)
 .ret))), [.tmp 2]⟩
theorem t102 : FnAt Try.prog 102 a102 := .mk Try.func102 (by kernel_rfl) (by kernel_rfl)
/-- busbar/tell.isByte -/
def a103 : AF := ⟨1, 9, (.seq (.region [a 2 (.mv (bo false))] none)
 (.seq (.region [a 3 (.mv (t 0)),
   a 4 (.bin .geq (t 3) (i 0)),
   a 5 (.mv (t 4)),
   g 6 5 true (.mv (t 0)),
   g 7 5 true (.bin .leq (t 6) (i 255)),
   a 8 (.pick (t 5) (t 7) (bo false)),
   a 2 (.mv (t 8))] none)
 .ret)), [.tmp 2]⟩
theorem t103 : FnAt Try.prog 103 a103 := .mk Try.func103 (by kernel_rfl) (by kernel_rfl)
/-- busbar/tell.numbers -/
def a104 : AF := ⟨1, 35, (.seq (.region [a 1 (.box (t 0)),
   a 2 (.alloc [(.t (.int .i64 0)), (.t (.int .i64 0)), (.t (.int .i64 0)), (.t (.int .i64 0)), (.t (.int .i64 0)), (.t (.int .i64 0)), (.t (.int .i64 0)), (.t (.int .i64 0)), (.t (.int .i64 0)), (.t (.int .i64 0)), (.t (.int .i64 0)), (.t (.int .i64 0))])] none)
 (.seq (.region [a 3 (.fieldAddr 4 (t 1)),
   a 4 (.load none (t 3)),
   a 5 (.fieldAddr 5 (t 1)),
   a 6 (.load none (t 5)),
   a 7 (.fieldAddr 6 (t 1)),
   a 8 (.load none (t 7)),
   a 9 (.conv .i64 (t 8)),
   a 10 (.fieldAddr 7 (t 1)),
   a 11 (.load none (t 10)),
   a 12 (.conv .i64 (t 11)),
   a 13 (.fieldAddr 8 (t 1)),
   a 14 (.load none (t 13)),
   a 15 (.conv .i64 (t 14)),
   a 16 (.fieldAddr 9 (t 1)),
   a 17 (.load none (t 16)),
   a 18 (.fieldAddr 10 (t 1)),
   a 19 (.load none (t 18)),
   a 20 (.fieldAddr 11 (t 1)),
   a 21 (.load none (t 20)),
   a 22 (.call 86 [(t 21)]),
   a 23 (.fieldAddr 12 (t 1)),
   a 24 (.load none (t 23)),
   a 25 (.fieldAddr 2 (t 1)),
   a 26 (.load none (t 25)),
   a 27 (.len false (t 26)),
   a 28 (.fieldAddr 3 (t 1)),
   a 29 (.load none (t 28)),
   a 30 (.len false (t 29)),
   a 31 (.fieldAddr 13 (t 1)),
   a 32 (.load none (t 31)),
   a 33 (.len false (t 32)),
   a 34 (.build [(.t (.int .i64 0)), (.t (.int .i64 0)), (.t (.int .i64 0)), (.t (.int .i64 0)), (.t (.int .i64 0)), (.t (.int .i64 0)), (.t (.int .i64 0)), (.t (.int .i64 0)), (.t (.int .i64 0)), (.t (.int .i64 0)), (.t (.int .i64 0)), (.t (.int .i64 0))] [(0, 1, (t 4)), (1, 1, (t 6)), (2, 1, (t 9)), (3, 1, (t 12)), (4, 1, (t 15)), (5, 1, (t 17)), (6, 1, (t 19)), (7, 1, (t 22)), (8, 1, (t 24)), (9, 1, (t 27)), (10, 1, (t 30)), (11, 1, (t 33))]),
   a_ (.store 12 (t 2) (t 34))] (some [[], [0], [], [2], [], [4], [5, 4], [], [7], [8, 7], [], [10], [11, 10], [], [13], [], [15], [], [17], [18, 17], [], [20], [], [22], [23, 22], [], [25], [26, 25], [], [28], [29, 28], [1, 3, 6, 9, 12, 14, 16, 19, 21, 24, 27, 30, 29, 28, 26, 25, 23, 22, 20, 18, 17, 15, 13, 11, 10, 8, 7, 5, 4, 2, 0], [31, 19, 0, 1, 2, 3, 4, 5, 6, 7, 8, 9, 10, 11, 12, 13, 14, 15, 16, 17, 18, 19, 20, 21, 22, 23, 24, 25, 26, 27, 28, 29, 30, 31, 1, 3, 6, 9, 12, 14, 16, 19, 21, 24, 27, 30, 29, 28, 26, 25, 23, 22, 20, 18, 17, 15, 13, 11, 10, 8, 7, 5, 4, 2, 0]]))
 .ret)), [.cell 2 (some 12)]⟩
theorem t104 : FnAt Try.prog 104 a104 := .mk Try.func104 (by kernel_rfl) (by kernel_rfl)
/-- busbar/tell.only -/
def a105 : AF := ⟨1, 69, (.seq (.region [a 1 (.box (t 0)),
   a 2 (.alloc [(.t (.int .i64 0)), (.t (.int .i64 0)), (.t .nil), (.t .nil), (.t (.int .i64 0)), (.t (.int .i64 0)), (.t (.int .u16 0)), (.t (.int .u16 0)), (.t (.int .u16 0)), (.t (.int .i64 0)), (.t (.int .i64 0)), (.t (.bool false)), (.t (.int .i64 0)), (.t .nil)])] none)
 (.seq (.region [a 4 (.fieldAddr 0 (t 1)),
   a 5 (.load none (t 4)),
   a 6 (.build [(.t (.int .i64 0)), (.t (.int .i64 0)), (.t .nil), (.t .nil), (.t (.int .i64 0)), (.t (.int .i64 0)), (.t (.int .u16 0)), (.t (.int .u16 0)), (.t (.int .u16 0)), (.t (.int .i64 0)), (.t (.int .i64 0)), (.t (.bool false)), (.t (.int .i64 0)), (.t .nil)] [(0, 1, (t 5))]),
   a 3 (.alloc [(.t (.int .i64 0)), (.t (.int .i64 0)), (.t .nil), (.t .nil), (.t (.int .i64 0)), (.t (.int .i64 0)), (.t (.int .u16 0)), (.t (.int .u16 0)), (.t (.int .u16 0)), (.t (.int .i64 0)), (.t (.int .i64 0)), (.t (.bool false)), (.t (.int .i64 0)), (.t .nil)]),
   a_ (.store 14 (t 3) (t 6))] none)
 (.seq (.seq (.region [a 7 (.fieldAddr 0 (t 1)),
   a 8 (.load none (t 7))] none)
 (.block 0 (.seq (.seq (.region [a 10 (.bin .eql (t 8) (i 1)),
   a 9 (.mv (t 10))] none)
 (.cond (t 9)
  .skip
  (.region [a 11 (.bin .eql (t 8) (i 2)),
    a 9 (.mv (t 11))] none)))
 (.cond (t 9)
  (.region [a 12 (.fieldAddr 2 (t 1)),
    a 13 (.load none (t 12)),
    a 14 (.fieldAddr 2 (t 3)),
    a_ (.store 1 (t 14) (t 13))] none)
  (.seq (.seq (.region [a 16 (.bin .eql (t 8) (i 3)),
    a 15 (.mv (t 16))] none)
  (.cond (t 15)
   .skip
   (.seq (.region [a 17 (.bin .eql (t 8) (i 4)),
     a 15 (.mv (t 17))] none)
   (.cond (t 15)
    .skip
    (.region [a 18 (.bin .eql (t 8) (i 23)),
      a 15 (.mv (t 18))] none)))))
  (.cond (t 15)
   (.region [a 19 (.fieldAddr 3 (t 1)),
     a 20 (.load none (t 19)),
     a 21 (.fieldAddr 3 (t 3)),
     a_ (.store 1 (t 21) (t 20))] none)
   (.seq (.seq (.region [a 23 (.bin .eql (t 8) (i 5)),
     a 22 (.mv (t 23))] none)
   (.cond (t 22)
    .skip
    (.region [a 24 (.bin .eql (t 8) (i 6)),
      a 22 (.mv (t 24))] none)))
   (.cond (t 22)
    (.region [a 25 (.fieldAddr 4 (t 1)),
      a 26 (.load none (t 25)),
      a 27 (.fieldAddr 6 (t 1)),
      a 28 (.load none (t 27)),
      a 29 (.fieldAddr 4 (t 3)),
      a_ (.store 1 (t 29) (t 26)),
      a 30 (.fieldAddr 6 (t 3)),
      a_ (.store 1 (t 30) (t 28))] (some [[], [0], [], [2], [0, 1, 0], [4, 1, 0, 1, 0, 1, 0], [0, 1, 2, 3, 4, 5, 4, 1, 0, 1, 0, 1, 2, 0], [6, 3, 5, 0, 1, 2, 3, 4, 5, 0, 1, 2, 3, 4, 5, 4, 1, 0, 1, 0, 1, 2, 0]]))
    (.seq (.seq (.region [a 32 (.bin .eql (t 8) (i 15)),
      a 31 (.mv (t 32))] none)
    (.cond (t 31)
     .skip
     (.region [a 33 (.bin .eql (t 8) (i 16)),
       a 31 (.mv (t 33))] none)))
    (.cond (t 31)
     (.region [a 34 (.fieldAddr 4 (t 1)),
       a 35 (.load none (t 34)),
       a 36 (.fieldAddr 5 (t 1)),
       a 37 (.load none (t 36)),
       a 38 (.fieldAddr 4 (t 3)),
       a_ (.store 1 (t 38) (t 35)),
       a 39 (.fieldAddr 5 (t 3)),
       a_ (.store 1 (t 39) (t 37))] (some [[], [0], [], [2], [0, 1, 0], [4, 1, 0, 1, 0, 1, 0], [0, 1, 2, 3, 4, 5, 4, 1, 0, 1, 0, 1, 2, 0], [6, 3, 5, 0, 1, 2, 3, 4, 5, 0, 1, 2, 3, 4, 5, 4, 1, 0, 1, 0, 1, 2, 0]]))
     (.seq (.region [a 41 (.bin .eql (t 8) (i 22)),
       a 40 (.mv (t 41))] none)
     (.cond (t 40)
      (.region [a 42 (.fieldAddr 4 (t 1)),
        a 43 (.load none (t 42)),
        a 44 (.fieldAddr 7 (t 1)),
        a 45 (.load none (t 44)),
        a 46 (.fieldAddr 8 (t 1)),
        a 47 (.load none (t 46)),
        a 48 (.fieldAddr 4 (t 3)),
        a_ (.store 1 (t 48) (t 43)),
        a 49 (.fieldAddr 7 (t 3)),
        a_ (.store 1 (t 49) (t 45)),
        a 50 (.fieldAddr 8 (t 3)),
        a_ (.store 1 (t 50) (t 47))] (some [[], [0], [], [2], [], [4], [0, 1, 0], [6, 1, 0, 1, 0, 1, 0], [0, 1, 2, 3, 6, 7, 6, 1, 0, 1, 0, 1, 2, 0], [8, 3, 7, 0, 1, 2, 3, 6, 7, 0, 1, 2, 3, 6, 7, 6, 1, 0, 1, 0, 1, 2, 0], [0, 1, 2, 3, 4, 5, 6, 7, 8, 9, 8, 3, 7, 0, 1, 2, 3, 6, 7, 0, 1, 2, 3, 6, 7, 6, 1, 0, 1, 0, 1, 4, 2, 0], [10, 5, 9, 0, 1, 2, 3, 4, 5, 6, 7, 8, 9, 0, 1, 2, 3, 4, 5, 6, 7, 8, 9, 8, 3, 7, 0, 1, 2, 3, 6, 7, 0, 1, 2, 3, 6, 7, 6, 1, 0, 1, 0, 1, 4, 2, 0]]))
      (.seq (.region [a 52 (.bin .eql (t 8) (i 43)),
        a 51 (.mv (t 52))] none)
      (.cond (t 51)
       (.region [a 53 (.fieldAddr 9 (t 1)),
         a 54 (.load none (t 53)),
         a 55 (.fieldAddr 10 (t 1)),
         a 56 (.load none (t 55)),
         a 57 (.fieldAddr 11 (t 1)),
         a 58 (.load none (t 57)),
         a 59 (.fieldAddr 12 (t 1)),
         a 60 (.load none (t 59)),
         a 61 (.fieldAddr 13 (t 1)),
         a 62 (.load none (t 61)),
         a 63 (.fieldAddr 9 (t 3)),
         a_ (.store 1 (t 63) (t 54)),
         a 64 (.fieldAddr 10 (t 3)),
         a_ (.store 1 (t 64) (t 56)),
         a 65 (.fieldAddr 11 (t 3)),
         a_ (.store 1 (t 65) (t 58)),
         a 66 (.fieldAddr 12 (t 3)),
         a_ (.store 1 (t 66) (t 60)),
         a 67 (.fieldAddr 13 (t 3)),
         a_ (.store 1 (t 67) (t 62))] (some [[], [0], [], [2], [], [4], [], [6], [], [8], [0, 1, 0], [10, 1, 0, 1, 0, 1, 0], [0, 1, 2, 3, 10, 11, 10, 1, 0, 1, 0, 1, 2, 0], [12, 3, 11, 0, 1, 2, 3, 10, 11, 0, 1, 2, 3, 10, 11, 10, 1, 0, 1, 0, 1, 2, 0], [0, 1, 2, 3, 4, 5, 10, 11, 12, 13, 12, 3, 11, 0, 1, 2, 3, 10, 11, 0, 1, 2, 3, 10, 11, 10, 1, 0, 1, 0, 1, 4, 2, 0], [14, 5, 13, 0, 1, 2, 3, 4, 5, 10, 11, 12, 13, 0, 1, 2, 3, 4, 5, 10, 11, 12, 13, 12, 3, 11, 0, 1, 2, 3, 10, 11, 0, 1, 2, 3, 10, 11, 10, 1, 0, 1, 0, 1, 4, 2, 0], [0, 1, 2, 3, 4, 5, 6, 7, 10, 11, 12, 13, 14, 15, 14, 5, 13, 0, 1, 2, 3, 4, 5, 10, 11, 12, 13, 0, 1, 2, 3, 4, 5, 10, 11, 12, 13, 12, 3, 11, 0, 1, 2, 3, 10, 11, 0, 1, 2, 3, 10, 11, 10, 1, 0, 1, 0, 1, 6, 4, 2, 0], [16, 7, 15, 0, 1, 2, 3, 4, 5, 6, 7, 10, 11, 12, 13, 14, 15, 0, 1, 2, 3, 4, 5, 6, 7, 10, 11, 12, 13, 14, 15, 14, 5, 13, 0, 1, 2, 3, 4, 5, 10, 11, 12, 13, 0, 1, 2, 3, 4, 5, 10, 11, 12, 13, 12, 3, 11, 0, 1, 2, 3, 10, 11, 0, 1, 2, 3, 10, 11, 10, 1, 0, 1, 0, 1, 6, 4, 2, 0], [0, 1, 2, 3, 4, 5, 6, 7, 8, 9, 10, 11, 12, 13, 14, 15, 16, 17, 16, 7, 15, 0, 1, 2, 3, 4, 5, 6, 7, 10, 11, 12, 13, 14, 15, 0, 1, 2, 3, 4, 5, 6, 7, 10, 11, 12, 13, 14, 15, 14, 5, 13, 0, 1, 2, 3, 4, 5, 10, 11, 12, 13, 0, 1, 2, 3, 4, 5, 10, 11, 12, 13, 12, 3, 11, 0, 1, 2, 3, 10, 11, 0, 1, 2, 3, 10, 11, 10, 1, 0, 1, 0, 1, 8, 6, 4, 2, 0], [18, 9, 17, 0, 1, 2, 3, 4, 5, 6, 7, 8, 9, 10, 11, 12, 13, 14, 15, 16, 17, 0, 1, 2, 3, 4, 5, 6, 7, 8, 9, 10, 11, 12, 13, 14, 15, 16, 17, 16, 7, 15, 0, 1, 2, 3, 4, 5, 6, 7, 10, 11, 12, 13, 14, 15, 0, 1, 2, 3, 4, 5, 6, 7, 10, 11, 12, 13, 14, 15, 14, 5, 13, 0, 1, 2, 3, 4, 5, 10, 11, 12, 13, 0, 1, 2, 3, 4, 5, 10, 11, 12, 13, 12, 3, 11, 0, 1, 2, 3, 10, 11, 0, 1, 2, 3, 10, 11, 10, 1, 0, 1, 0, 1, 8, 6, 4, 2, 0]]))
       .skip))))))))))))))
 (.seq (.region [a 68 (.load (some 14) (t 3)),
   a_ (.store 14 (t 2) (t 68))] none)
 .ret)))), [.cell 2 (some 14)]⟩
theorem t105 : FnAt Try.prog 105 a105 := .mk Try.func105 (by kernel_rfl) (by kernel_rfl)
/-- busbar/tell.counts -/
def a106 : AF := ⟨2, 12, (.seq (.region [a 4 (.mv (bo false))] none)
 (.seq (.region [a 5 (.mv (t 0)),
   a 6 (.bin .geq (t 5) (i 1)),
   a 7 (.mv (t 6)),
   g 8 7 true (.mv (t 0)),
   g 9 7 true (.mv (t 1)),
   g 10 7 true (.bin .leq (t 8) (t 9)),
   a 11 (.pick (t 7) (t 10) (bo false)),
   a 4 (.mv (t 11))] none)
 .ret)), [.tmp 4]⟩
theorem t106 : FnAt Try.prog 106 a106 := .mk Try.func106 (by kernel_rfl) (by kernel_rfl)
/-- busbar/tell.objects -/
def a107 : AF := ⟨1, 27, (.seq (.region [a 2 (.mv (bo false))] none)
 (.seq (.region [a 3 (.mv (i 7))] none)
 (.seq (.seq (.region [a 6 (.mv (t 0)),
   a 7 (.len false (t 6)),
   a 8 (.mv (i 0))] none)
 (.block 0 (.loop
  (.seq (.region [a 9 (.bin .lss (t 8) (t 7))] none)
  (.seq (.cond (t 9)
   .skip
   (.exit 0))
  (.seq (.block 1 (.seq (.region [a 10 (.idxAddr 2 (t 6) (t 8)),
    a 11 (.load (some 2) (t 10)),
    a 5 (.alloc [(.t (.int .i64 0)), (.t (.str ⟨#[]⟩))]),
    a_ (.store 2 (t 5) (t 11))] none)
  (.seq (.region [a 12 (.mv (t 3)),
    a 13 (.fieldAddr 1 (t 5)),
    a 14 (.load none (t 13)),
    a 15 (.len true (t 14)),
    a 16 (.bin .add (i 2) (t 15)),
    a 17 (.bin .add (t 12) (t 16)),
    a 3 (.mv (t 17))] none)
  (.seq (.region [a 18 (.fieldAddr 0 (t 5)),
    a 19 (.load none (t 18)),
    a 20 (.call 103 [(t 19)]),
    a 21 (.un .not (t 20)),
    a 22 (.mv (t 21)),
    g 23 22 false (.mv (t 3)),
    g 24 22 false (.bin .gtr (t 23) (i 253)),
    a 25 (.pick (t 22) (bo true) (t 24))] none)
  (.cond (t 25)
   (.seq (.region [a 2 (.mv (bo false))] none)
   .ret)
   .skip)))))
  (.region [a 26 (.bin .add (t 8) (i 1)),
    a 8 (.mv (t 26))] none)))))))
 (.seq (.region [a 2 (.mv (bo true))] none)
 .ret)))), [.tmp 2]⟩
theorem t107 : FnAt Try.prog 107 a107 := .mk Try.func107 (by kernel_rfl) (by kernel_rfl)
/-- busbar/busbarref5.bare -/
def a108 : AF := ⟨1, 131, (.seq (.region [a 1 (.box (t 0)),
   a 2 (.mv (bo false))] none)
 (.seq (.region [a 6 (.fieldAddr 0 (t 1)),
   a 7 (.load none (t 6)),
   a 3 (.mv (t 7))] none)
 (.seq (.seq (.region [a 8 (.fieldAddr 1 (t 1)),
   a 9 (.load none (t 8)),
   a 10 (.bin .neq (t 9) (i 0))] none)
 (.cond (t 10)
  (.region [a 3 (.mv (i 0))] none)
  .skip))
 (.seq (.region [a 11 (.mv (t 3)),
   a 12 (.bin .eql (t 11) (i 5)),
   a 13 (.mv (t 12)),
   g 14 13 false (.mv (t 3)),
   g 15 13 false (.bin .eql (t 14) (i 6)),
   a 16 (.pick (t 13) (bo true) (t 15)),
   a 17 (.mv (t 16)),
   g 18 17 false (.mv (t 3)),
   g 19 17 false (.bin .eql (t 18) (i 22)),
   a 20 (.pick (t 17) (bo true) (t 19)),
   a 4 (.mv (t 20))] none)
 (.seq (.region [a 21 (.mv (t 3)),
   a 22 (.bin .eql (t 21) (i 15)),
   a 23 (.mv (t 22)),
   g 24 23 false (.mv (t 3)),
   g 25 23 false (.bin .eql (t 24) (i 16)),
   a 26 (.pick (t 23) (bo true) (t 25)),
   a 5 (.mv (t 26))] none)
 (.seq (.block 0 (.seq (.region [a 28 (.mv (t 3)),
   a 29 (.bin .neq (t 28) (i 1)),
   a 30 (.mv (t 29)),
   g 31 30 true (.mv (t 3)),
   g 32 30 true (.bin .neq (t 31) (i 2)),
   a 33 (.pick (t 30) (t 32) (bo false)),
   a 34 (.mv (t 33)),
   g 35 34 true (.fieldAddr 2 (t 1)),
   g 36 34 true (.load none (t 35)),
   g 37 34 true (.len false (t 36)),
   g 38 34 true (.bin .gtr (t 37) (i 0)),
   a 39 (.pick (t 34) (t 38) (bo false)),
   a 27 (.mv (t 39))] none)
 (.cond (t 27)
  (.seq (.region [a 2 (.mv (bo false))] none)
  .ret)
  (.seq (.region [a 41 (.mv (t 3)),
    a 42 (.bin .neq (t 41) (i 3)),
    a 43 (.mv (t 42)),
    g 44 43 true (.mv (t 3)),
    g 45 43 true (.bin .neq (t 44) (i 4)),
    a 46 (.pick (t 43) (t 45) (bo false)),
    a 47 (.mv (t 46)),
    g 48 47 true (.mv (t 3)),
    g 49 47 true (.bin .neq (t 48) (i 23)),
    a 50 (.pick (t 47) (t 49) (bo false)),
    a 51 (.mv (t 50)),
    g 52 51 true (.fieldAddr 3 (t 1)),
    g 53 51 true (.load none (t 52)),
    g 54 51 true (.len false (t 53)),
    g 55 51 true (.bin .gtr (t 54) (i 0)),
    a 56 (.pick (t 51) (t 55) (bo false)),
    a 40 (.mv (t 56))] none)
  (.cond (t 40)
   (.seq (.region [a 2 (.mv (bo false))] none)
   .ret)
   (.seq (.region [a 58 (.mv (t 4)),
     a 59 (.un .not (t 58)),
     a 60 (.mv (t 59)),
     g 61 60 true (.mv (t 5)),
     g 62 60 true (.un .not (t 61)),
     a 63 (.pick (t 60) (t 62) (bo false)),
     a 64 (.mv (t 63)),
     g 65 64 true (.fieldAddr 4 (t 1)),
     g 66 64 true (.load none (t 65)),
     g 67 64 true (.bin .neq (t 66) (i 0)),
     a 68 (.pick (t 64) (t 67) (bo false)),
     a 69 (.mv (t 68)),
     g 70 69 false (.mv (t 5)),
     g 71 69 false (.un .not (t 70)),
     g 72 69 false (.mv (t 71)),
     g 73 72 true (.fieldAddr 5 (t 1)),
     g 74 72 true (.load none (t 73)),
     g 75 72 true (.bin .neq (t 74) (i 0)),
     g 76 69 false (.pick (t 72) (t 75) (bo false)),
     a 77 (.pick (t 69) (bo true) (t 76)),
     a 57 (.mv (t 77))] none)
   (.cond (t 57)
    (.seq (.region [a 2 (.mv (bo false))] none)
    .ret)
    (.seq (.region [a 79 (.mv (t 3)),
      a 80 (.bin .neq (t 79) (i 5)),
      a 81 (.mv (t 80)),
      g 82 81 true (.mv (t 3)),
      g 83 81 true (.bin .neq (t 82) (i 6)),
      a 84 (.pick (t 81) (t 83) (bo false)),
      a 85 (.mv (t 84)),
      g 86 85 true (.fieldAddr 6 (t 1)),
      g 87 85 true (.load none (t 86)),
      g 88 85 true (.bin .neq (t 87) (.k (.c (.t (.int .u16 0))))),
      a 89 (.pick (t 85) (t 88) (bo false)),
      a 78 (.mv (t 89))] none)
    (.cond (t 78)
     (.seq (.region [a 2 (.mv (bo false))] none)
     .ret)
     (.seq (.region [a 91 (.mv (t 3)),
       a 92 (.bin .neq (t 91) (i 22)),
       a 93 (.mv (t 92)),
       g 94 93 true (.fieldAddr 7 (t 1)),
       g 95 93 true (.load none (t 94)),
       g 96 93 true (.bin .neq (t 95) (.k (.c (.t (.int .u16 0))))),
       g 97 93 true (.mv (t 96)),
       g 98 97 false (.fieldAddr 8 (t 1)),
       g 99 97 false (.load none (t 98)),
       g 100 97 false (.bin .neq (t 99) (.k (.c (.t (.int .u16 0))))),
       g 101 93 true (.pick (t 97) (bo true) (t 100)),
       a 102 (.pick (t 93) (t 101) (bo false)),
       a 90 (.mv (t 102))] none)
     (.cond (t 90)
      (.seq (.region [a 2 (.mv (bo false))] none)
      .ret)
      (.seq (.region [a 104 (.mv (t 3)),
        a 105 (.bin .neq (t 104) (i 43)),
        a 106 (.mv (t 105)),
        g 107 106 true (.fieldAddr 9 (t 1)),
        g 108 106 true (.load none (t 107)),
        g 109 106 true (.bin .neq (t 108) (i 0)),
        g 110 106 true (.mv (t 109)),
        g 111 110 false (.fieldAddr 10 (t 1)),
        g 112 110 false (.load none (t 111)),
        g 113 110 false (.bin .neq (t 112) (i 0)),
        g 114 106 true (.pick (t 110) (bo true) (t 113)),
        g 115 106 true (.mv (t 114)),
        g 116 115 false (.fieldAddr 11 (t 1)),
        g 117 115 false (.load none (t 116)),
        g 118 106 true (.pick (t 115) (bo true) (t 117)),
        g 119 106 true (.mv (t 118)),
        g 120 119 false (.fieldAddr 12 (t 1)),
        g 121 119 false (.load none (t 120)),
        g 122 119 false (.bin .neq (t 121) (i 0)),
        g 123 106 true (.pick (t 119) (bo true) (t 122)),
        g 124 106 true (.mv (t 123)),
        g 125 124 false (.fieldAddr 13 (t 1)),
        g 126 124 false (.load none (t 125)),
        g 127 124 false (.len false (t 126)),
        g 128 124 false (.bin .gtr (t 127) (i 0)),
        g 129 106 true (.pick (t 124) (bo true) (t 128)),
        a 130 (.pick (t 106) (t 129) (bo false)),
        a 103 (.mv (t 130))] none)
      (.cond (t 103)
       (.seq (.region [a 2 (.mv (bo false))] none)
       .ret)
       .skip)))))))))))))
 (.seq (.region [a 2 (.mv (bo true))] none)
 .ret))))))), [.tmp 2]⟩
theorem t108 : FnAt Try.prog 108 a108 := .mk Try.func108 (by kernel_rfl) (by kernel_rfl)
/-- busbar/busbarref5.objects -/
def a111 : AF := ⟨1, 62, (.seq (.region [a 1 (.box (t 0)),
   a 2 (.mv (bo false))] none)
 (.seq (.seq (.region [a 5 (.fieldAddr 9 (t 1)),
   a 6 (.load none (t 5)),
   a 7 (.bin .lss (t 6) (i 1)),
   a 8 (.mv (t 7)),
   g 9 8 false (.fieldAddr 9 (t 1)),
   g 10 8 false (.load none (t 9)),
   g 11 8 false (.bin .gtr (t 10) (i 4)),
   a 12 (.pick (t 8) (bo true) (t 11)),
   a 13 (.mv (t 12)),
   g 14 13 false (.fieldAddr 10 (t 1)),
   g 15 13 false (.load none (t 14)),
   g 16 13 false (.call 74 [(t 15)]),
   g 17 13 false (.un .not (t 16)),
   a 18 (.pick (t 13) (bo true) (t 17)),
   a 19 (.mv (t 18)),
   g 20 19 false (.fieldAddr 12 (t 1)),
   g 21 19 false (.load none (t 20)),
   g 22 19 false (.call 74 [(t 21)]),
   g 23 19 false (.un .not (t 22)),
   a 24 (.pick (t 19) (bo true) (t 23))] none)
 (.cond (t 24)
  (.seq (.region [a 2 (.mv (bo false))] none)
  .ret)
  .skip))
 (.seq (.region [a 3 (.mv (i 7))] none)
 (.seq (.seq (.region [a 4 (.mv (i 0))] none)
 (.block 0 (.loop
  (.seq (.seq (.region [a 25 (.mv (t 4)),
    a 26 (.fieldAddr 13 (t 1)),
    a 27 (.load none (t 26)),
    a 28 (.len false (t 27)),
    a 29 (.bin .lss (t 25) (t 28))] none)
  (.cond (t 29)
   .skip
   (.exit 0)))
  (.seq (.block 1 (.seq (.seq (.region [a 32 (.fieldAddr 13 (t 1)),
    a 33 (.load none (t 32)),
    a 34 (.mv (t 4)),
    a 35 (.idxAddr 2 (t 33) (t 34)),
    a 36 (.fieldAddr 0 (t 35)),
    a 37 (.load none (t 36)),
    a 38 (.call 74 [(t 37)]),
    a 39 (.un .not (t 38)),
    a 40 (.mv (t 39)),
    g 41 40 false (.fieldAddr 13 (t 1)),
    g 42 40 false (.load none (t 41)),
    g 43 40 false (.mv (t 4)),
    g 44 40 false (.idxAddr 2 (t 42) (t 43)),
    g 45 40 false (.fieldAddr 1 (t 44)),
    g 46 40 false (.load none (t 45)),
    g 47 40 false (.len true (t 46)),
    g 48 40 false (.bin .gtr (t 47) (i 253)),
    a 49 (.pick (t 40) (bo true) (t 48))] none)
  (.cond (t 49)
   (.seq (.region [a 2 (.mv (bo false))] none)
   .ret)
   .skip))
  (.seq (.region [a 50 (.mv (t 3)),
    a 51 (.bin .add (t 50) (i 2)),
    a 52 (.fieldAddr 13 (t 1)),
    a 53 (.load none (t 52)),
    a 54 (.mv (t 4)),
    a 55 (.idxAddr 2 (t 53) (t 54)),
    a 56 (.fieldAddr 1 (t 55)),
    a 57 (.load none (t 56)),
    a 58 (.len true (t 57)),
    a 59 (.bin .add (t 51) (t 58)),
    a 3 (.mv (t 59))] none)
  (.seq (.region [a 60 (.mv (t 3)),
    a 61 (.bin .gtr (t 60) (i 253))] none)
  (.cond (t 61)
   (.seq (.region [a 2 (.mv (bo false))] none)
   .ret)
   .skip)))))
  (.region [a 30 (.mv (t 4)),
    a 31 (.bin .add (t 30) (i 1)),
    a 4 (.mv (t 31))] none))))))
 (.seq (.region [a 2 (.mv (bo true))] none)
 .ret))))), [.tmp 2]⟩
theorem t111 : FnAt Try.prog 111 a111 := .mk Try.func111 (by kernel_rfl) (by kernel_rfl)
/-- (*busbar/tell.cursor).fields -/
def a112 : AF := ⟨3, 72, (.seq (.region [a 6 (.alloc [(.t (.int .i64 0)), (.t (.int .i64 0)), (.t .nil), (.t .nil), (.t (.int .i64 0)), (.t (.int .i64 0)), (.t (.int .u16 0)), (.t (.int .u16 0)), (.t (.int .u16 0)), (.t (.int .i64 0)), (.t (.int .i64 0)), (.t (.bool false)), (.t (.int .i64 0)), (.t .nil)])] none)
 (.seq (.region [a 8 (.mv (t 1)),
   a 9 (.build [(.t (.int .i64 0)), (.t (.int .i64 0)), (.t .nil), (.t .nil), (.t (.int .i64 0)), (.t (.int .i64 0)), (.t (.int .u16 0)), (.t (.int .u16 0)), (.t (.int .u16 0)), (.t (.int .i64 0)), (.t (.int .i64 0)), (.t (.bool false)), (.t (.int .i64 0)), (.t .nil)] [(0, 1, (t 8))]),
   a 7 (.alloc [(.t (.int .i64 0)), (.t (.int .i64 0)), (.t .nil), (.t .nil), (.t (.int .i64 0)), (.t (.int .i64 0)), (.t (.int .u16 0)), (.t (.int .u16 0)), (.t (.int .u16 0)), (.t (.int .i64 0)), (.t (.int .i64 0)), (.t (.bool false)), (.t (.int .i64 0)), (.t .nil)]),
   a_ (.store 14 (t 7) (t 9))] none)
 (.seq (.seq (.region [a 10 (.mv (t 1))] none)
 (.block 0 (.seq (.seq (.region [a 12 (.bin .eql (t 10) (i 1)),
   a 11 (.mv (t 12))] none)
 (.cond (t 11)
  .skip
  (.region [a 13 (.bin .eql (t 10) (i 2)),
    a 11 (.mv (t 13))] none)))
 (.cond (t 11)
  (.region [a 14 (.mv (t 0)),
    a 15 (.mv (t 2)),
    a 16 (.call 137 [(t 14), (t 15)]),
    a 17 (.fieldAddr 2 (t 7)),
    a_ (.store 1 (t 17) (t 16))] none)
  (.seq (.seq (.region [a 19 (.bin .eql (t 10) (i 3)),
    a 18 (.mv (t 19))] none)
  (.cond (t 18)
   .skip
   (.seq (.region [a 20 (.bin .eql (t 10) (i 4)),
     a 18 (.mv (t 20))] none)
   (.cond (t 18)
    .skip
    (.region [a 21 (.bin .eql (t 10) (i 23)),
      a 18 (.mv (t 21))] none)))))
  (.cond (t 18)
   (.region [a 22 (.mv (t 0)),
     a 23 (.call 138 [(t 22)]),
     a 24 (.fieldAddr 3 (t 7)),
     a_ (.store 1 (t 24) (t 23))] none)
   (.seq (.region [a 26 (.bin .eql (t 10) (i 5)),
     a 25 (.mv (t 26))] none)
   (.cond (t 25)
    (.seq (.region [a 27 (.mv (t 0)),
      a 28 (.call 139 [(t 27)]),
      a 29 (.conv .i64 (t 28)),
      a 30 (.fieldAddr 4 (t 7)),
      a_ (.store 1 (t 30) (t 29))] none)
    (.region [a 31 (.mv (t 0)),
      a 32 (.call 140 [(t 31)]),
      a 33 (.fieldAddr 6 (t 7)),
      a_ (.store 1 (t 33) (t 32))] none))
    (.seq (.region [a 35 (.bin .eql (t 10) (i 6)),
      a 34 (.mv (t 35))] none)
    (.cond (t 34)
     (.seq (.region [a 36 (.mv (t 0)),
       a 37 (.call 139 [(t 36)]),
       a 38 (.conv .i64 (t 37)),
       a 39 (.fieldAddr 4 (t 7)),
       a_ (.store 1 (t 39) (t 38))] none)
     (.region [a 40 (.mv (t 0)),
       a 41 (.call 139 [(t 40)]),
       a 42 (.fieldAddr 6 (t 7)),
       a_ (.store 1 (t 42) (t 41))] none))
     (.seq (.seq (.region [a 44 (.bin .eql (t 10) (i 15)),
       a 43 (.mv (t 44))] none)
     (.cond (t 43)
      .skip
      (.region [a 45 (.bin .eql (t 10) (i 16)),
        a 43 (.mv (t 45))] none)))
     (.cond (t 43)
      (.seq (.region [a 46 (.mv (t 0)),
        a 47 (.call 139 [(t 46)]),
        a 48 (.conv .i64 (t 47)),
        a 49 (.fieldAddr 4 (t 7)),
        a_ (.store 1 (t 49) (t 48))] none)
      (.region [a 50 (.mv (t 0)),
        a 51 (.call 139 [(t 50)]),
        a 52 (.conv .i64 (t 51)),
        a 53 (.fieldAddr 5 (t 7)),
        a_ (.store 1 (t 53) (t 52))] none))
      (.seq (.region [a 55 (.bin .eql (t 10) (i 22)),
        a 54 (.mv (t 55))] none)
      (.cond (t 54)
       (.seq (.region [a 56 (.mv (t 0)),
         a 57 (.call 139 [(t 56)]),
         a 58 (.conv .i64 (t 57)),
         a 59 (.fieldAddr 4 (t 7)),
         a_ (.store 1 (t 59) (t 58))] none)
       (.seq (.region [a 60 (.mv (t 0)),
         a 61 (.call 139 [(t 60)]),
         a 62 (.fieldAddr 7 (t 7)),
         a_ (.store 1 (t 62) (t 61))] none)
       (.region [a 63 (.mv (t 0)),
         a 64 (.call 139 [(t 63)]),
         a 65 (.fieldAddr 8 (t 7)),
         a_ (.store 1 (t 65) (t 64))] none)))
       (.seq (.region [a 67 (.bin .eql (t 10) (i 43)),
         a 66 (.mv (t 67))] none)
       (.cond (t 66)
        (.region [a 68 (.mv (t 0)),
          a 69 (.load (some 14) (t 7)),
          a 70 (.call 141 [(t 68), (t 69)]),
          a_ (.store 14 (t 7) (t 70))] none)
        .skip))))))))))))))))
 (.seq (.region [a 71 (.load (some 14) (t 7)),
   a_ (.store 14 (t 6) (t 71))] none)
 .ret)))), [.cell 6 (some 14)]⟩
theorem t112 : FnAt Try.prog 112 a112 := .mk Try.func112 (by kernel_rfl) (by kernel_rfl)
/-- busbar/busbarref5.heard -/
def a113 : AF := ⟨2, 150, (.seq (.region [a 4 (.alloc [(.t (.int .i64 0)), (.t (.int .i64 0)), (.t .nil), (.t .nil), (.t (.int .i64 0)), (.t (.int .i64 0)), (.t (.int .u16 0)), (.t (.int .u16 0)), (.t (.int .u16 0)), (.t (.int .i64 0)), (.t (.int .i64 0)), (.t (.bool false)), (.t (.int .i64 0)), (.t .nil)]),
   a 5 (.mv (bo false))] none)
 (.seq (.region [a 13 (.mv (t 0)),
   a 14 (.idxAddr 1 (t 13) (i 0)),
   a 15 (.load none (t 14)),
   a 16 (.conv .i64 (t 15)),
   a 17 (.build [(.t (.int .i64 0)), (.t (.int .i64 0)), (.t .nil), (.t .nil), (.t (.int .i64 0)), (.t (.int .i64 0)), (.t (.int .u16 0)), (.t (.int .u16 0)), (.t (.int .u16 0)), (.t (.int .i64 0)), (.t (.int .i64 0)), (.t (.bool false)), (.t (.int .i64 0)), (.t .nil)] [(0, 1, (t 16))]),
   a 6 (.alloc [(.t (.int .i64 0)), (.t (.int .i64 0)), (.t .nil), (.t .nil), (.t (.int .i64 0)), (.t (.int .i64 0)), (.t (.int .u16 0)), (.t (.int .u16 0)), (.t (.int .u16 0)), (.t (.int .i64 0)), (.t (.int .i64 0)), (.t (.bool false)), (.t (.int .i64 0)), (.t .nil)]),
   a_ (.store 14 (t 6) (t 17))] none)
 (.seq (.region [a 18 (.mv (t 0)),
   a 19 (.len false (t 18)),
   a 20 (.bin .eql (t 19) (i 5)),
   a 7 (.mv (t 20))] none)
 (.seq (.seq (.region [a 21 (.fieldAddr 0 (t 6)),
   a 22 (.load none (t 21))] none)
 (.block 0 (.seq (.seq (.region [a 24 (.bin .eql (t 22) (i 1)),
   a 23 (.mv (t 24))] none)
 (.cond (t 23)
  .skip
  (.region [a 25 (.bin .eql (t 22) (i 2)),
    a 23 (.mv (t 25))] none)))
 (.cond (t 23)
  (.seq (.seq (.region [a 26 (.mv (t 0)),
    a 27 (.len false (t 26)),
    a 28 (.bin .lss (t 27) (i 2)),
    a 29 (.mv (t 28)),
    g 30 29 false (.mv (t 0)),
    g 31 29 false (.idxAddr 1 (t 30) (i 1)),
    g 32 29 false (.load none (t 31)),
    g 33 29 false (.conv .i64 (t 32)),
    g 34 29 false (.mv (t 0)),
    g 35 29 false (.len false (t 34)),
    g 36 29 false (.bin .sub (t 35) (i 2)),
    g 37 29 false (.bin .neq (t 33) (t 36)),
    a 38 (.pick (t 29) (bo true) (t 37)),
    a 39 (.mv (t 38)),
    g 40 39 false (.mv (t 1)),
    g 41 39 false (.bin .lss (t 40) (i 1)),
    a 42 (.pick (t 39) (bo true) (t 41)),
    a 43 (.mv (t 42)),
    g 44 43 false (.mv (t 1)),
    g 45 43 false (.bin .gtr (t 44) (i 2000)),
    a 46 (.pick (t 43) (bo true) (t 45))] none)
  (.cond (t 46)
   (.seq (.region [a 47 (.load (some 14) (t 6)),
     a_ (.store 14 (t 4) (t 47)),
     a 5 (.mv (bo false))] none)
   .ret)
   .skip))
  (.seq (.region [a 49 (.mv (t 0)),
    a 50 (.slice 1 (t 49) (some (i 2)) none),
    a 51 (.mv (t 1)),
    a 52 (.call 132 [(t 50), (t 51)]),
    a 48 (.mv (t 52)),
    a 53 (.extract (t 48) 0),
    a 54 (.extract (t 48) 1),
    a 8 (.mv (t 53)),
    a 9 (.mv (t 54))] none)
  (.seq (.region [a 55 (.mv (t 8)),
    a 56 (.fieldAddr 2 (t 6)),
    a_ (.store 1 (t 56) (t 55))] none)
  (.region [a 57 (.mv (t 9)),
    a 7 (.mv (t 57))] none))))
  (.seq (.seq (.region [a 59 (.bin .eql (t 22) (i 3)),
    a 58 (.mv (t 59))] none)
  (.cond (t 58)
   .skip
   (.seq (.region [a 60 (.bin .eql (t 22) (i 4)),
     a 58 (.mv (t 60))] none)
   (.cond (t 58)
    .skip
    (.region [a 61 (.bin .eql (t 22) (i 23)),
      a 58 (.mv (t 61))] none)))))
  (.cond (t 58)
   (.seq (.seq (.region [a 62 (.mv (t 0)),
     a 63 (.len false (t 62)),
     a 64 (.bin .lss (t 63) (i 2)),
     a 65 (.mv (t 64)),
     g 66 65 false (.mv (t 0)),
     g 67 65 false (.idxAddr 1 (t 66) (i 1)),
     g 68 65 false (.load none (t 67)),
     g 69 65 false (.conv .i64 (t 68)),
     g 70 65 false (.mv (t 0)),
     g 71 65 false (.len false (t 70)),
     g 72 65 false (.bin .sub (t 71) (i 2)),
     g 73 65 false (.bin .neq (t 69) (t 72)),
     a 74 (.pick (t 65) (bo true) (t 73))] none)
   (.cond (t 74)
    (.seq (.region [a 75 (.load (some 14) (t 6)),
      a_ (.store 14 (t 4) (t 75)),
      a 5 (.mv (bo false))] none)
    .ret)
    .skip))
   (.seq (.region [a 77 (.mv (t 0)),
     a 78 (.mv (t 0)),
     a 79 (.idxAddr 1 (t 78) (i 1)),
     a 80 (.load none (t 79)),
     a 81 (.conv .i64 (t 80)),
     a 82 (.bin .quo (t 81) (i 2)),
     a 83 (.call 133 [(t 77), (i 2), (t 82)]),
     a 76 (.mv (t 83)),
     a 84 (.extract (t 76) 0),
     a 85 (.extract (t 76) 1),
     a 10 (.mv (t 84)),
     a 11 (.mv (t 85))] none)
   (.seq (.region [a 86 (.mv (t 10)),
     a 87 (.fieldAddr 3 (t 6)),
     a_ (.store 1 (t 87) (t 86))] none)
   (.region [a 88 (.mv (t 11)),
     a 7 (.mv (t 88))] none))))
   (.seq (.region [a 90 (.bin .eql (t 22) (i 5)),
     a 89 (.mv (t 90))] none)
   (.cond (t 89)
    (.seq (.region [a 91 (.mv (t 0)),
      a 92 (.call 131 [(t 91), (i 1)]),
      a 93 (.fieldAddr 4 (t 6)),
      a_ (.store 1 (t 93) (t 92))] none)
    (.seq (.region [a 94 (.mv (t 0)),
      a 95 (.call 131 [(t 94), (i 3)]),
      a 12 (.mv (t 95))] none)
    (.seq (.region [a 96 (.mv (t 7)),
      a 97 (.mv (t 96)),
      g 98 97 true (.mv (t 12)),
      g 99 97 true (.bin .eql (t 98) (i 0)),
      g 100 97 true (.mv (t 99)),
      g 101 100 false (.mv (t 12)),
      g 102 100 false (.bin .eql (t 101) (i 65280)),
      g 103 97 true (.pick (t 100) (bo true) (t 102)),
      a 104 (.pick (t 97) (t 103) (bo false)),
      a 7 (.mv (t 104))] none)
    (.seq (.region [a 105 (.mv (t 12)),
      a 106 (.bin .eql (t 105) (i 65280))] none)
    (.cond (t 106)
     (.region [a 107 (.fieldAddr 6 (t 6)),
       a_ (.store 1 (t 107) (.k (.c (.t (.int .u16 1)))))] none)
     .skip)))))
    (.seq (.region [a 109 (.bin .eql (t 22) (i 6)),
      a 108 (.mv (t 109))] none)
    (.cond (t 108)
     (.region [a 110 (.mv (t 0)),
       a 111 (.call 131 [(t 110), (i 1)]),
       a 112 (.mv (t 0)),
       a 113 (.call 131 [(t 112), (i 3)]),
       a 114 (.conv .u16 (t 113)),
       a 115 (.fieldAddr 4 (t 6)),
       a_ (.store 1 (t 115) (t 111)),
       a 116 (.fieldAddr 6 (t 6)),
       a_ (.store 1 (t 116) (t 114))] none)
     (.seq (.seq (.region [a 118 (.bin .eql (t 22) (i 15)),
       a 117 (.mv (t 118))] none)
     (.cond (t 117)
      .skip
      (.region [a 119 (.bin .eql (t 22) (i 16)),
        a 117 (.mv (t 119))] none)))
     (.cond (t 117)
      (.region [a 120 (.mv (t 0)),
        a 121 (.call 131 [(t 120), (i 1)]),
        a 122 (.mv (t 0)),
        a 123 (.call 131 [(t 122), (i 3)]),
        a 124 (.fieldAddr 4 (t 6)),
        a_ (.store 1 (t 124) (t 121)),
        a 125 (.fieldAddr 5 (t 6)),
        a_ (.store 1 (t 125) (t 123))] none)
      (.seq (.region [a 127 (.bin .eql (t 22) (i 22)),
        a 126 (.mv (t 127))] none)
      (.cond (t 126)
       (.seq (.region [a 128 (.mv (t 0)),
         a 129 (.len false (t 128)),
         a 130 (.bin .eql (t 129) (i 7)),
         a 7 (.mv (t 130))] none)
       (.region [a 131 (.mv (t 0)),
         a 132 (.call 131 [(t 131), (i 1)]),
         a 133 (.mv (t 0)),
         a 134 (.call 131 [(t 133), (i 3)]),
         a 135 (.conv .u16 (t 134)),
         a 136 (.mv (t 0)),
         a 137 (.call 131 [(t 136), (i 5)]),
         a 138 (.conv .u16 (t 137)),
         a 139 (.fieldAddr 4 (t 6)),
         a_ (.store 1 (t 139) (t 132)),
         a 140 (.fieldAddr 7 (t 6)),
         a_ (.store 1 (t 140) (t 135)),
         a 141 (.fieldAddr 8 (t 6)),
         a_ (.store 1 (t 141) (t 138))] none))
       (.seq (.region [a 143 (.bin .eql (t 22) (i 43)),
         a 142 (.mv (t 143))] none)
       (.cond (t 142)
        (.seq (.region [a 144 (.mv (t 0)),
          a 145 (.call 142 [(t 144)]),
          a 146 (.extract (t 145) 0),
          a 147 (.extract (t 145) 1),
          a_ (.store 14 (t 4) (t 146)),
          a 5 (.mv (t 147))] none)
        .ret)
        .skip))))))))))))))))
 (.seq (.region [a 148 (.load (some 14) (t 6)),
   a 149 (.mv (t 7)),
   a_ (.store 14 (t 4) (t 148)),
   a 5 (.mv (t 149))] none)
 .ret))))), [.cell 4 (some 14), .tmp 5]⟩
theorem t113 : FnAt Try.prog 113 a113 := .mk Try.func113 (by kernel_rfl) (by kernel_rfl)
/-- busbar/busbarref16.Put -/
def a114 : AF := ⟨2, 31, (.seq (.region [a 3 (.box (t 1)),
   a 4 (.mv (.k (.c (.t .nil))))] none)
 (.seq (.region [a 9 (.mv (t 0)),
   a 10 (.fieldAddr 0 (t 3)),
   a 11 (.load (some 2) (t 10)),
   a 12 (.call 143 [(t 9), (t 11)]),
   a 8 (.mv (t 12)),
   a 13 (.extract (t 8) 0),
   a 14 (.extract (t 8) 1),
   a 5 (.mv (t 13)),
   a 6 (.mv (t 14))] none)
 (.seq (.region [a 15 (.mv (t 0)),
   a 16 (.mv (t 5)),
   a 17 (.slice 3 (t 15) none (some (t 16))),
   a 18 (.append 3 24 [(.int .i64 0), (.int .i64 0), (.int .u16 0)] (.k (.c (.t .nil))) (t 17)),
   a 7 (.mv (t 18))] none)
 (.seq (.region [a 19 (.mv (t 7)),
   a 20 (.load (some 3) (t 3)),
   a 21 (.mkList false 3 1 [(.int .i64 0), (.int .i64 0), (.int .u16 0)] [(0, (t 20))]),
   a 22 (.append 3 24 [(.int .i64 0), (.int .i64 0), (.int .u16 0)] (t 19) (t 21)),
   a 7 (.mv (t 22))] none)
 (.seq (.seq (.region [a 23 (.mv (t 6))] none)
 (.cond (t 23)
  (.region [a 24 (.mv (t 5)),
    a 25 (.bin .add (t 24) (i 1)),
    a 5 (.mv (t 25))] none)
  .skip))
 (.seq (.region [a 26 (.mv (t 7)),
   a 27 (.mv (t 0)),
   a 28 (.mv (t 5)),
   a 29 (.slice 3 (t 27) (some (t 28)) none),
   a 30 (.append 3 24 [(.int .i64 0), (.int .i64 0), (.int .u16 0)] (t 26) (t 29)),
   a 4 (.mv (t 30))] none)
 .ret)))))), [.tmp 4]⟩
theorem t114 : FnAt Try.prog 114 a114 := .mk Try.func114 (by kernel_rfl) (by kernel_rfl)
/-- busbar/busbarlaw0.Cell -/
def a115 : AF := ⟨1, 19, (.seq (.region [a 2 (.alloc [(.t (.int .i64 0)), (.t (.int .i64 0)), (.t (.int .u16 0))])] none)
 (.seq (.region [a 4 (.mv (t 0)),
   a 5 (.call 144 [(t 4)]),
   a 6 (.mv (t 0)),
   a 7 (.call 49 [(t 6), (i 1024), (i 65536)]),
   a 8 (.conv .u16 (t 7)),
   a 9 (.build [(.t (.int .i64 0)), (.t (.int .i64 0)), (.t (.int .u16 0))] [(0, 2, (t 5)), (2, 1, (t 8))]),
   a 3 (.alloc [(.t (.int .i64 0)), (.t (.int .i64 0)), (.t (.int .u16 0))]),
   a_ (.store 3 (t 3) (t 9))] none)
 (.seq (.seq (.region [a 10 (.fieldAddr 0 (t 3)),
   a 11 (.fieldAddr 0 (t 10)),
   a 12 (.load none (t 11)),
   a 13 (.bin .lss (t 12) (i 2))] none)
 (.cond (t 13)
  (.region [a 14 (.fieldAddr 2 (t 3)),
    a 15 (.load none (t 14)),
    a 16 (.bin .rem (t 15) (.k (.c (.t (.int .u16 2))))),
    a 17 (.fieldAddr 2 (t 3)),
    a_ (.store 1 (t 17) (t 16))] none)
  .skip))
 (.seq (.region [a 18 (.load (some 3) (t 3)),
   a_ (.store 3 (t 2) (t 18))] none)
 .ret)))), [.cell 2 (some 3)]⟩
theorem t115 : FnAt Try.prog 115 a115 := .mk Try.func115 (by kernel_rfl) (by kernel_rfl)
/-- busbar/busbarref12.Right -/
def a116 : AF := ⟨1, 28, (.seq (.region [a 1 (.box (t 0)),
   a 2 (.mv (bo false))] none)
 (.seq (.region [a 3 (.fieldAddr 0 (t 1)),
   a 4 (.load none (t 3)),
   a 5 (.bin .geq (t 4) (i 0)),
   a 6 (.mv (t 5)),
   g 7 6 true (.fieldAddr 0 (t 1)),
   g 8 6 true (.load none (t 7)),
   g 9 6 true (.bin .leq (t 8) (i 3)),
   a 10 (.pick (t 6) (t 9) (bo false)),
   a 11 (.mv (t 10)),
   g 12 11 true (.fieldAddr 1 (t 1)),
   g 13 11 true (.load none (t 12)),
   g 14 11 true (.bin .geq (t 13) (i 0)),
   a 15 (.pick (t 11) (t 14) (bo false)),
   a 16 (.mv (t 15)),
   g 17 16 true (.fieldAddr 2 (t 1)),
   g 18 16 true (.load none (t 17)),
   g 19 16 true (.bin .leq (t 18) (i 65536)),
   a 20 (.pick (t 16) (t 19) (bo false)),
   a 21 (.mv (t 20)),
   g 22 21 true (.fieldAddr 1 (t 1)),
   g 23 21 true (.load none (t 22)),
   g 24 21 true (.fieldAddr 2 (t 1)),
   g 25 21 true (.load none (t 24)),
   g 26 21 true (.bin .lss (t 23) (t 25)),
   a 27 (.pick (t 21) (t 26) (bo false)),
   a 2 (.mv (t 27))] none)
 .ret)), [.tmp 2]⟩
theorem t116 : FnAt Try.prog 116 a116 := .mk Try.func116 (by kernel_rfl) (by kernel_rfl)
/-- busbar/busbarref21.Cells -/
def a117 : AF := ⟨2, 78, (.seq (.region [a 2 (.box (t 0)),
   a 4 (.mv (.k (.c (.t .nil))))] none)
 (.seq (.seq (.region [a 11 (.load (some 12) (t 2)),
   a 12 (.call 97 [(t 11)]),
   a 13 (.un .not (t 12))] none)
 (.cond (t 13)
  (.seq (.region [a 4 (.mv (.k (.c (.t .nil))))] none)
  .ret)
  .skip))
 (.seq (.region [a 15 (.fieldAddr 0 (t 2)),
   a 16 (.load none (t 15)),
   a 17 (.call 40 [(t 16)]),
   a 14 (.mv (t 17)),
   a 18 (.extract (t 14) 0),
   a 19 (.extract (t 14) 1),
   a 5 (.mv (t 18)),
   a 6 (.mv (t 19))] none)
 (.seq (.region [a 20 (.mv (t 5)),
   a 21 (.fieldAddr 1 (t 2)),
   a 22 (.load none (t 21)),
   a 23 (.build [(.t (.int .i64 0)), (.t (.int .i64 0))] [(0, 1, (t 20)), (1, 1, (t 22))]),
   a 7 (.alloc [(.t (.int .i64 0)), (.t (.int .i64 0))]),
   a_ (.store 2 (t 7) (t 23))] none)
 (.seq (.seq (.region [a 24 (.fieldAddr 0 (t 2)),
   a 25 (.load none (t 24))] none)
 (.block 0 (.seq (.seq (.region [a 27 (.bin .eql (t 25) (i 5)),
   a 26 (.mv (t 27))] none)
 (.cond (t 26)
  .skip
  (.region [a 28 (.bin .eql (t 25) (i 6)),
    a 26 (.mv (t 28))] none)))
 (.cond (t 26)
  (.seq (.region [a 29 (.load (some 2) (t 7)),
    a 30 (.fieldAddr 3 (t 2)),
    a 31 (.load none (t 30)),
    a 32 (.mkList false 1 1 [(.int .u16 0)] [(0, (t 31))]),
    a 33 (.call 145 [(t 29), (t 32)]),
    a 4 (.mv (t 33))] none)
  .ret)
  (.seq (.region [a 35 (.bin .eql (t 25) (i 15)),
    a 34 (.mv (t 35))] none)
  (.cond (t 34)
   (.seq (.region [a 8 (.mv (.k (.c (.t .nil))))] none)
   (.seq (.seq (.region [a 9 (.mv (i 0))] none)
   (.block 1 (.loop
    (.seq (.seq (.region [a 36 (.mv (t 9)),
      a 37 (.fieldAddr 6 (t 2)),
      a 38 (.load none (t 37)),
      a 39 (.len false (t 38)),
      a 40 (.bin .lss (t 36) (t 39))] none)
    (.cond (t 40)
     .skip
     (.exit 1)))
    (.seq (.block 2 (.seq (.region [a 10 (.mv (.k (.c (.t (.int .u16 0)))))] none)
    (.seq (.seq (.region [a 43 (.fieldAddr 6 (t 2)),
      a 44 (.load none (t 43)),
      a 45 (.mv (t 9)),
      a 46 (.idxAddr 1 (t 44) (t 45)),
      a 47 (.load none (t 46))] none)
    (.cond (t 47)
     (.region [a 10 (.mv (.k (.c (.t (.int .u16 1)))))] none)
     .skip))
    (.region [a 48 (.mv (t 8)),
      a 49 (.mv (t 10)),
      a 50 (.mkList false 1 1 [(.int .u16 0)] [(0, (t 49))]),
      a 51 (.append 1 2 [(.int .u16 0)] (t 48) (t 50)),
      a 8 (.mv (t 51))] none))))
    (.region [a 41 (.mv (t 9)),
      a 42 (.bin .add (t 41) (i 1)),
      a 9 (.mv (t 42))] none))))))
   (.seq (.region [a 52 (.load (some 2) (t 7)),
     a 53 (.mv (t 8)),
     a 54 (.call 145 [(t 52), (t 53)]),
     a 4 (.mv (t 54))] none)
   .ret)))
   (.seq (.seq (.region [a 56 (.bin .eql (t 25) (i 16)),
     a 55 (.mv (t 56))] none)
   (.cond (t 55)
    .skip
    (.region [a 57 (.bin .eql (t 25) (i 23)),
      a 55 (.mv (t 57))] none)))
   (.cond (t 55)
    (.seq (.region [a 58 (.load (some 2) (t 7)),
      a 59 (.fieldAddr 7 (t 2)),
      a 60 (.load none (t 59)),
      a 61 (.call 145 [(t 58), (t 60)]),
      a 4 (.mv (t 61))] none)
    .ret)
    (.seq (.region [a 63 (.bin .eql (t 25) (i 22)),
      a 62 (.mv (t 63))] none)
    (.cond (t 62)
     (.seq (.region [a 64 (.load (some 2) (t 7)),
       a 65 (.mv (t 1)),
       a 66 (.fieldAddr 4 (t 2)),
       a 67 (.load none (t 66)),
       a 68 (.bin .and (t 65) (t 67)),
       a 69 (.fieldAddr 5 (t 2)),
       a 70 (.load none (t 69)),
       a 71 (.fieldAddr 4 (t 2)),
       a 72 (.load none (t 71)),
       a 73 (.bin .sub (.k (.c (.t (.int .u16 65535)))) (t 72)),
       a 74 (.bin .and (t 70) (t 73)),
       a 75 (.bin .or (t 68) (t 74)),
       a 76 (.mkList false 1 1 [(.int .u16 0)] [(0, (t 75))]),
       a 77 (.call 145 [(t 64), (t 76)]),
       a 4 (.mv (t 77))] none)
     .ret)
     .skip))))))))))
 (.seq (.region [a 4 (.mv (.k (.c (.t .nil))))] none)
 .ret)))))), [.tmp 4]⟩
theorem t117 : FnAt Try.prog 117 a117 := .mk Try.func117 (by kernel_rfl) (by kernel_rfl)
/-- (*busbar/busbarref25.File).Get -/
def a118 : AF := ⟨2, 17, (.seq (.region [a 3 (.box (t 1)),
   a 4 (.mv (.k (.c (.t (.int .u16 0)))))] none)
 (.seq (.region [a 8 (.mv (t 0)),
   a 9 (.nilCheck (t 8)),
   a 10 (.fieldAddr 0 (t 9)),
   a 11 (.load none (t 10)),
   a 12 (.load (some 2) (t 3)),
   a 13 (.call 146 [(t 11), (t 12)]),
   a 7 (.mv (t 13)),
   a 14 (.extract (t 7) 0),
   a 15 (.extract (t 7) 1),
   a 5 (.mv (t 14)),
   a 6 (.mv (t 15))] (some [[], [0], [1, 0], [2, 1, 0], [], [3, 4, 2, 1, 0], [5, 3, 4, 2, 1, 0], [6, 5, 3, 4, 2, 1, 0], [6, 5, 3, 4, 2, 1, 0], [7, 5, 0, 1, 2, 3, 4, 5, 6, 7, 6, 5, 3, 4, 2, 1, 0], [8, 9, 0, 1, 2, 3, 4, 5, 6, 7, 8, 9, 7, 5, 0, 1, 2, 3, 4, 5, 6, 7, 6, 6, 5, 3, 4, 2, 1, 0]]))
 (.seq (.region [a 16 (.mv (t 5)),
   a 4 (.mv (t 16))] none)
 .ret))), [.tmp 4]⟩
theorem t118 : FnAt Try.prog 118 a118 := .mk Try.func118 (by kernel_rfl) (by kernel_rfl)
/-- busbar/busbarref25.Shown -/
def a119 : AF := ⟨2, 39, (.seq (.region [a 2 (.box (t 0)),
   a 4 (.alloc [(.t (.int .i64 0)), (.t (.int .i64 0)), (.t .nil), (.t .nil), (.t (.int .i64 0)), (.t (.int .i64 0)), (.t (.int .u16 0)), (.t (.int .u16 0)), (.t (.int .u16 0)), (.t (.int .i64 0)), (.t (.int .i64 0)), (.t (.bool false)), (.t (.int .i64 0)), (.t .nil)])] none)
 (.seq (.region [a 7 (.fieldAddr 0 (t 2)),
   a 8 (.load none (t 7)),
   a 9 (.build [(.t (.int .i64 0)), (.t (.int .i64 0)), (.t .nil), (.t .nil), (.t (.int .i64 0)), (.t (.int .i64 0)), (.t (.int .u16 0)), (.t (.int .u16 0)), (.t (.int .u16 0)), (.t (.int .i64 0)), (.t (.int .i64 0)), (.t (.bool false)), (.t (.int .i64 0)), (.t .nil)] [(0, 1, (t 8))]),
   a 5 (.alloc [(.t (.int .i64 0)), (.t (.int .i64 0)), (.t .nil), (.t .nil), (.t (.int .i64 0)), (.t (.int .i64 0)), (.t (.int .u16 0)), (.t (.int .u16 0)), (.t (.int .u16 0)), (.t (.int .i64 0)), (.t (.int .i64 0)), (.t (.bool false)), (.t (.int .i64 0)), (.t .nil)]),
   a_ (.store 14 (t 5) (t 9))] none)
 (.seq (.seq (.region [a 10 (.fieldAddr 0 (t 2)),
   a 11 (.load none (t 10)),
   a 12 (.bin .neq (t 11) (i 1)),
   a 13 (.mv (t 12)),
   g 14 13 true (.fieldAddr 0 (t 2)),
   g 15 13 true (.load none (t 14)),
   g 16 13 true (.bin .neq (t 15) (i 2)),
   a 17 (.pick (t 13) (t 16) (bo false))] none)
 (.cond (t 17)
  (.seq (.region [a 18 (.mv (t 1)),
    a 19 (.append 1 2 [(.int .u16 0)] (.k (.c (.t .nil))) (t 18)),
    a 20 (.fieldAddr 3 (t 5)),
    a_ (.store 1 (t 20) (t 19))] none)
  (.seq (.region [a 21 (.load (some 14) (t 5)),
    a_ (.store 14 (t 4) (t 21))] none)
  .ret))
  .skip))
 (.seq (.seq (.region [a 6 (.mv (i 0))] none)
 (.block 0 (.loop
  (.seq (.seq (.region [a 22 (.mv (t 6)),
    a 23 (.mv (t 1)),
    a 24 (.len false (t 23)),
    a 25 (.bin .lss (t 22) (t 24))] none)
  (.cond (t 25)
   .skip
   (.exit 0)))
  (.seq (.block 1 (.region [a 28 (.fieldAddr 2 (t 5)),
    a 29 (.load none (t 28)),
    a 30 (.mv (t 1)),
    a 31 (.mv (t 6)),
    a 32 (.idxAddr 1 (t 30) (t 31)),
    a 33 (.load none (t 32)),
    a 34 (.bin .neq (t 33) (.k (.c (.t (.int .u16 0))))),
    a 35 (.mkList false 1 1 [(.bool false)] [(0, (t 34))]),
    a 36 (.append 1 1 [(.bool false)] (t 29) (t 35)),
    a 37 (.fieldAddr 2 (t 5)),
    a_ (.store 1 (t 37) (t 36))] (some [[], [0], [], [], [2, 3], [4, 2, 3], [5, 4, 2, 3], [6, 5, 4, 2, 3], [1, 7, 6, 5, 4, 2, 3, 0], [0, 1, 2, 3, 4, 5, 6, 7, 8, 1, 7, 6, 5, 4, 2, 3, 0], [9, 8, 8, 0, 1, 2, 3, 4, 5, 6, 7, 8, 0, 1, 2, 3, 4, 5, 6, 7, 8, 1, 7, 6, 5, 4, 2, 3, 0]])))
  (.region [a 26 (.mv (t 6)),
    a 27 (.bin .add (t 26) (i 1)),
    a 6 (.mv (t 27))] none))))))
 (.seq (.region [a 38 (.load (some 14) (t 5)),
   a_ (.store 14 (t 4) (t 38))] none)
 .ret))))), [.cell 4 (some 14)]⟩
theorem t119 : FnAt Try.prog 119 a119 := .mk Try.func119 (by kernel_rfl) (by kernel_rfl)
/-- slices.IndexFunc[busbar/api.Object,busbar/api.Object] -/
def a121 : AF := ⟨2, 19, (.seq (.region [a 4 (.mv (i 0))] none)
 (.seq (.seq (.region [a 6 (.mv (t 0)),
   a 7 (.len false (t 6)),
   a 8 (.mv (i 0))] none)
 (.block 0 (.loop
  (.seq (.region [a 9 (.bin .lss (t 8) (t 7))] none)
  (.seq (.cond (t 9)
   .skip
   (.exit 0))
  (.seq (.block 1 (.seq (.region [a 10 (.mv (t 8)),
    a 5 (.mv (t 10))] none)
  (.seq (.region [a 11 (.mv (t 1)),
    a 12 (.mv (t 0)),
    a 13 (.mv (t 5)),
    a 14 (.idxAddr 2 (t 12) (t 13)),
    a 15 (.load (some 2) (t 14)),
    a 16 (.callv (t 11) [(t 15)])] none)
  (.cond (t 16)
   (.seq (.region [a 17 (.mv (t 5)),
     a 4 (.mv (t 17))] none)
   .ret)
   .skip))))
  (.region [a 18 (.bin .add (t 8) (i 1)),
    a 8 (.mv (t 18))] none)))))))
 (.seq (.region [a 4 (.mv (i (-1)))] none)
 .ret))), [.tmp 4]⟩
theorem t121 : FnAt Try.prog 121 a121 := .mk Try.func121 (by kernel_rfl) (by kernel_rfl)
/-- busbar/iden.place.1 -/
def a122 : AF := ⟨2, 8, (.seq (.region [a 2 (.box (t 0)),
   a 3 (.mv (bo false))] none)
 (.seq (.region [a 4 (.fieldAddr 0 (t 2)),
   a 5 (.load none (t 4)),
   a 6 (.load none (t 1)),
   a 7 (.bin .eql (t 5) (t 6)),
   a 3 (.mv (t 7))] none)
 .ret)), [.tmp 3]⟩
theorem t122 : FnAt Try.prog 122 a122 := .mk Try.func122 (by kernel_rfl) (by kernel_rfl)
/-- slices.DeleteFunc[busbar/api.Object,busbar/api.Object] -/
def a123 : AF := ⟨2, 42, (.seq (.region [a 4 (.mv (.k (.c (.t .nil))))] none)
 (.seq (.region [a 8 (.mv (t 0)),
   a 9 (.mv (t 1)),
   a 10 (.call 121 [(t 8), (t 9)]),
   a 5 (.mv (t 10))] none)
 (.seq (.seq (.region [a 11 (.mv (t 5)),
   a 12 (.bin .eql (t 11) (i (-1)))] none)
 (.cond (t 12)
  (.seq (.region [a 13 (.mv (t 0)),
    a 4 (.mv (t 13))] none)
  .ret)
  .skip))
 (.seq (.seq (.region [a 14 (.mv (t 5)),
   a 15 (.bin .add (t 14) (i 1)),
   a 6 (.mv (t 15))] none)
 (.block 0 (.loop
  (.seq (.seq (.region [a 16 (.mv (t 6)),
    a 17 (.mv (t 0)),
    a 18 (.len false (t 17)),
    a 19 (.bin .lss (t 16) (t 18))] none)
  (.cond (t 19)
   .skip
   (.exit 0)))
  (.seq (.block 1 (.seq (.region [a 22 (.mv (t 0)),
    a 23 (.mv (t 6)),
    a 24 (.idxAddr 2 (t 22) (t 23)),
    a 25 (.load (some 2) (t 24)),
    a 7 (.alloc [(.t (.int .i64 0)), (.t (.str ⟨#[]⟩))]),
    a_ (.store 2 (t 7) (t 25))] none)
  (.seq (.region [a 26 (.mv (t 1)),
    a 27 (.load (some 2) (t 7)),
    a 28 (.callv (t 26) [(t 27)]),
    a 29 (.un .not (t 28))] none)
  (.cond (t 29)
   (.seq (.region [a 30 (.mv (t 0)),
     a 31 (.mv (t 5)),
     a 32 (.load (some 2) (t 7)),
     a 33 (.idxAddr 2 (t 30) (t 31)),
     a_ (.store 2 (t 33) (t 32))] none)
   (.region [a 34 (.mv (t 5)),
     a 35 (.bin .add (t 34) (i 1)),
     a 5 (.mv (t 35))] none))
   .skip))))
  (.region [a 20 (.mv (t 6)),
    a 21 (.bin .add (t 20) (i 1)),
    a 6 (.mv (t 21))] none))))))
 (.seq (.region [a 36 (.mv (t 0)),
   a 37 (.mv (t 5)),
   a 38 (.slice 2 (t 36) (some (t 37)) none),
   a_ (.clear 2 [(.int .i64 0), (.str ⟨#[]⟩)] (t 38))] none)
 (.seq (.region [a 39 (.mv (t 0)),
   a 40 (.mv (t 5)),
   a 41 (.slice 2 (t 39) none (some (t 40))),
   a 4 (.mv (t 41))] none)
 .ret)))))), [.tmp 4]⟩
theorem t123 : FnAt Try.prog 123 a123 := .mk Try.func123 (by kernel_rfl) (by kernel_rfl)
/-- busbar/iden.among.1 -/
def a124 : AF := ⟨2, 9, (.seq (.region [a 2 (.box (t 0)),
   a 3 (.mv (bo false))] none)
 (.seq (.region [a 4 (.fieldAddr 0 (t 2)),
   a 5 (.load none (t 4)),
   a 6 (.load none (t 1)),
   a 7 (.call 75 [(t 6)]),
   a 8 (.bin .gtr (t 5) (t 7)),
   a 3 (.mv (t 8))] (some [[], [0], [], [2], [1, 3, 2, 0], [4, 3, 0, 1, 2, 3, 4, 1, 3, 2, 0]]))
 .ret)), [.tmp 3]⟩
theorem t124 : FnAt Try.prog 124 a124 := .mk Try.func124 (by kernel_rfl) (by kernel_rfl)
/-- (*busbar/tell.cursor).coils -/
def a137 : AF := ⟨2, 22, (.seq (.region [a 4 (.mv (.k (.c (.t .nil))))] none)
 (.seq (.region [a 8 (.mv (t 0)),
   a 9 (.call 150 [(t 8)]),
   a 5 (.mv (t 9))] none)
 (.seq (.region [a 11 (.mv (t 0)),
   a 12 (.mv (t 5)),
   a 13 (.call 151 [(t 11), (t 12)]),
   a 14 (.mv (t 1)),
   a 15 (.call 148 [(t 13), (t 14)]),
   a 10 (.mv (t 15)),
   a 16 (.extract (t 10) 0),
   a 17 (.extract (t 10) 1),
   a 6 (.mv (t 16)),
   a 7 (.mv (t 17))] none)
 (.seq (.region [a 18 (.mv (t 0)),
   a 19 (.mv (t 7)),
   a 20 (.call 152 [(t 18), (t 19)])] none)
 (.seq (.region [a 21 (.mv (t 6)),
   a 4 (.mv (t 21))] none)
 .ret))))), [.tmp 4]⟩
theorem t137 : FnAt Try.prog 137 a137 := .mk Try.func137 (by kernel_rfl) (by kernel_rfl)
/-- (*busbar/tell.cursor).words -/
def a138 : AF := ⟨1, 28, (.seq (.region [a 2 (.mv (.k (.c (.t .nil))))] none)
 (.seq (.region [a 6 (.mv (t 0)),
   a 7 (.call 150 [(t 6)]),
   a 3 (.mv (t 7))] none)
 (.seq (.region [a 8 (.mv (t 0)),
   a 9 (.mv (t 3)),
   a 10 (.bin .and (t 9) (i 1)),
   a 11 (.bin .eql (t 10) (i 0)),
   a 12 (.call 152 [(t 8), (t 11)])] none)
 (.seq (.region [a 13 (.mv (t 3)),
   a 14 (.bin .shr (t 13) (.k (.c (.t (.int .u64 1))))),
   a 15 (.mkSlice 1 2 [(.int .u16 0)] (t 14) (t 14)),
   a 4 (.mv (t 15))] none)
 (.seq (.seq (.region [a 16 (.mv (t 4)),
   a 17 (.len false (t 16)),
   a 18 (.mv (i 0))] none)
 (.block 0 (.loop
  (.seq (.region [a 19 (.bin .lss (t 18) (t 17))] none)
  (.seq (.cond (t 19)
   .skip
   (.exit 0))
  (.seq (.block 1 (.seq (.region [a 20 (.mv (t 18)),
    a 5 (.mv (t 20))] none)
  (.region [a 21 (.mv (t 4)),
    a 22 (.mv (t 5)),
    a 23 (.mv (t 0)),
    a 24 (.call 139 [(t 23)]),
    a 25 (.idxAddr 1 (t 21) (t 22)),
    a_ (.store 1 (t 25) (t 24))] none)))
  (.region [a 26 (.bin .add (t 18) (i 1)),
    a 18 (.mv (t 26))] none)))))))
 (.seq (.region [a 27 (.mv (t 4)),
   a 2 (.mv (t 27))] none)
 .ret)))))), [.tmp 2]⟩
theorem t138 : FnAt Try.prog 138 a138 := .mk Try.func138 (by kernel_rfl) (by kernel_rfl)
/-- (*busbar/tell.cursor).word -/
def a139 : AF := ⟨1, 12, (.seq (.region [a 2 (.mv (.k (.c (.t (.int .u16 0)))))] none)
 (.seq (.region [a 6 (.mv (t 0)),
   a 7 (.call 151 [(t 6), (i 2)]),
   a 8 (.call 147 [(t 7), (i 0)]),
   a 5 (.mv (t 8)),
   a 9 (.extract (t 5) 0),
   a 10 (.extract (t 5) 1),
   a 3 (.mv (t 9)),
   a 4 (.mv (t 10))] none)
 (.seq (.region [a 11 (.mv (t 3)),
   a 2 (.mv (t 11))] none)
 .ret))), [.tmp 2]⟩
theorem t139 : FnAt Try.prog 139 a139 := .mk Try.func139 (by kernel_rfl) (by kernel_rfl)
/-- (*busbar/tell.cursor).coil -/
def a140 : AF := ⟨1, 16, (.seq (.region [a 2 (.mv (.k (.c (.t (.int .u16 0)))))] none)
 (.seq (.region [a 4 (.mv (t 0)),
   a 5 (.call 139 [(t 4)]),
   a 3 (.mv (t 5))] none)
 (.seq (.region [a 6 (.mv (t 0)),
   a 7 (.mv (t 3)),
   a 8 (.bin .eql (t 7) (.k (.c (.t (.int .u16 0))))),
   a 9 (.mv (t 8)),
   g 10 9 false (.mv (t 3)),
   g 11 9 false (.bin .eql (t 10) (.k (.c (.t (.int .u16 65280))))),
   a 12 (.pick (t 9) (bo true) (t 11)),
   a 13 (.call 152 [(t 6), (t 12)])] none)
 (.seq (.region [a 14 (.mv (t 3)),
   a 15 (.bin .quo (t 14) (.k (.c (.t (.int .u16 65280))))),
   a 2 (.mv (t 15))] none)
 .ret)))), [.tmp 2]⟩
theorem t140 : FnAt Try.prog 140 a140 := .mk Try.func140 (by kernel_rfl) (by kernel_rfl)
/-- (*busbar/tell.cursor).device -/
def a141 : AF := ⟨2, 65, (.seq (.region [a 3 (.box (t 1)),
   a 4 (.alloc [(.t (.int .i64 0)), (.t (.int .i64 0)), (.t .nil), (.t .nil), (.t (.int .i64 0)), (.t (.int .i64 0)), (.t (.int .u16 0)), (.t (.int .u16 0)), (.t (.int .u16 0)), (.t (.int .i64 0)), (.t (.int .i64 0)), (.t (.bool false)), (.t (.int .i64 0)), (.t .nil)])] none)
 (.seq (.region [a 9 (.mv (t 0)),
   a 10 (.mv (t 0)),
   a 11 (.call 150 [(t 10)]),
   a 12 (.bin .eql (t 11) (i 14)),
   a 13 (.call 152 [(t 9), (t 12)])] none)
 (.seq (.region [a 14 (.mv (t 0)),
   a 15 (.call 150 [(t 14)]),
   a 16 (.fieldAddr 9 (t 3)),
   a_ (.store 1 (t 16) (t 15))] none)
 (.seq (.region [a 17 (.mv (t 0)),
   a 18 (.call 150 [(t 17)]),
   a 19 (.fieldAddr 10 (t 3)),
   a_ (.store 1 (t 19) (t 18))] none)
 (.seq (.region [a 20 (.mv (t 0)),
   a 21 (.call 150 [(t 20)]),
   a 5 (.mv (t 21))] none)
 (.seq (.region [a 22 (.mv (t 0)),
   a 23 (.mv (t 5)),
   a 24 (.bin .eql (t 23) (i 0)),
   a 25 (.mv (t 24)),
   g 26 25 false (.mv (t 5)),
   g 27 25 false (.bin .eql (t 26) (i 255)),
   a 28 (.pick (t 25) (bo true) (t 27)),
   a 29 (.call 152 [(t 22), (t 28)])] none)
 (.seq (.region [a 30 (.mv (t 5)),
   a 31 (.bin .eql (t 30) (i 255)),
   a 32 (.fieldAddr 11 (t 3)),
   a_ (.store 1 (t 32) (t 31))] none)
 (.seq (.region [a 33 (.mv (t 0)),
   a 34 (.call 150 [(t 33)]),
   a 35 (.fieldAddr 12 (t 3)),
   a_ (.store 1 (t 35) (t 34))] none)
 (.seq (.seq (.region [a 36 (.mv (t 0)),
   a 37 (.call 150 [(t 36)]),
   a 6 (.mv (t 37))] none)
 (.block 0 (.loop
  (.seq (.seq (.region [a 38 (.mv (t 6)),
    a 39 (.bin .gtr (t 38) (i 0)),
    a 40 (.mv (t 39)),
    g 41 40 true (.mv (t 0)),
    g 42 40 true (.nilCheck (t 41)),
    g 43 40 true (.fieldAddr 1 (t 42)),
    g 44 40 true (.load none (t 43)),
    g 45 40 true (.un .not (t 44)),
    a 46 (.pick (t 40) (t 45) (bo false))] none)
  (.cond (t 46)
   .skip
   (.exit 0)))
  (.seq (.block 1 (.seq (.region [a 49 (.mv (t 0)),
    a 50 (.call 150 [(t 49)]),
    a 7 (.mv (t 50))] none)
  (.seq (.region [a 51 (.mv (t 0)),
    a 52 (.call 150 [(t 51)]),
    a 8 (.mv (t 52))] none)
  (.region [a 53 (.fieldAddr 13 (t 3)),
    a 54 (.load none (t 53)),
    a 55 (.mv (t 7)),
    a 56 (.mv (t 0)),
    a 57 (.mv (t 8)),
    a 58 (.call 151 [(t 56), (t 57)]),
    a 59 (.bstr (t 58)),
    a 60 (.build [(.t (.int .i64 0)), (.t (.str ⟨#[]⟩))] [(0, 1, (t 55)), (1, 1, (t 59))]),
    a 61 (.mkList false 2 1 [(.int .i64 0), (.str ⟨#[]⟩)] [(0, (t 60))]),
    a 62 (.append 2 24 [(.int .i64 0), (.str ⟨#[]⟩)] (t 54) (t 61)),
    a 63 (.fieldAddr 13 (t 3)),
    a_ (.store 1 (t 63) (t 62))] (some [[], [0], [], [], [], [3, 4], [5, 3, 4], [2, 6, 5, 3, 4], [7, 2, 6, 5, 3, 4], [1, 8, 5, 7, 2, 6, 5, 3, 4, 0], [0, 1, 2, 3, 4, 5, 6, 7, 8, 9, 1, 8, 5, 7, 2, 6, 5, 3, 4, 0], [10, 9, 9, 0, 1, 2, 3, 4, 5, 6, 7, 8, 9, 0, 1, 2, 3, 4, 5, 6, 7, 8, 9, 1, 8, 5, 7, 2, 6, 5, 3, 4, 0]])))))
  (.region [a 47 (.mv (t 6)),
    a 48 (.bin .sub (t 47) (i 1)),
    a 6 (.mv (t 48))] none))))))
 (.seq (.region [a 64 (.load (some 14) (t 3)),
   a_ (.store 14 (t 4) (t 64))] none)
 .ret)))))))))), [.cell 4 (some 14)]⟩
theorem t141 : FnAt Try.prog 141 a141 := .mk Try.func141 (by kernel_rfl) (by kernel_rfl)
/-- busbar/busbarref5.told -/
def a142 : AF := ⟨1, 114, (.seq (.region [a 2 (.alloc [(.t (.int .i64 0)), (.t (.int .i64 0)), (.t .nil), (.t .nil), (.t (.int .i64 0)), (.t (.int .i64 0)), (.t (.int .u16 0)), (.t (.int .u16 0)), (.t (.int .u16 0)), (.t (.int .i64 0)), (.t (.int .i64 0)), (.t (.bool false)), (.t (.int .i64 0)), (.t .nil)]),
   a 3 (.mv (bo false))] none)
 (.seq (.region [a 8 (.build [(.t (.int .i64 0)), (.t (.int .i64 0)), (.t .nil), (.t .nil), (.t (.int .i64 0)), (.t (.int .i64 0)), (.t (.int .u16 0)), (.t (.int .u16 0)), (.t (.int .u16 0)), (.t (.int .i64 0)), (.t (.int .i64 0)), (.t (.bool false)), (.t (.int .i64 0)), (.t .nil)] [(0, 1, (i 43))]),
   a 4 (.alloc [(.t (.int .i64 0)), (.t (.int .i64 0)), (.t .nil), (.t .nil), (.t (.int .i64 0)), (.t (.int .i64 0)), (.t (.int .u16 0)), (.t (.int .u16 0)), (.t (.int .u16 0)), (.t (.int .i64 0)), (.t (.int .i64 0)), (.t (.bool false)), (.t (.int .i64 0)), (.t .nil)]),
   a_ (.store 14 (t 4) (t 8))] none)
 (.seq (.seq (.region [a 9 (.mv (t 0)),
   a 10 (.len false (t 9)),
   a 11 (.bin .lss (t 10) (i 7)),
   a 12 (.mv (t 11)),
   g 13 12 false (.mv (t 0)),
   g 14 12 false (.idxAddr 1 (t 13) (i 1)),
   g 15 12 false (.load none (t 14)),
   g 16 12 false (.bin .neq (t 15) (.k (.c (.t (.int .u8 14))))),
   a 17 (.pick (t 12) (bo true) (t 16)),
   a 18 (.mv (t 17)),
   g 19 18 false (.mv (t 0)),
   g 20 18 false (.idxAddr 1 (t 19) (i 4)),
   g 21 18 false (.load none (t 20)),
   g 22 18 false (.bin .neq (t 21) (.k (.c (.t (.int .u8 0))))),
   g 23 18 false (.mv (t 22)),
   g 24 23 true (.mv (t 0)),
   g 25 23 true (.idxAddr 1 (t 24) (i 4)),
   g 26 23 true (.load none (t 25)),
   g 27 23 true (.bin .neq (t 26) (.k (.c (.t (.int .u8 255))))),
   g 28 18 false (.pick (t 23) (t 27) (bo false)),
   a 29 (.pick (t 18) (bo true) (t 28))] none)
 (.cond (t 29)
  (.seq (.region [a 30 (.load (some 14) (t 4)),
    a_ (.store 14 (t 2) (t 30)),
    a 3 (.mv (bo false))] none)
  .ret)
  .skip))
 (.seq (.region [a 31 (.mv (t 0)),
   a 32 (.idxAddr 1 (t 31) (i 2)),
   a 33 (.load none (t 32)),
   a 34 (.conv .i64 (t 33)),
   a 35 (.mv (t 0)),
   a 36 (.idxAddr 1 (t 35) (i 3)),
   a 37 (.load none (t 36)),
   a 38 (.conv .i64 (t 37)),
   a 39 (.mv (t 0)),
   a 40 (.idxAddr 1 (t 39) (i 4)),
   a 41 (.load none (t 40)),
   a 42 (.bin .eql (t 41) (.k (.c (.t (.int .u8 255))))),
   a 43 (.mv (t 0)),
   a 44 (.idxAddr 1 (t 43) (i 5)),
   a 45 (.load none (t 44)),
   a 46 (.conv .i64 (t 45)),
   a 47 (.fieldAddr 9 (t 4)),
   a_ (.store 1 (t 47) (t 34)),
   a 48 (.fieldAddr 10 (t 4)),
   a_ (.store 1 (t 48) (t 38)),
   a 49 (.fieldAddr 11 (t 4)),
   a_ (.store 1 (t 49) (t 42)),
   a 50 (.fieldAddr 12 (t 4)),
   a_ (.store 1 (t 50) (t 46))] (some [[], [0], [1, 0], [2, 1, 0], [], [4], [5, 4], [6, 5, 4], [], [8], [9, 8], [10, 9, 8], [], [12], [13, 12], [14, 13, 12], [0, 1, 2, 3, 2, 1, 0], [16, 3, 0, 1, 2, 3, 0, 1, 2, 3, 2, 1, 0], [0, 1, 2, 3, 4, 5, 6, 7, 16, 17, 16, 3, 0, 1, 2, 3, 0, 1, 2, 3, 6, 5, 4, 2, 1, 0], [18, 7, 17, 0, 1, 2, 3, 4, 5, 6, 7, 16, 17, 0, 1, 2, 3, 4, 5, 6, 7, 16, 17, 16, 3, 0, 1, 2, 3, 0, 1, 2, 3, 6, 5, 4, 2, 1, 0], [0, 1, 2, 3, 4, 5, 6, 7, 8, 9, 10, 11, 16, 17, 18, 19, 18, 7, 17, 0, 1, 2, 3, 4, 5, 6, 7, 16, 17, 0, 1, 2, 3, 4, 5, 6, 7, 16, 17, 16, 3, 0, 1, 2, 3, 0, 1, 2, 3, 10, 9, 8, 6, 5, 4, 2, 1, 0], [20, 11, 19, 0, 1, 2, 3, 4, 5, 6, 7, 8, 9, 10, 11, 16, 17, 18, 19, 0, 1, 2, 3, 4, 5, 6, 7, 8, 9, 10, 11, 16, 17, 18, 19, 18, 7, 17, 0, 1, 2, 3, 4, 5, 6, 7, 16, 17, 0, 1, 2, 3, 4, 5, 6, 7, 16, 17, 16, 3, 0, 1, 2, 3, 0, 1, 2, 3, 10, 9, 8, 6, 5, 4, 2, 1, 0], [0, 1, 2, 3, 4, 5, 6, 7, 8, 9, 10, 11, 12, 13, 14, 15, 16, 17, 18, 19, 20, 21, 20, 11, 19, 0, 1, 2, 3, 4, 5, 6, 7, 8, 9, 10, 11, 16, 17, 18, 19, 0, 1, 2, 3, 4, 5, 6, 7, 8, 9, 10, 11, 16, 17, 18, 19, 18, 7, 17, 0, 1, 2, 3, 4, 5, 6, 7, 16, 17, 0, 1, 2, 3, 4, 5, 6, 7, 16, 17, 16, 3, 0, 1, 2, 3, 0, 1, 2, 3, 14, 13, 12, 10, 9, 8, 6, 5, 4, 2, 1, 0], [22, 15, 21, 0, 1, 2, 3, 4, 5, 6, 7, 8, 9, 10, 11, 12, 13, 14, 15, 16, 17, 18, 19, 20, 21, 0, 1, 2, 3, 4, 5, 6, 7, 8, 9, 10, 11, 12, 13, 14, 15, 16, 17, 18, 19, 20, 21, 20, 11, 19, 0, 1, 2, 3, 4, 5, 6, 7, 8, 9, 10, 11, 16, 17, 18, 19, 0, 1, 2, 3, 4, 5, 6, 7, 8, 9, 10, 11, 16, 17, 18, 19, 18, 7, 17, 0, 1, 2, 3, 4, 5, 6, 7, 16, 17, 0, 1, 2, 3, 4, 5, 6, 7, 16, 17, 16, 3, 0, 1, 2, 3, 0, 1, 2, 3, 14, 13, 12, 10, 9, 8, 6, 5, 4, 2, 1, 0]]))
 (.seq (.region [a 5 (.mv (i 7))] none)
 (.seq (.seq (.region [a 6 (.mv (i 0))] none)
 (.block 0 (.loop
  (.seq (.seq (.region [a 51 (.mv (t 6)),
    a 52 (.mv (t 0)),
    a 53 (.idxAddr 1 (t 52) (i 6)),
    a 54 (.load none (t 53)),
    a 55 (.conv .i64 (t 54)),
    a 56 (.bin .lss (t 51) (t 55))] none)
  (.cond (t 56)
   .skip
   (.exit 0)))
  (.seq (.block 1 (.seq (.seq (.region [a 59 (.mv (t 0)),
    a 60 (.len false (t 59)),
    a 61 (.mv (t 5)),
    a 62 (.bin .add (t 61) (i 2)),
    a 63 (.bin .lss (t 60) (t 62)),
    a 64 (.mv (t 63)),
    g 65 64 false (.mv (t 0)),
    g 66 64 false (.len false (t 65)),
    g 67 64 false (.mv (t 5)),
    g 68 64 false (.bin .add (t 67) (i 2)),
    g 69 64 false (.mv (t 0)),
    g 70 64 false (.mv (t 5)),
    g 71 64 false (.bin .add (t 70) (i 1)),
    g 72 64 false (.idxAddr 1 (t 69) (t 71)),
    g 73 64 false (.load none (t 72)),
    g 74 64 false (.conv .i64 (t 73)),
    g 75 64 false (.bin .add (t 68) (t 74)),
    g 76 64 false (.bin .lss (t 66) (t 75)),
    a 77 (.pick (t 64) (bo true) (t 76))] none)
  (.cond (t 77)
   (.seq (.region [a 78 (.load (some 14) (t 4)),
     a_ (.store 14 (t 2) (t 78)),
     a 3 (.mv (bo false))] none)
   .ret)
   .skip))
  (.seq (.region [a 79 (.mv (t 0)),
    a 80 (.mv (t 5)),
    a 81 (.bin .add (t 80) (i 1)),
    a 82 (.idxAddr 1 (t 79) (t 81)),
    a 83 (.load none (t 82)),
    a 84 (.conv .i64 (t 83)),
    a 7 (.mv (t 84))] none)
  (.seq (.region [a 85 (.fieldAddr 13 (t 4)),
    a 86 (.load none (t 85)),
    a 87 (.mv (t 0)),
    a 88 (.mv (t 5)),
    a 89 (.idxAddr 1 (t 87) (t 88)),
    a 90 (.load none (t 89)),
    a 91 (.conv .i64 (t 90)),
    a 92 (.mv (t 0)),
    a 93 (.mv (t 5)),
    a 94 (.bin .add (t 93) (i 2)),
    a 95 (.mv (t 5)),
    a 96 (.bin .add (t 95) (i 2)),
    a 97 (.mv (t 7)),
    a 98 (.bin .add (t 96) (t 97)),
    a 99 (.slice 1 (t 92) (some (t 94)) (some (t 98))),
    a 100 (.bstr (t 99)),
    a 101 (.build [(.t (.int .i64 0)), (.t (.str ⟨#[]⟩))] [(0, 1, (t 91)), (1, 1, (t 100))]),
    a 102 (.mkList false 2 1 [(.int .i64 0), (.str ⟨#[]⟩)] [(0, (t 101))]),
    a 103 (.append 2 24 [(.int .i64 0), (.str ⟨#[]⟩)] (t 86) (t 102)),
    a 104 (.fieldAddr 13 (t 4)),
    a_ (.store 1 (t 104) (t 103))] (some [[], [0], [], [], [2, 3], [4, 2, 3], [5, 4, 2, 3], [], [], [8], [], [10], [], [11, 12, 10], [7, 9, 13, 11, 12, 10, 8], [14, 7, 9, 13, 11, 12, 10, 8], [6, 15, 14, 7, 9, 13, 11, 12, 10, 8, 5, 4, 2, 3], [16, 6, 15, 14, 7, 9, 13, 11, 12, 10, 8, 5, 4, 2, 3], [1, 17, 16, 6, 15, 14, 7, 9, 13, 11, 12, 10, 8, 5, 4, 2, 3, 0], [0, 1, 2, 3, 4, 5, 6, 7, 8, 9, 10, 11, 12, 13, 14, 15, 16, 17, 18, 1, 17, 16, 6, 15, 14, 7, 9, 13, 11, 12, 10, 8, 5, 4, 2, 3, 0], [19, 18, 18, 0, 1, 2, 3, 4, 5, 6, 7, 8, 9, 10, 11, 12, 13, 14, 15, 16, 17, 18, 0, 1, 2, 3, 4, 5, 6, 7, 8, 9, 10, 11, 12, 13, 14, 15, 16, 17, 18, 1, 17, 16, 6, 15, 14, 7, 9, 13, 11, 12, 10, 8, 5, 4, 2, 3, 0]]))
  (.region [a 105 (.mv (t 5)),
    a 106 (.bin .add (t 105) (i 2)),
    a 107 (.mv (t 7)),
    a 108 (.bin .add (t 106) (t 107)),
    a 5 (.mv (t 108))] none)))))
  (.region [a 57 (.mv (t 6)),
    a 58 (.bin .add (t 57) (i 1)),
    a 6 (.mv (t 58))] none))))))
 (.seq (.region [a 109 (.load (some 14) (t 4)),
   a 110 (.mv (t 5)),
   a 111 (.mv (t 0)),
   a 112 (.len false (t 111)),
   a 113 (.bin .eql (t 110) (t 112)),
   a_ (.store 14 (t 2) (t 109)),
   a 3 (.mv (t 113))] none)
 .ret))))))), [.cell 2 (some 14), .tmp 3]⟩
theorem t142 : FnAt Try.prog 142 a142 := .mk Try.func142 (by kernel_rfl) (by kernel_rfl)
/-- busbar/busbarref16.find -/
def a143 : AF := ⟨2, 42, (.seq (.region [a 3 (.box (t 1)),
   a 4 (.mv (i 0)),
   a 5 (.mv (bo false))] none)
 (.seq (.region [a 9 (.mv (t 0)),
   a 10 (.len false (t 9)),
   a 6 (.mv (i 0)),
   a 7 (.mv (t 10))] none)
 (.seq (.block 0 (.loop
  (.seq (.seq (.region [a 11 (.mv (t 6)),
    a 12 (.mv (t 7)),
    a 13 (.bin .lss (t 11) (t 12))] none)
  (.cond (t 13)
   .skip
   (.exit 0)))
  (.block 1 (.seq (.region [a 14 (.mv (t 6)),
    a 15 (.mv (t 7)),
    a 16 (.bin .add (t 14) (t 15)),
    a 17 (.bin .quo (t 16) (i 2)),
    a 8 (.mv (t 17))] none)
  (.seq (.region [a 18 (.mv (t 0)),
    a 19 (.mv (t 8)),
    a 20 (.idxAddr 3 (t 18) (t 19)),
    a 21 (.fieldAddr 0 (t 20)),
    a 22 (.load (some 2) (t 21)),
    a 23 (.load (some 2) (t 3)),
    a 24 (.call 153 [(t 22), (t 23)])] (some [[], [], [0, 1], [2, 0, 1], [3, 2, 0, 1], [], [4, 5, 3, 2, 0, 1]]))
  (.cond (t 24)
   (.region [a 25 (.mv (t 8)),
     a 26 (.bin .add (t 25) (i 1)),
     a 6 (.mv (t 26))] none)
   (.region [a 27 (.mv (t 8)),
     a 7 (.mv (t 27))] none))))))))
 (.seq (.region [a 28 (.mv (t 6)),
   a 29 (.mv (t 6)),
   a 30 (.mv (t 0)),
   a 31 (.len false (t 30)),
   a 32 (.bin .lss (t 29) (t 31)),
   a 33 (.mv (t 32)),
   g 34 33 true (.mv (t 0)),
   g 35 33 true (.mv (t 6)),
   g 36 33 true (.idxAddr 3 (t 34) (t 35)),
   g 37 33 true (.fieldAddr 0 (t 36)),
   g 38 33 true (.load (some 2) (t 37)),
   g 39 33 true (.load (some 2) (t 3)),
   g 40 33 true (.eqAgg false [.int, .int] (t 38) (t 39)),
   a 41 (.pick (t 33) (t 40) (bo false)),
   a 4 (.mv (t 28)),
   a 5 (.mv (t 41))] (some [[], [], [], [2], [1, 3, 2], [4, 1, 3, 2], [5, 4, 1, 3, 2], [5, 4, 1, 3, 2], [6, 7, 5, 5, 5, 4, 1, 3, 2], [8, 5, 6, 7, 5, 5, 5, 4, 1, 3, 2], [9, 5, 8, 5, 6, 7, 5, 5, 5, 4, 1, 3, 2], [5, 4, 1, 3, 2], [10, 11, 5, 5, 9, 5, 8, 5, 6, 7, 5, 5, 5, 4, 1, 3, 2], [5, 12, 10, 11, 5, 5, 9, 5, 8, 5, 6, 7, 5, 5, 5, 4, 1, 3, 2], [0, 5, 0, 4, 1, 3, 2], [13, 14, 0, 1, 2, 3, 4, 5, 6, 7, 8, 9, 10, 11, 12, 13, 14, 0, 5, 0, 5, 12, 10, 11, 5, 5, 9, 5, 8, 5, 6, 7, 5, 5, 5, 4, 1, 3, 2]]))
 .ret)))), [.tmp 4, .tmp 5]⟩
theorem t143 : FnAt Try.prog 143 a143 := .mk Try.func143 (by kernel_rfl) (by kernel_rfl)
/-- busbar/busbarlaw0.Key -/
def a144 : AF := ⟨1, 17, (.seq (.region [a 2 (.alloc [(.t (.int .i64 0)), (.t (.int .i64 0))])] none)
 (.seq (.region [a 4 (.mv (t 0)),
   a 5 (.call 22 [(t 4), (i 4)]),
   a 6 (.mv (t 0)),
   a 7 (.call 49 [(t 6), (i 4), (i 16)]),
   a 8 (.build [(.t (.int .i64 0)), (.t (.int .i64 0))] [(0, 1, (t 5)), (1, 1, (t 7))]),
   a 3 (.alloc [(.t (.int .i64 0)), (.t (.int .i64 0))]),
   a_ (.store 2 (t 3) (t 8))] none)
 (.seq (.seq (.region [a 9 (.mv (t 0)),
   a 10 (.call 49 [(t 9), (i 64), (i 16)]),
   a 11 (.bin .eql (t 10) (i 0))] none)
 (.cond (t 11)
  (.region [a 12 (.fieldAddr 1 (t 3)),
    a 13 (.load none (t 12)),
    a 14 (.bin .sub (i 65535) (t 13)),
    a 15 (.fieldAddr 1 (t 3)),
    a_ (.store 1 (t 15) (t 14))] none)
  .skip))
 (.seq (.region [a 16 (.load (some 2) (t 3)),
   a_ (.store 2 (t 2) (t 16))] none)
 .ret)))), [.cell 2 (some 2)]⟩
theorem t144 : FnAt Try.prog 144 a144 := .mk Try.func144 (by kernel_rfl) (by kernel_rfl)
/-- busbar/busbarref16.Lay -/
def a145 : AF := ⟨2, 29, (.seq (.region [a 2 (.box (t 0)),
   a 4 (.mv (.k (.c (.t .nil))))] none)
 (.seq (.region [a 5 (.mv (.k (.c (.t .nil))))] none)
 (.seq (.seq (.region [a 6 (.mv (i 0))] none)
 (.block 0 (.loop
  (.seq (.seq (.region [a 7 (.mv (t 6)),
    a 8 (.mv (t 1)),
    a 9 (.len false (t 8)),
    a 10 (.bin .lss (t 7) (t 9))] none)
  (.cond (t 10)
   .skip
   (.exit 0)))
  (.seq (.block 1 (.region [a 13 (.mv (t 5)),
    a 14 (.fieldAddr 0 (t 2)),
    a 15 (.load none (t 14)),
    a 16 (.fieldAddr 1 (t 2)),
    a 17 (.load none (t 16)),
    a 18 (.mv (t 6)),
    a 19 (.bin .add (t 17) (t 18)),
    a 20 (.build [(.t (.int .i64 0)), (.t (.int .i64 0))] [(0, 1, (t 15)), (1, 1, (t 19))]),
    a 21 (.mv (t 1)),
    a 22 (.mv (t 6)),
    a 23 (.idxAddr 1 (t 21) (t 22)),
    a 24 (.load none (t 23)),
    a 25 (.build [(.t (.int .i64 0)), (.t (.int .i64 0)), (.t (.int .u16 0))] [(0, 2, (t 20)), (2, 1, (t 24))]),
    a 26 (.mkList false 3 1 [(.int .i64 0), (.int .i64 0), (.int .u16 0)] [(0, (t 25))]),
    a 27 (.append 3 24 [(.int .i64 0), (.int .i64 0), (.int .u16 0)] (t 13) (t 26)),
    a 5 (.mv (t 27))] (some [[], [], [1], [], [3], [], [4, 5, 3], [2, 6, 4, 5, 3, 1], [], [], [8, 9], [10, 8, 9], [7, 11, 10, 8, 9, 2, 6, 4, 5, 3, 1], [12, 7, 11, 10, 8, 9, 2, 6, 4, 5, 3, 1], [0, 13, 12, 7, 11, 10, 8, 9, 2, 6, 4, 5, 3, 1], [14, 14, 0, 1, 2, 3, 4, 5, 6, 7, 8, 9, 10, 11, 12, 13, 14, 0, 13, 12, 7, 11, 10, 8, 9, 2, 6, 4, 5, 3, 1]])))
  (.region [a 11 (.mv (t 6)),
    a 12 (.bin .add (t 11) (i 1)),
    a 6 (.mv (t 12))] none))))))
 (.seq (.region [a 28 (.mv (t 5)),
   a 4 (.mv (t 28))] none)
 .ret)))), [.tmp 4]⟩
theorem t145 : FnAt Try.prog 145 a145 := .mk Try.func145 (by kernel_rfl) (by kernel_rfl)
/-- busbar/busbarref16.Get -/
def a146 : AF := ⟨2, 21, (.seq (.region [a 3 (.box (t 1)),
   a 4 (.mv (.k (.c (.t (.int .u16 0))))),
   a 5 (.mv (bo false))] none)
 (.seq (.region [a 9 (.mv (t 0)),
   a 10 (.load (some 2) (t 3)),
   a 11 (.call 143 [(t 9), (t 10)]),
   a 8 (.mv (t 11)),
   a 12 (.extract (t 8) 0),
   a 13 (.extract (t 8) 1),
   a 6 (.mv (t 12)),
   a 7 (.mv (t 13))] none)
 (.seq (.seq (.region [a 14 (.mv (t 7)),
   a 15 (.un .not (t 14))] none)
 (.cond (t 15)
  (.seq (.region [a 4 (.mv (.k (.c (.t (.int .u16 0))))),
    a 5 (.mv (bo false))] none)
  .ret)
  .skip))
 (.seq (.region [a 16 (.mv (t 0)),
   a 17 (.mv (t 6)),
   a 18 (.idxAddr 3 (t 16) (t 17)),
   a 19 (.fieldAddr 2 (t 18)),
   a 20 (.load none (t 19)),
   a 4 (.mv (t 20)),
   a 5 (.mv (bo true))] none)
 .ret)))), [.tmp 4, .tmp 5]⟩
theorem t146 : FnAt Try.prog 146 a146 := .mk Try.func146 (by kernel_rfl) (by kernel_rfl)
/-- (*busbar/tell.cursor).byte -/
def a150 : AF := ⟨1, 13, (.seq (.region [a 2 (.mv (i 0))] none)
 (.seq (.region [a 4 (.mv (t 0)),
   a 5 (.call 151 [(t 4), (i 1)]),
   a 3 (.mv (t 5))] none)
 (.seq (.seq (.region [a 6 (.mv (t 3)),
   a 7 (.len false (t 6)),
   a 8 (.bin .eql (t 7) (i 0))] none)
 (.cond (t 8)
  (.seq (.region [a 2 (.mv (i 0))] none)
  .ret)
  .skip))
 (.seq (.region [a 9 (.mv (t 3)),
   a 10 (.idxAddr 1 (t 9) (i 0)),
   a 11 (.load none (t 10)),
   a 12 (.conv .i64 (t 11)),
   a 2 (.mv (t 12))] none)
 .ret)))), [.tmp 2]⟩
theorem t150 : FnAt Try.prog 150 a150 := .mk Try.func150 (by kernel_rfl) (by kernel_rfl)
/-- (*busbar/tell.cursor).some -/
def a151 : AF := ⟨2, 32, (.seq (.region [a 4 (.mv (.k (.c (.t .nil))))] none)
 (.seq (.seq (.region [a 6 (.mv (t 0)),
   a 7 (.nilCheck (t 6)),
   a 8 (.fieldAddr 0 (t 7)),
   a 9 (.load none (t 8)),
   a 10 (.len false (t 9)),
   a 11 (.mv (t 1)),
   a 12 (.bin .lss (t 10) (t 11))] none)
 (.cond (t 12)
  (.seq (.region [a 13 (.mv (t 0)),
    a 14 (.nilCheck (t 13)),
    a 15 (.fieldAddr 1 (t 14)),
    a_ (.store 1 (t 15) (bo true))] none)
  (.seq (.region [a 4 (.mv (.k (.c (.t .nil))))] none)
  .ret))
  .skip))
 (.seq (.region [a 16 (.mv (t 0)),
   a 17 (.nilCheck (t 16)),
   a 18 (.fieldAddr 0 (t 17)),
   a 19 (.load none (t 18)),
   a 20 (.mv (t 1)),
   a 21 (.slice 1 (t 19) none (some (t 20))),
   a 5 (.mv (t 21))] none)
 (.seq (.region [a 22 (.mv (t 0)),
   a 23 (.mv (t 0)),
   a 24 (.nilCheck (t 23)),
   a 25 (.fieldAddr 0 (t 24)),
   a 26 (.load none (t 25)),
   a 27 (.mv (t 1)),
   a 28 (.slice 1 (t 26) (some (t 27)) none),
   a 29 (.nilCheck (t 22)),
   a 30 (.fieldAddr 0 (t 29)),
   a_ (.store 1 (t 30) (t 28))] none)
 (.seq (.region [a 31 (.mv (t 5)),
   a 4 (.mv (t 31))] none)
 .ret))))), [.tmp 4]⟩
theorem t151 : FnAt Try.prog 151 a151 := .mk Try.func151 (by kernel_rfl) (by kernel_rfl)
/-- (*busbar/tell.cursor).must -/
def a152 : AF := ⟨2, 15, (.region [a 4 (.mv (t 0)),
   a 5 (.mv (t 0)),
   a 6 (.nilCheck (t 5)),
   a 7 (.fieldAddr 1 (t 6)),
   a 8 (.load none (t 7)),
   a 9 (.mv (t 8)),
   g 10 9 false (.mv (t 1)),
   g 11 9 false (.un .not (t 10)),
   a 12 (.pick (t 9) (bo true) (t 11)),
   a 13 (.nilCheck (t 4)),
   a 14 (.fieldAddr 1 (t 13)),
   a_ (.store 1 (t 14) (t 12))] none), []⟩
theorem t152 : FnAt Try.prog 152 a152 := .mk Try.func152 (by kernel_rfl) (by kernel_rfl)
/-- busbar/busbarref16.Less -/
def a153 : AF := ⟨2, 24, (.seq (.region [a 2 (.box (t 0)),
   a 3 (.box (t 1)),
   a 4 (.mv (bo false))] none)
 (.seq (.region [a 5 (.fieldAddr 0 (t 2)),
   a 6 (.load none (t 5)),
   a 7 (.fieldAddr 0 (t 3)),
   a 8 (.load none (t 7)),
   a 9 (.bin .lss (t 6) (t 8)),
   a 10 (.mv (t 9)),
   g 11 10 false (.fieldAddr 0 (t 2)),
   g 12 10 false (.load none (t 11)),
   g 13 10 false (.fieldAddr 0 (t 3)),
   g 14 10 false (.load none (t 13)),
   g 15 10 false (.bin .eql (t 12) (t 14)),
   g 16 10 false (.mv (t 15)),
   g 17 16 true (.fieldAddr 1 (t 2)),
   g 18 16 true (.load none (t 17)),
   g 19 16 true (.fieldAddr 1 (t 3)),
   g 20 16 true (.load none (t 19)),
   g 21 16 true (.bin .lss (t 18) (t 20)),
   g 22 10 false (.pick (t 16) (t 21) (bo false)),
   a 23 (.pick (t 10) (bo true) (t 22)),
   a 4 (.mv (t 23))] none)
 .ret)), [.tmp 4]⟩
theorem t153 : FnAt Try.prog 153 a153 := .mk Try.func153 (by kernel_rfl) (by kernel_rfl)
end Go.Proofs.Ytheaeddojcebjaa
