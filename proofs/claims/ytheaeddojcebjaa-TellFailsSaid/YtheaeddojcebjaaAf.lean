/-
  Functions of the program, written out in the small language, and that they are so told.
-/
import Derived.Test.YtheaeddojcebjaaKA
import Derived.Test.YtheaeddojcebjaaProg
set_option linter.unusedVariables false
namespace Go.Proofs.Ytheaeddojcebjaa
open Go.RowKit
open Ab

/-- busbar/busbarlaw5.AskReads -/
def a6 : AF := ⟨3, 59, (.seq (.region [a 6 (.mv (bo false))] none)
 (.seq (.seq (.region [a 13 (.mv (t 0)),
   a 14 (.len false (t 13)),
   a 15 (.bin .gtr (t 14) (i 300)),
   a 16 (.mv (t 15)),
   g 17 16 false (.call 32 []),
   g 18 16 false (.un .not (t 17)),
   a 19 (.pick (t 16) (bo true) (t 18))] none)
 (.cond (t 19)
  (.seq (.region [a 20 (.call 32 []),
    a 6 (.mv (t 20))] none)
  .ret)
  .skip))
 (.seq (.region [a 21 (.mv (t 0)),
   a 22 (.append 1 1 [(.int .u8 0)] (.k (.c (.t .nil))) (t 21)),
   a 7 (.mv (t 22))] none)
 (.seq (.seq (.region [a 23 (.mv (t 2)),
   a 24 (.mv (t 23)),
   g 25 24 true (.mv (t 7)),
   g 26 24 true (.len false (t 25)),
   g 27 24 true (.bin .gtr (t 26) (i 0)),
   a 28 (.pick (t 24) (t 27) (bo false))] none)
 (.cond (t 28)
  (.region [a 29 (.mv (t 7)),
    a 30 (.mv (t 1)),
    a 31 (.call 22 [(t 30), (i 46)]),
    a 32 (.conv .u8 (t 31)),
    a 33 (.idxAddr 1 (t 29) (i 0)),
    a_ (.store 1 (t 33) (t 32))] none)
  .skip))
 (.seq (.region [a 34 (.mv (t 7)),
   a 35 (.call 33 [(t 34)]),
   a 8 (.mv (t 35))] none)
 (.seq (.region [a 37 (.mv (t 8)),
   a 38 (.call 34 [(t 37)]),
   a 36 (.mv (t 38)),
   a 39 (.extract (t 36) 0),
   a 40 (.extract (t 36) 1),
   a 9 (.alloc [(.t (.int .i64 0)), (.t (.int .i64 0)), (.t (.int .i64 0)), (.t (.int .u16 0)), (.t (.int .u16 0)), (.t (.int .u16 0)), (.t .nil), (.t .nil), (.t (.int .i64 0)), (.t (.int .i64 0)), (.t (.int .i64 0)), (.t (.int .i64 0))]),
   a_ (.store 12 (t 9) (t 39)),
   a 10 (.mv (t 40))] none)
 (.seq (.region [a 42 (.mv (t 7)),
   a 43 (.call 35 [(t 42)]),
   a 41 (.mv (t 43)),
   a 44 (.extract (t 41) 0),
   a 45 (.extract (t 41) 1),
   a 11 (.alloc [(.t (.int .i64 0)), (.t (.int .i64 0)), (.t (.int .i64 0)), (.t (.int .u16 0)), (.t (.int .u16 0)), (.t (.int .u16 0)), (.t .nil), (.t .nil), (.t (.int .i64 0)), (.t (.int .i64 0)), (.t (.int .i64 0)), (.t (.int .i64 0))]),
   a_ (.store 12 (t 11) (t 44)),
   a 12 (.mv (t 45))] none)
 (.seq (.region [a 46 (.mv (t 10)),
   a 47 (.mv (t 12)),
   a 48 (.bin .eql (t 46) (t 47)),
   a 49 (.mv (t 48)),
   g 50 49 true (.load (some 12) (t 9)),
   g 51 49 true (.load (some 12) (t 11)),
   g 52 49 true (.call 36 [(t 50), (t 51)]),
   a 53 (.pick (t 49) (t 52) (bo false)),
   a 54 (.mv (t 53)),
   g 55 54 true (.mv (t 8)),
   g 56 54 true (.mv (t 7)),
   g 57 54 true (.call 37 [(t 55), (t 56)]),
   a 58 (.pick (t 54) (t 57) (bo false)),
   a 6 (.mv (t 58))] none)
 .ret)))))))), [.tmp 6]⟩
theorem t6 : FnAt Try.prog 6 a6 := .mk Try.func6 (by kernel_rfl) (by kernel_rfl)
/-- busbar/busbarlaw5.AskNames -/
def a7 : AF := ⟨2, 172, (.seq (.region [a 4 (.mv (bo false))] none)
 (.seq (.seq (.region [a 15 (.call 32 []),
   a 16 (.un .not (t 15))] none)
 (.cond (t 16)
  (.seq (.region [a 4 (.mv (bo false))] none)
  .ret)
  .skip))
 (.seq (.region [a 17 (.mv (t 0)),
   a 18 (.mv (t 1)),
   a 19 (.call 38 [(t 17), (t 18)]),
   a 5 (.alloc [(.t (.int .i64 0)), (.t (.int .i64 0)), (.t (.int .i64 0)), (.t (.int .u16 0)), (.t (.int .u16 0)), (.t (.int .u16 0)), (.t .nil), (.t .nil), (.t (.int .i64 0)), (.t (.int .i64 0)), (.t (.int .i64 0)), (.t (.int .i64 0))]),
   a_ (.store 12 (t 5) (t 19))] none)
 (.seq (.region [a 21 (.load (some 12) (t 5)),
   a 22 (.call 39 [(t 21)]),
   a 20 (.mv (t 22)),
   a 23 (.extract (t 20) 0),
   a 24 (.extract (t 20) 1),
   a 6 (.mv (t 23)),
   a 7 (.mv (t 24))] none)
 (.seq (.region [a 26 (.fieldAddr 0 (t 5)),
   a 27 (.load none (t 26)),
   a 28 (.call 40 [(t 27)]),
   a 25 (.mv (t 28)),
   a 29 (.extract (t 25) 0),
   a 30 (.extract (t 25) 1),
   a 8 (.mv (t 29)),
   a 9 (.mv (t 30))] none)
 (.seq (.region [a 10 (.mv (i 0)),
   a 11 (.mv (i 0))] none)
 (.seq (.seq (.region [a 12 (.mv (i 0))] none)
 (.block 0 (.loop
  (.seq (.seq (.region [a 31 (.mv (t 12)),
    a 32 (.mv (t 6)),
    a 33 (.len false (t 32)),
    a 34 (.bin .lss (t 31) (t 33))] none)
  (.cond (t 34)
   .skip
   (.exit 0)))
  (.seq (.block 1 (.seq (.region [a 37 (.mv (t 10)),
    a 38 (.mv (t 6)),
    a 39 (.mv (t 12)),
    a 40 (.idxAddr 3 (t 38) (t 39)),
    a 41 (.fieldAddr 2 (t 40)),
    a 42 (.load none (t 41)),
    a 43 (.bin .add (t 37) (t 42)),
    a 44 (.mv (t 6)),
    a 45 (.mv (t 12)),
    a 46 (.idxAddr 3 (t 44) (t 45)),
    a 47 (.fieldAddr 1 (t 46)),
    a 48 (.load none (t 47)),
    a 49 (.bin .sub (t 43) (t 48)),
    a 10 (.mv (t 49))] (some [[], [], [], [1, 2], [3, 1, 2], [4, 3, 1, 2], [0, 5, 4, 3, 1, 2], [], [], [7, 8], [9, 7, 8], [10, 9, 7, 8], [6, 11, 10, 9, 7, 8, 0, 5, 4, 3, 1, 2], [12, 0, 1, 2, 3, 4, 5, 6, 7, 8, 9, 10, 11, 12, 6, 11, 10, 9, 7, 8, 0, 5, 4, 3, 1, 2]]))
  (.region [a 50 (.mv (t 9)),
    a 51 (.mv (t 50)),
    g 52 51 true (.mv (t 6)),
    g 53 51 true (.mv (t 12)),
    g 54 51 true (.idxAddr 3 (t 52) (t 53)),
    g 55 51 true (.fieldAddr 0 (t 54)),
    g 56 51 true (.load none (t 55)),
    g 57 51 true (.mv (t 8)),
    g 58 51 true (.bin .eql (t 56) (t 57)),
    a 59 (.pick (t 51) (t 58) (bo false)),
    a 9 (.mv (t 59))] none)))
  (.region [a 35 (.mv (t 12)),
    a 36 (.bin .add (t 35) (i 1)),
    a 12 (.mv (t 36))] none))))))
 (.seq (.seq (.region [a 13 (.mv (i 0))] none)
 (.block 2 (.loop
  (.seq (.seq (.region [a 60 (.mv (t 13)),
    a 61 (.mv (t 7)),
    a 62 (.len false (t 61)),
    a 63 (.bin .lss (t 60) (t 62))] none)
  (.cond (t 63)
   .skip
   (.exit 2)))
  (.seq (.block 3 (.seq (.region [a 66 (.mv (t 11)),
    a 67 (.mv (t 7)),
    a 68 (.mv (t 13)),
    a 69 (.idxAddr 3 (t 67) (t 68)),
    a 70 (.fieldAddr 2 (t 69)),
    a 71 (.load none (t 70)),
    a 72 (.bin .add (t 66) (t 71)),
    a 73 (.mv (t 7)),
    a 74 (.mv (t 13)),
    a 75 (.idxAddr 3 (t 73) (t 74)),
    a 76 (.fieldAddr 1 (t 75)),
    a 77 (.load none (t 76)),
    a 78 (.bin .sub (t 72) (t 77)),
    a 11 (.mv (t 78))] (some [[], [], [], [1, 2], [3, 1, 2], [4, 3, 1, 2], [0, 5, 4, 3, 1, 2], [], [], [7, 8], [9, 7, 8], [10, 9, 7, 8], [6, 11, 10, 9, 7, 8, 0, 5, 4, 3, 1, 2], [12, 0, 1, 2, 3, 4, 5, 6, 7, 8, 9, 10, 11, 12, 6, 11, 10, 9, 7, 8, 0, 5, 4, 3, 1, 2]]))
  (.region [a 79 (.mv (t 9)),
    a 80 (.mv (t 79)),
    g 81 80 true (.mv (t 7)),
    g 82 80 true (.mv (t 13)),
    g 83 80 true (.idxAddr 3 (t 81) (t 82)),
    g 84 80 true (.fieldAddr 0 (t 83)),
    g 85 80 true (.load none (t 84)),
    g 86 80 true (.mv (t 8)),
    g 87 80 true (.bin .eql (t 85) (t 86)),
    a 88 (.pick (t 80) (t 87) (bo false)),
    a 9 (.mv (t 88))] none)))
  (.region [a 64 (.mv (t 13)),
    a 65 (.bin .add (t 64) (i 1)),
    a 13 (.mv (t 65))] none))))))
 (.seq (.seq (.region [a 89 (.fieldAddr 0 (t 5)),
   a 90 (.load none (t 89)),
   a 91 (.bin .eql (t 90) (i 43))] none)
 (.cond (t 91)
  (.seq (.region [a 92 (.mv (t 6)),
    a 93 (.len false (t 92)),
    a 94 (.mv (t 7)),
    a 95 (.len false (t 94)),
    a 96 (.bin .add (t 93) (t 95)),
    a 97 (.bin .eql (t 96) (i 0)),
    a 4 (.mv (t 97))] none)
  .ret)
  .skip))
 (.seq (.region [a 98 (.fieldAddr 2 (t 5)),
   a 99 (.load none (t 98)),
   a 100 (.build [(.t (.int .i64 0)), (.t (.int .i64 0))] [(0, 1, (t 99)), (1, 1, (i 0))]),
   a 14 (.alloc [(.t (.int .i64 0)), (.t (.int .i64 0))]),
   a_ (.store 2 (t 14) (t 100))] none)
 (.seq (.seq (.region [a 101 (.fieldAddr 0 (t 5)),
   a 102 (.load none (t 101))] none)
 (.block 4 (.seq (.seq (.region [a 104 (.bin .eql (t 102) (i 5)),
   a 103 (.mv (t 104))] none)
 (.cond (t 103)
  .skip
  (.seq (.region [a 105 (.bin .eql (t 102) (i 6)),
    a 103 (.mv (t 105))] none)
  (.cond (t 103)
   .skip
   (.region [a 106 (.bin .eql (t 102) (i 22)),
     a 103 (.mv (t 106))] none)))))
 (.cond (t 103)
  (.region [a 107 (.build [(.t (.int .i64 0)), (.t (.int .i64 0))] [(0, 1, (i 0)), (1, 1, (i 1))]),
    a_ (.store 2 (t 14) (t 107))] none)
  (.seq (.seq (.region [a 109 (.bin .eql (t 102) (i 15)),
    a 108 (.mv (t 109))] none)
  (.cond (t 108)
   .skip
   (.region [a 110 (.bin .eql (t 102) (i 16)),
     a 108 (.mv (t 110))] none)))
  (.cond (t 108)
   (.region [a 111 (.fieldAddr 2 (t 5)),
     a 112 (.load none (t 111)),
     a 113 (.build [(.t (.int .i64 0)), (.t (.int .i64 0))] [(0, 1, (i 0)), (1, 1, (t 112))]),
     a_ (.store 2 (t 14) (t 113))] none)
   (.seq (.region [a 115 (.bin .eql (t 102) (i 23)),
     a 114 (.mv (t 115))] none)
   (.cond (t 114)
    (.region [a 116 (.fieldAddr 9 (t 5)),
      a 117 (.load none (t 116)),
      a 118 (.fieldAddr 2 (t 5)),
      a 119 (.load none (t 118)),
      a 120 (.build [(.t (.int .i64 0)), (.t (.int .i64 0))] [(0, 1, (t 117)), (1, 1, (t 119))]),
      a_ (.store 2 (t 14) (t 120))] none)
    .skip))))))))
 (.seq (.region [a 121 (.mv (t 9)),
   a 122 (.mv (t 121)),
   g 123 122 true (.mv (t 6)),
   g 124 122 true (.len false (t 123)),
   g 125 122 true (.bin .leq (t 124) (i 1)),
   a 126 (.pick (t 122) (t 125) (bo false)),
   a 127 (.mv (t 126)),
   g 128 127 true (.mv (t 7)),
   g 129 127 true (.len false (t 128)),
   g 130 127 true (.bin .leq (t 129) (i 1)),
   a 131 (.pick (t 127) (t 130) (bo false)),
   a 132 (.mv (t 131)),
   g 133 132 true (.load (some 2) (t 14)),
   g 134 132 true (.mv (t 10)),
   g 135 132 true (.mv (t 11)),
   g 136 132 true (.build [(.t (.int .i64 0)), (.t (.int .i64 0))] [(0, 1, (t 134)), (1, 1, (t 135))]),
   g 137 132 true (.eqAgg false [.int, .int] (t 133) (t 136)),
   a 138 (.pick (t 132) (t 137) (bo false)),
   a 139 (.mv (t 138)),
   g 140 139 true (.mv (t 7)),
   g 141 139 true (.len false (t 140)),
   g 142 139 true (.bin .eql (t 141) (i 0)),
   g 143 139 true (.mv (t 142)),
   g 144 143 false (.mv (t 7)),
   g 145 143 false (.idxAddr 3 (t 144) (i 0)),
   g 146 143 false (.fieldAddr 1 (t 145)),
   g 147 143 false (.load none (t 146)),
   g 148 143 false (.fieldAddr 1 (t 5)),
   g 149 143 false (.load none (t 148)),
   g 150 143 false (.bin .eql (t 147) (t 149)),
   g 151 139 true (.pick (t 143) (bo true) (t 150)),
   a 152 (.pick (t 139) (t 151) (bo false)),
   a 153 (.mv (t 152)),
   g 154 153 true (.mv (t 6)),
   g 155 153 true (.len false (t 154)),
   g 156 153 true (.bin .eql (t 155) (i 0)),
   g 157 153 true (.mv (t 156)),
   g 158 157 false (.fieldAddr 0 (t 5)),
   g 159 157 false (.load none (t 158)),
   g 160 157 false (.bin .eql (t 159) (i 23)),
   g 161 153 true (.pick (t 157) (bo true) (t 160)),
   g 162 153 true (.mv (t 161)),
   g 163 162 false (.mv (t 6)),
   g 164 162 false (.idxAddr 3 (t 163) (i 0)),
   g 165 162 false (.fieldAddr 1 (t 164)),
   g 166 162 false (.load none (t 165)),
   g 167 162 false (.fieldAddr 1 (t 5)),
   g 168 162 false (.load none (t 167)),
   g 169 162 false (.bin .eql (t 166) (t 168)),
   g 170 153 true (.pick (t 162) (bo true) (t 169)),
   a 171 (.pick (t 153) (t 170) (bo false)),
   a 4 (.mv (t 171))] (some [[], [0], [1, 0], [2, 1, 1, 0], [3, 1, 2, 1, 1, 0], [1, 4, 3, 1, 2, 1, 1, 0], [5, 1, 1, 4, 3, 1, 2, 1, 1, 0], [6, 5, 1, 1, 4, 3, 1, 2, 1, 1, 0], [7, 6, 6, 5, 1, 1, 4, 3, 1, 2, 1, 1, 0], [8, 6, 7, 6, 6, 5, 1, 1, 4, 3, 1, 2, 1, 1, 0], [6, 9, 8, 6, 7, 6, 6, 5, 1, 1, 4, 3, 1, 2, 1, 1, 0], [10, 6, 6, 9, 8, 6, 7, 6, 6, 5, 1, 1, 4, 3, 1, 2, 1, 1, 0], [11, 10, 6, 6, 9, 8, 6, 7, 6, 6, 5, 1, 1, 4, 3, 1, 2, 1, 1, 0], [11, 10, 6, 6, 9, 8, 6, 7, 6, 6, 5, 1, 1, 4, 3, 1, 2, 1, 1, 0], [11, 10, 6, 6, 9, 8, 6, 7, 6, 6, 5, 1, 1, 4, 3, 1, 2, 1, 1, 0], [13, 14, 11, 11, 11, 10, 6, 6, 9, 8, 6, 7, 6, 6, 5, 1, 1, 4, 3, 1, 2, 1, 1, 0], [12, 15, 11, 13, 14, 11, 11, 11, 11, 10, 6, 6, 9, 8, 6, 7, 6, 6, 5, 1, 1, 4, 3, 1, 2, 1, 1, 0], [11, 16, 12, 15, 11, 13, 14, 11, 11, 11, 11, 10, 6, 6, 9, 8, 6, 7, 6, 6, 5, 1, 1, 4, 3, 1, 2, 1, 1, 0], [17, 11, 11, 16, 12, 15, 11, 13, 14, 11, 11, 11, 11, 10, 6, 6, 9, 8, 6, 7, 6, 6, 5, 1, 1, 4, 3, 1, 2, 1, 1, 0], [18, 17, 11, 11, 16, 12, 15, 11, 13, 14, 11, 11, 11, 11, 10, 6, 6, 9, 8, 6, 7, 6, 6, 5, 1, 1, 4, 3, 1, 2, 1, 1, 0], [19, 18, 18, 17, 11, 11, 16, 12, 15, 11, 13, 14, 11, 11, 11, 11, 10, 6, 6, 9, 8, 6, 7, 6, 6, 5, 1, 1, 4, 3, 1, 2, 1, 1, 0], [20, 18, 19, 18, 18, 17, 11, 11, 16, 12, 15, 11, 13, 14, 11, 11, 11, 11, 10, 6, 6, 9, 8, 6, 7, 6, 6, 5, 1, 1, 4, 3, 1, 2, 1, 1, 0], [21, 18, 18, 20, 18, 19, 18, 18, 17, 11, 11, 16, 12, 15, 11, 13, 14, 11, 11, 11, 11, 10, 6, 6, 9, 8, 6, 7, 6, 6, 5, 1, 1, 4, 3, 1, 2, 1, 1, 0], [22, 21, 18, 18, 20, 18, 19, 18, 18, 17, 11, 11, 16, 12, 15, 11, 13, 14, 11, 11, 11, 11, 10, 6, 6, 9, 8, 6, 7, 6, 6, 5, 1, 1, 4, 3, 1, 2, 1, 1, 0], [23, 22, 22, 21, 18, 18, 20, 18, 19, 18, 18, 17, 11, 11, 16, 12, 15, 11, 13, 14, 11, 11, 11, 11, 10, 6, 6, 9, 8, 6, 7, 6, 6, 5, 1, 1, 4, 3, 1, 2, 1, 1, 0], [24, 22, 23, 22, 22, 21, 18, 18, 20, 18, 19, 18, 18, 17, 11, 11, 16, 12, 15, 11, 13, 14, 11, 11, 11, 11, 10, 6, 6, 9, 8, 6, 7, 6, 6, 5, 1, 1, 4, 3, 1, 2, 1, 1, 0], [25, 22, 24, 22, 23, 22, 22, 21, 18, 18, 20, 18, 19, 18, 18, 17, 11, 11, 16, 12, 15, 11, 13, 14, 11, 11, 11, 11, 10, 6, 6, 9, 8, 6, 7, 6, 6, 5, 1, 1, 4, 3, 1, 2, 1, 1, 0], [22, 21, 18, 18, 20, 18, 19, 18, 18, 17, 11, 11, 16, 12, 15, 11, 13, 14, 11, 11, 11, 11, 10, 6, 6, 9, 8, 6, 7, 6, 6, 5, 1, 1, 4, 3, 1, 2, 1, 1, 0], [27, 22, 22, 21, 18, 18, 20, 18, 19, 18, 18, 17, 11, 11, 16, 12, 15, 11, 13, 14, 11, 11, 11, 11, 10, 6, 6, 9, 8, 6, 7, 6, 6, 5, 1, 1, 4, 3, 1, 2, 1, 1, 0], [26, 28, 22, 27, 22, 22, 25, 22, 24, 22, 23, 22, 22, 21, 18, 18, 20, 18, 19, 18, 18, 17, 11, 11, 16, 12, 15, 11, 13, 14, 11, 11, 11, 11, 10, 6, 6, 9, 8, 6, 7, 6, 6, 5, 1, 1, 4, 3, 1, 2, 1, 1, 0], [22, 29, 18, 26, 28, 22, 27, 22, 22, 25, 22, 24, 22, 23, 22, 22, 21, 18, 18, 20, 18, 19, 18, 18, 17, 11, 11, 16, 12, 15, 11, 13, 14, 11, 11, 11, 11, 10, 6, 6, 9, 8, 6, 7, 6, 6, 5, 1, 1, 4, 3, 1, 2, 1, 1, 0], [18, 30, 22, 29, 18, 26, 28, 22, 27, 22, 22, 25, 22, 24, 22, 23, 22, 22, 21, 18, 18, 20, 18, 19, 18, 18, 17, 11, 11, 16, 12, 15, 11, 13, 14, 11, 11, 11, 11, 10, 6, 6, 9, 8, 6, 7, 6, 6, 5, 1, 1, 4, 3, 1, 2, 1, 1, 0], [31, 22, 18, 30, 22, 29, 18, 26, 28, 22, 27, 22, 22, 25, 22, 24, 22, 23, 22, 22, 21, 18, 18, 20, 18, 19, 18, 18, 17, 11, 11, 16, 12, 15, 11, 13, 14, 11, 11, 11, 11, 10, 6, 6, 9, 8, 6, 7, 6, 6, 5, 1, 1, 4, 3, 1, 2, 1, 1, 0], [32, 31, 22, 18, 30, 22, 29, 18, 26, 28, 22, 27, 22, 22, 25, 22, 24, 22, 23, 22, 22, 21, 18, 18, 20, 18, 19, 18, 18, 17, 11, 11, 16, 12, 15, 11, 13, 14, 11, 11, 11, 11, 10, 6, 6, 9, 8, 6, 7, 6, 6, 5, 1, 1, 4, 3, 1, 2, 1, 1, 0], [33, 32, 32, 31, 22, 18, 30, 22, 29, 18, 26, 28, 22, 27, 22, 22, 25, 22, 24, 22, 23, 22, 22, 21, 18, 18, 20, 18, 19, 18, 18, 17, 11, 11, 16, 12, 15, 11, 13, 14, 11, 11, 11, 11, 10, 6, 6, 9, 8, 6, 7, 6, 6, 5, 1, 1, 4, 3, 1, 2, 1, 1, 0], [34, 32, 33, 32, 32, 31, 22, 18, 30, 22, 29, 18, 26, 28, 22, 27, 22, 22, 25, 22, 24, 22, 23, 22, 22, 21, 18, 18, 20, 18, 19, 18, 18, 17, 11, 11, 16, 12, 15, 11, 13, 14, 11, 11, 11, 11, 10, 6, 6, 9, 8, 6, 7, 6, 6, 5, 1, 1, 4, 3, 1, 2, 1, 1, 0], [35, 32, 32, 34, 32, 33, 32, 32, 31, 22, 18, 30, 22, 29, 18, 26, 28, 22, 27, 22, 22, 25, 22, 24, 22, 23, 22, 22, 21, 18, 18, 20, 18, 19, 18, 18, 17, 11, 11, 16, 12, 15, 11, 13, 14, 11, 11, 11, 11, 10, 6, 6, 9, 8, 6, 7, 6, 6, 5, 1, 1, 4, 3, 1, 2, 1, 1, 0], [36, 35, 32, 32, 34, 32, 33, 32, 32, 31, 22, 18, 30, 22, 29, 18, 26, 28, 22, 27, 22, 22, 25, 22, 24, 22, 23, 22, 22, 21, 18, 18, 20, 18, 19, 18, 18, 17, 11, 11, 16, 12, 15, 11, 13, 14, 11, 11, 11, 11, 10, 6, 6, 9, 8, 6, 7, 6, 6, 5, 1, 1, 4, 3, 1, 2, 1, 1, 0], [37, 36, 36, 35, 32, 32, 34, 32, 33, 32, 32, 31, 22, 18, 30, 22, 29, 18, 26, 28, 22, 27, 22, 22, 25, 22, 24, 22, 23, 22, 22, 21, 18, 18, 20, 18, 19, 18, 18, 17, 11, 11, 16, 12, 15, 11, 13, 14, 11, 11, 11, 11, 10, 6, 6, 9, 8, 6, 7, 6, 6, 5, 1, 1, 4, 3, 1, 2, 1, 1, 0], [38, 36, 37, 36, 36, 35, 32, 32, 34, 32, 33, 32, 32, 31, 22, 18, 30, 22, 29, 18, 26, 28, 22, 27, 22, 22, 25, 22, 24, 22, 23, 22, 22, 21, 18, 18, 20, 18, 19, 18, 18, 17, 11, 11, 16, 12, 15, 11, 13, 14, 11, 11, 11, 11, 10, 6, 6, 9, 8, 6, 7, 6, 6, 5, 1, 1, 4, 3, 1, 2, 1, 1, 0], [36, 39, 32, 38, 36, 37, 36, 36, 35, 32, 32, 34, 32, 33, 32, 32, 31, 22, 18, 30, 22, 29, 18, 26, 28, 22, 27, 22, 22, 25, 22, 24, 22, 23, 22, 22, 21, 18, 18, 20, 18, 19, 18, 18, 17, 11, 11, 16, 12, 15, 11, 13, 14, 11, 11, 11, 11, 10, 6, 6, 9, 8, 6, 7, 6, 6, 5, 1, 1, 4, 3, 1, 2, 1, 1, 0], [40, 36, 32, 36, 39, 32, 38, 36, 37, 36, 36, 35, 32, 32, 34, 32, 33, 32, 32, 31, 22, 18, 30, 22, 29, 18, 26, 28, 22, 27, 22, 22, 25, 22, 24, 22, 23, 22, 22, 21, 18, 18, 20, 18, 19, 18, 18, 17, 11, 11, 16, 12, 15, 11, 13, 14, 11, 11, 11, 11, 10, 6, 6, 9, 8, 6, 7, 6, 6, 5, 1, 1, 4, 3, 1, 2, 1, 1, 0], [41, 40, 36, 32, 36, 39, 32, 38, 36, 37, 36, 36, 35, 32, 32, 34, 32, 33, 32, 32, 31, 22, 18, 30, 22, 29, 18, 26, 28, 22, 27, 22, 22, 25, 22, 24, 22, 23, 22, 22, 21, 18, 18, 20, 18, 19, 18, 18, 17, 11, 11, 16, 12, 15, 11, 13, 14, 11, 11, 11, 11, 10, 6, 6, 9, 8, 6, 7, 6, 6, 5, 1, 1, 4, 3, 1, 2, 1, 1, 0], [42, 41, 41, 40, 36, 32, 36, 39, 32, 38, 36, 37, 36, 36, 35, 32, 32, 34, 32, 33, 32, 32, 31, 22, 18, 30, 22, 29, 18, 26, 28, 22, 27, 22, 22, 25, 22, 24, 22, 23, 22, 22, 21, 18, 18, 20, 18, 19, 18, 18, 17, 11, 11, 16, 12, 15, 11, 13, 14, 11, 11, 11, 11, 10, 6, 6, 9, 8, 6, 7, 6, 6, 5, 1, 1, 4, 3, 1, 2, 1, 1, 0], [43, 41, 42, 41, 41, 40, 36, 32, 36, 39, 32, 38, 36, 37, 36, 36, 35, 32, 32, 34, 32, 33, 32, 32, 31, 22, 18, 30, 22, 29, 18, 26, 28, 22, 27, 22, 22, 25, 22, 24, 22, 23, 22, 22, 21, 18, 18, 20, 18, 19, 18, 18, 17, 11, 11, 16, 12, 15, 11, 13, 14, 11, 11, 11, 11, 10, 6, 6, 9, 8, 6, 7, 6, 6, 5, 1, 1, 4, 3, 1, 2, 1, 1, 0], [44, 41, 43, 41, 42, 41, 41, 40, 36, 32, 36, 39, 32, 38, 36, 37, 36, 36, 35, 32, 32, 34, 32, 33, 32, 32, 31, 22, 18, 30, 22, 29, 18, 26, 28, 22, 27, 22, 22, 25, 22, 24, 22, 23, 22, 22, 21, 18, 18, 20, 18, 19, 18, 18, 17, 11, 11, 16, 12, 15, 11, 13, 14, 11, 11, 11, 11, 10, 6, 6, 9, 8, 6, 7, 6, 6, 5, 1, 1, 4, 3, 1, 2, 1, 1, 0], [41, 40, 36, 32, 36, 39, 32, 38, 36, 37, 36, 36, 35, 32, 32, 34, 32, 33, 32, 32, 31, 22, 18, 30, 22, 29, 18, 26, 28, 22, 27, 22, 22, 25, 22, 24, 22, 23, 22, 22, 21, 18, 18, 20, 18, 19, 18, 18, 17, 11, 11, 16, 12, 15, 11, 13, 14, 11, 11, 11, 11, 10, 6, 6, 9, 8, 6, 7, 6, 6, 5, 1, 1, 4, 3, 1, 2, 1, 1, 0], [46, 41, 41, 40, 36, 32, 36, 39, 32, 38, 36, 37, 36, 36, 35, 32, 32, 34, 32, 33, 32, 32, 31, 22, 18, 30, 22, 29, 18, 26, 28, 22, 27, 22, 22, 25, 22, 24, 22, 23, 22, 22, 21, 18, 18, 20, 18, 19, 18, 18, 17, 11, 11, 16, 12, 15, 11, 13, 14, 11, 11, 11, 11, 10, 6, 6, 9, 8, 6, 7, 6, 6, 5, 1, 1, 4, 3, 1, 2, 1, 1, 0], [45, 47, 41, 46, 41, 41, 44, 41, 43, 41, 42, 41, 41, 40, 36, 32, 36, 39, 32, 38, 36, 37, 36, 36, 35, 32, 32, 34, 32, 33, 32, 32, 31, 22, 18, 30, 22, 29, 18, 26, 28, 22, 27, 22, 22, 25, 22, 24, 22, 23, 22, 22, 21, 18, 18, 20, 18, 19, 18, 18, 17, 11, 11, 16, 12, 15, 11, 13, 14, 11, 11, 11, 11, 10, 6, 6, 9, 8, 6, 7, 6, 6, 5, 1, 1, 4, 3, 1, 2, 1, 1, 0], [41, 48, 32, 45, 47, 41, 46, 41, 41, 44, 41, 43, 41, 42, 41, 41, 40, 36, 32, 36, 39, 32, 38, 36, 37, 36, 36, 35, 32, 32, 34, 32, 33, 32, 32, 31, 22, 18, 30, 22, 29, 18, 26, 28, 22, 27, 22, 22, 25, 22, 24, 22, 23, 22, 22, 21, 18, 18, 20, 18, 19, 18, 18, 17, 11, 11, 16, 12, 15, 11, 13, 14, 11, 11, 11, 11, 10, 6, 6, 9, 8, 6, 7, 6, 6, 5, 1, 1, 4, 3, 1, 2, 1, 1, 0], [32, 49, 41, 48, 32, 45, 47, 41, 46, 41, 41, 44, 41, 43, 41, 42, 41, 41, 40, 36, 32, 36, 39, 32, 38, 36, 37, 36, 36, 35, 32, 32, 34, 32, 33, 32, 32, 31, 22, 18, 30, 22, 29, 18, 26, 28, 22, 27, 22, 22, 25, 22, 24, 22, 23, 22, 22, 21, 18, 18, 20, 18, 19, 18, 18, 17, 11, 11, 16, 12, 15, 11, 13, 14, 11, 11, 11, 11, 10, 6, 6, 9, 8, 6, 7, 6, 6, 5, 1, 1, 4, 3, 1, 2, 1, 1, 0], [50, 41, 0, 1, 2, 3, 4, 5, 6, 7, 8, 9, 10, 11, 12, 13, 14, 15, 16, 17, 18, 19, 20, 21, 22, 23, 24, 25, 26, 27, 28, 29, 30, 31, 32, 33, 34, 35, 36, 37, 38, 39, 40, 41, 42, 43, 44, 45, 46, 47, 48, 49, 50, 32, 49, 41, 48, 32, 45, 47, 41, 46, 41, 41, 44, 41, 43, 41, 42, 41, 41, 40, 36, 32, 36, 39, 32, 38, 36, 37, 36, 36, 35, 32, 32, 34, 32, 33, 32, 32, 31, 22, 18, 30, 22, 29, 18, 26, 28, 22, 27, 22, 22, 25, 22, 24, 22, 23, 22, 22, 21, 18, 18, 20, 18, 19, 18, 18, 17, 11, 11, 16, 12, 15, 11, 13, 14, 11, 11, 11, 11, 10, 6, 6, 9, 8, 6, 7, 6, 6, 5, 1, 1, 4, 3, 1, 2, 1, 1, 0]]))
 .ret)))))))))))), [.tmp 4]⟩
theorem t7 : FnAt Try.prog 7 a7 := .mk Try.func7 (by kernel_rfl) (by kernel_rfl)
/-- busbar/busbarlaw5.AskBack -/
def a9 : AF := ⟨5, 101, (.seq (.region [a 10 (.mv (bo false))] none)
 (.seq (.seq (.region [a 21 (.call 32 []),
   a 22 (.un .not (t 21))] none)
 (.cond (t 22)
  (.seq (.region [a 10 (.mv (bo false))] none)
  .ret)
  .skip))
 (.seq (.region [a 23 (.mv (t 0)),
   a 24 (.mv (t 1)),
   a 25 (.call 38 [(t 23), (t 24)]),
   a 11 (.alloc [(.t (.int .i64 0)), (.t (.int .i64 0)), (.t (.int .i64 0)), (.t (.int .u16 0)), (.t (.int .u16 0)), (.t (.int .u16 0)), (.t .nil), (.t .nil), (.t (.int .i64 0)), (.t (.int .i64 0)), (.t (.int .i64 0)), (.t (.int .i64 0))]),
   a_ (.store 12 (t 11) (t 25))] none)
 (.seq (.region [a 27 (.load (some 12) (t 11)),
   a 28 (.call 44 [(t 27)]),
   a 26 (.mv (t 28)),
   a 29 (.extract (t 26) 0),
   a 30 (.extract (t 26) 1),
   a 12 (.mv (t 29)),
   a 13 (.mv (t 30))] none)
 (.seq (.region [a 32 (.mv (t 12)),
   a 33 (.call 34 [(t 32)]),
   a 31 (.mv (t 33)),
   a 34 (.extract (t 31) 0),
   a 35 (.extract (t 31) 1),
   a 14 (.alloc [(.t (.int .i64 0)), (.t (.int .i64 0)), (.t (.int .i64 0)), (.t (.int .u16 0)), (.t (.int .u16 0)), (.t (.int .u16 0)), (.t .nil), (.t .nil), (.t (.int .i64 0)), (.t (.int .i64 0)), (.t (.int .i64 0)), (.t (.int .i64 0))]),
   a_ (.store 12 (t 14) (t 34)),
   a 15 (.mv (t 35))] none)
 (.seq (.seq (.region [a 36 (.load (some 12) (t 11)),
   a 37 (.call 45 [(t 36)]),
   a 38 (.un .not (t 37)),
   a 39 (.mv (t 38)),
   g 40 39 false (.mv (t 13)),
   g 41 39 false (.bin .neq (t 40) (i 0)),
   a 42 (.pick (t 39) (bo true) (t 41)),
   a 43 (.mv (t 42)),
   g 44 43 false (.mv (t 15)),
   g 45 43 false (.bin .neq (t 44) (i 0)),
   a 46 (.pick (t 43) (bo true) (t 45)),
   a 47 (.mv (t 46)),
   g 48 47 false (.load (some 12) (t 11)),
   g 49 47 false (.load (some 12) (t 14)),
   g 50 47 false (.call 36 [(t 48), (t 49)]),
   g 51 47 false (.un .not (t 50)),
   a 52 (.pick (t 47) (bo true) (t 51))] none)
 (.cond (t 52)
  (.seq (.region [a 10 (.mv (bo false))] none)
  .ret)
  .skip))
 (.seq (.region [a 53 (.mv (t 12)),
   a 54 (.append 1 1 [(.int .u8 0)] (.k (.c (.t .nil))) (t 53)),
   a 16 (.mv (t 54))] none)
 (.seq (.region [a 55 (.mv (t 16)),
   a 56 (.mv (t 2)),
   a 57 (.mv (t 16)),
   a 58 (.len false (t 57)),
   a 59 (.call 22 [(t 56), (t 58)]),
   a 60 (.idxAddr 1 (t 55) (t 59)),
   a 61 (.load none (t 60)),
   a 62 (.mv (t 3)),
   a 63 (.bin .add (t 61) (t 62)),
   a 64 (.idxAddr 1 (t 55) (t 59)),
   a_ (.store 1 (t 64) (t 63))] none)
 (.seq (.region [a 65 (.mv (t 4)),
   a 66 (.mv (t 16)),
   a 67 (.len false (t 66)),
   a 68 (.bin .add (t 67) (i 4)),
   a 69 (.call 22 [(t 65), (t 68)]),
   a 4 (.mv (t 69))] none)
 (.seq (.seq (.region [a 70 (.mv (t 4)),
   a 71 (.mv (t 16)),
   a 72 (.len false (t 71)),
   a 73 (.bin .leq (t 70) (t 72))] none)
 (.cond (t 73)
  (.region [a 74 (.mv (t 16)),
    a 75 (.mv (t 4)),
    a 76 (.slice 1 (t 74) none (some (t 75))),
    a 16 (.mv (t 76))] none)
  (.region [a 77 (.mv (t 16)),
    a 78 (.mv (t 4)),
    a 79 (.mv (t 16)),
    a 80 (.len false (t 79)),
    a 81 (.bin .sub (t 78) (t 80)),
    a 82 (.appendZ 1 1 [(.int .u8 0)] (t 77) (t 81)),
    a 16 (.mv (t 82))] none)))
 (.seq (.region [a 84 (.mv (t 16)),
   a 85 (.call 34 [(t 84)]),
   a 83 (.mv (t 85)),
   a 86 (.extract (t 83) 0),
   a 87 (.extract (t 83) 1),
   a 17 (.alloc [(.t (.int .i64 0)), (.t (.int .i64 0)), (.t (.int .i64 0)), (.t (.int .u16 0)), (.t (.int .u16 0)), (.t (.int .u16 0)), (.t .nil), (.t .nil), (.t (.int .i64 0)), (.t (.int .i64 0)), (.t (.int .i64 0)), (.t (.int .i64 0))]),
   a_ (.store 12 (t 17) (t 86)),
   a 18 (.mv (t 87))] none)
 (.seq (.region [a 89 (.mv (t 16)),
   a 90 (.call 35 [(t 89)]),
   a 88 (.mv (t 90)),
   a 91 (.extract (t 88) 0),
   a 92 (.extract (t 88) 1),
   a 19 (.alloc [(.t (.int .i64 0)), (.t (.int .i64 0)), (.t (.int .i64 0)), (.t (.int .u16 0)), (.t (.int .u16 0)), (.t (.int .u16 0)), (.t .nil), (.t .nil), (.t (.int .i64 0)), (.t (.int .i64 0)), (.t (.int .i64 0)), (.t (.int .i64 0))]),
   a_ (.store 12 (t 19) (t 91)),
   a 20 (.mv (t 92))] none)
 (.seq (.region [a 93 (.mv (t 18)),
   a 94 (.mv (t 20)),
   a 95 (.bin .eql (t 93) (t 94)),
   a 96 (.mv (t 95)),
   g 97 96 true (.load (some 12) (t 17)),
   g 98 96 true (.load (some 12) (t 19)),
   g 99 96 true (.call 36 [(t 97), (t 98)]),
   a 100 (.pick (t 96) (t 99) (bo false)),
   a 10 (.mv (t 100))] none)
 .ret))))))))))))), [.tmp 10]⟩
theorem t9 : FnAt Try.prog 9 a9 := .mk Try.func9 (by kernel_rfl) (by kernel_rfl)
/-- busbar/busbarlaw5.AskCuts -/
def a10 : AF := ⟨3, 66, (.seq (.region [a 6 (.mv (bo false))] none)
 (.seq (.seq (.region [a 16 (.call 32 []),
   a 17 (.un .not (t 16))] none)
 (.cond (t 17)
  (.seq (.region [a 6 (.mv (bo false))] none)
  .ret)
  .skip))
 (.seq (.region [a 19 (.mv (t 0)),
   a 20 (.mv (t 1)),
   a 21 (.call 38 [(t 19), (t 20)]),
   a 22 (.call 44 [(t 21)]),
   a 18 (.mv (t 22)),
   a 23 (.extract (t 18) 0),
   a 24 (.extract (t 18) 1),
   a 7 (.mv (t 23)),
   a 8 (.mv (t 24))] none)
 (.seq (.seq (.region [a 25 (.mv (t 8)),
   a 26 (.bin .neq (t 25) (i 0)),
   a 27 (.mv (t 26)),
   g 28 27 false (.mv (t 7)),
   g 29 27 false (.len false (t 28)),
   g 30 27 false (.bin .lss (t 29) (i 1)),
   a 31 (.pick (t 27) (bo true) (t 30))] none)
 (.cond (t 31)
  (.seq (.region [a 6 (.mv (bo false))] none)
  .ret)
  .skip))
 (.seq (.seq (.region [a 9 (.mv (i 1))] none)
 (.block 0 (.loop
  (.seq (.seq (.region [a 32 (.mv (t 9)),
    a 33 (.mv (t 7)),
    a 34 (.len false (t 33)),
    a 35 (.bin .lss (t 32) (t 34))] none)
  (.cond (t 35)
   .skip
   (.exit 0)))
  (.seq (.block 1 (.seq (.region [a 39 (.mv (t 7)),
    a 40 (.mv (t 9)),
    a 41 (.slice 1 (t 39) none (some (t 40))),
    a 42 (.call 34 [(t 41)]),
    a 38 (.mv (t 42)),
    a 43 (.extract (t 38) 0),
    a 44 (.extract (t 38) 1),
    a 10 (.alloc [(.t (.int .i64 0)), (.t (.int .i64 0)), (.t (.int .i64 0)), (.t (.int .u16 0)), (.t (.int .u16 0)), (.t (.int .u16 0)), (.t .nil), (.t .nil), (.t (.int .i64 0)), (.t (.int .i64 0)), (.t (.int .i64 0)), (.t (.int .i64 0))]),
    a_ (.store 12 (t 10) (t 43)),
    a 11 (.mv (t 44))] none)
  (.seq (.region [a 45 (.mv (t 11)),
    a 46 (.bin .neq (t 45) (i 3))] none)
  (.cond (t 46)
   (.seq (.region [a 6 (.mv (bo false))] none)
   .ret)
   .skip))))
  (.region [a 36 (.mv (t 9)),
    a 37 (.bin .add (t 36) (i 1)),
    a 9 (.mv (t 37))] none))))))
 (.seq (.region [a 48 (.mv (t 7)),
   a 49 (.append 1 1 [(.int .u8 0)] (.k (.c (.t .nil))) (t 48)),
   a 50 (.mv (t 2)),
   a 51 (.mkList false 1 1 [(.int .u8 0)] [(0, (t 50))]),
   a 52 (.append 1 1 [(.int .u8 0)] (t 49) (t 51)),
   a 53 (.call 34 [(t 52)]),
   a 47 (.mv (t 53)),
   a 54 (.extract (t 47) 0),
   a 55 (.extract (t 47) 1),
   a 12 (.alloc [(.t (.int .i64 0)), (.t (.int .i64 0)), (.t (.int .i64 0)), (.t (.int .u16 0)), (.t (.int .u16 0)), (.t (.int .u16 0)), (.t .nil), (.t .nil), (.t (.int .i64 0)), (.t (.int .i64 0)), (.t (.int .i64 0)), (.t (.int .i64 0))]),
   a_ (.store 12 (t 12) (t 54)),
   a 13 (.mv (t 55))] none)
 (.seq (.region [a 57 (.call 34 [(.k (.c (.t .nil)))]),
   a 56 (.mv (t 57)),
   a 58 (.extract (t 56) 0),
   a 59 (.extract (t 56) 1),
   a 14 (.alloc [(.t (.int .i64 0)), (.t (.int .i64 0)), (.t (.int .i64 0)), (.t (.int .u16 0)), (.t (.int .u16 0)), (.t (.int .u16 0)), (.t .nil), (.t .nil), (.t (.int .i64 0)), (.t (.int .i64 0)), (.t (.int .i64 0)), (.t (.int .i64 0))]),
   a_ (.store 12 (t 14) (t 58)),
   a 15 (.mv (t 59))] none)
 (.seq (.region [a 60 (.mv (t 13)),
   a 61 (.bin .eql (t 60) (i 3)),
   a 62 (.mv (t 61)),
   g 63 62 true (.mv (t 15)),
   g 64 62 true (.bin .eql (t 63) (i 1)),
   a 65 (.pick (t 62) (t 64) (bo false)),
   a 6 (.mv (t 65))] none)
 .ret)))))))), [.tmp 6]⟩
theorem t10 : FnAt Try.prog 10 a10 := .mk Try.func10 (by kernel_rfl) (by kernel_rfl)
/-- busbar/busbarlaw5.AskFree -/
def a11 : AF := ⟨3, 94, (.seq (.region [a 6 (.mv (bo false))] none)
 (.seq (.seq (.region [a 14 (.mv (t 0)),
   a 15 (.len false (t 14)),
   a 16 (.bin .lss (t 15) (i 1)),
   a 17 (.mv (t 16)),
   g 18 17 false (.mv (t 0)),
   g 19 17 false (.len false (t 18)),
   g 20 17 false (.bin .gtr (t 19) (i 100)),
   a 21 (.pick (t 17) (bo true) (t 20)),
   a 22 (.mv (t 21)),
   g 23 22 false (.call 32 []),
   g 24 22 false (.un .not (t 23)),
   a 25 (.pick (t 22) (bo true) (t 24))] none)
 (.cond (t 25)
  (.seq (.region [a 26 (.call 32 []),
    a 6 (.mv (t 26))] none)
  .ret)
  .skip))
 (.seq (.region [a 27 (.mv (t 1)),
   a 28 (.call 22 [(t 27), (i 65536)]),
   a 29 (.mv (t 0)),
   a 30 (.len false (t 29)),
   a 31 (.mv (t 0)),
   a 32 (.build [(.t (.int .i64 0)), (.t (.int .i64 0)), (.t (.int .i64 0)), (.t (.int .u16 0)), (.t (.int .u16 0)), (.t (.int .u16 0)), (.t .nil), (.t .nil), (.t (.int .i64 0)), (.t (.int .i64 0)), (.t (.int .i64 0)), (.t (.int .i64 0))] [(0, 1, (i 15)), (1, 1, (t 28)), (2, 1, (t 30)), (6, 1, (t 31))]),
   a 7 (.alloc [(.t (.int .i64 0)), (.t (.int .i64 0)), (.t (.int .i64 0)), (.t (.int .u16 0)), (.t (.int .u16 0)), (.t (.int .u16 0)), (.t .nil), (.t .nil), (.t (.int .i64 0)), (.t (.int .i64 0)), (.t (.int .i64 0)), (.t (.int .i64 0))]),
   a_ (.store 12 (t 7) (t 32))] none)
 (.seq (.region [a 34 (.load (some 12) (t 7)),
   a 35 (.call 44 [(t 34)]),
   a 33 (.mv (t 35)),
   a 36 (.extract (t 33) 0),
   a 37 (.extract (t 33) 1),
   a 8 (.mv (t 36)),
   a 9 (.mv (t 37))] none)
 (.seq (.seq (.region [a 38 (.mv (t 9)),
   a 39 (.bin .neq (t 38) (i 0)),
   a 40 (.mv (t 39)),
   g 41 40 false (.mv (t 8)),
   g 42 40 false (.len false (t 41)),
   g 43 40 false (.bin .lss (t 42) (i 7)),
   a 44 (.pick (t 40) (bo true) (t 43))] none)
 (.cond (t 44)
  (.seq (.region [a 6 (.mv (bo false))] none)
  .ret)
  .skip))
 (.seq (.region [a 45 (.mv (t 8)),
   a 46 (.append 1 1 [(.int .u8 0)] (.k (.c (.t .nil))) (t 45)),
   a 10 (.mv (t 46))] none)
 (.seq (.seq (.region [a 47 (.mv (t 0)),
   a 48 (.len false (t 47)),
   a 49 (.bin .rem (t 48) (i 8)),
   a 11 (.mv (t 49))] none)
 (.block 0 (.loop
  (.seq (.seq (.region [a 50 (.mv (t 11)),
    a 51 (.bin .gtr (t 50) (i 0)),
    a 52 (.mv (t 51)),
    g 53 52 true (.mv (t 11)),
    g 54 52 true (.bin .lss (t 53) (i 8)),
    a 55 (.pick (t 52) (t 54) (bo false))] none)
  (.cond (t 55)
   .skip
   (.exit 0)))
  (.seq (.block 1 (.region [a 58 (.mv (t 10)),
    a 59 (.mv (t 10)),
    a 60 (.len false (t 59)),
    a 61 (.bin .sub (t 60) (i 1)),
    a 62 (.mv (t 10)),
    a 63 (.mv (t 10)),
    a 64 (.len false (t 63)),
    a 65 (.bin .sub (t 64) (i 1)),
    a 66 (.bin .mul (i 8) (t 65)),
    a 67 (.mv (t 11)),
    a 68 (.bin .add (t 66) (t 67)),
    a 69 (.mv (t 2)),
    a 70 (.mv (t 11)),
    a 71 (.conv .u64 (t 70)),
    a 72 (.bin .shr (t 69) (t 71)),
    a 73 (.bin .and (t 72) (.k (.c (.t (.int .u8 1))))),
    a 74 (.bin .eql (t 73) (.k (.c (.t (.int .u8 1))))),
    a 75 (.call 46 [(t 62), (t 68), (t 74)]),
    a 76 (.mv (t 10)),
    a 77 (.len false (t 76)),
    a 78 (.bin .sub (t 77) (i 1)),
    a 79 (.idxAddr 1 (t 75) (t 78)),
    a 80 (.load none (t 79)),
    a 81 (.idxAddr 1 (t 58) (t 61)),
    a_ (.store 1 (t 81) (t 80))] none))
  (.region [a 56 (.mv (t 11)),
    a 57 (.bin .add (t 56) (i 1)),
    a 11 (.mv (t 57))] none))))))
 (.seq (.region [a 83 (.mv (t 10)),
   a 84 (.call 34 [(t 83)]),
   a 82 (.mv (t 84)),
   a 85 (.extract (t 82) 0),
   a 86 (.extract (t 82) 1),
   a 12 (.alloc [(.t (.int .i64 0)), (.t (.int .i64 0)), (.t (.int .i64 0)), (.t (.int .u16 0)), (.t (.int .u16 0)), (.t (.int .u16 0)), (.t .nil), (.t .nil), (.t (.int .i64 0)), (.t (.int .i64 0)), (.t (.int .i64 0)), (.t (.int .i64 0))]),
   a_ (.store 12 (t 12) (t 85)),
   a 13 (.mv (t 86))] none)
 (.seq (.region [a 87 (.mv (t 13)),
   a 88 (.bin .eql (t 87) (i 0)),
   a 89 (.mv (t 88)),
   g 90 89 true (.load (some 12) (t 12)),
   g 91 89 true (.load (some 12) (t 7)),
   g 92 89 true (.call 36 [(t 90), (t 91)]),
   a 93 (.pick (t 89) (t 92) (bo false)),
   a 6 (.mv (t 93))] none)
 .ret))))))))), [.tmp 6]⟩
theorem t11 : FnAt Try.prog 11 a11 := .mk Try.func11 (by kernel_rfl) (by kernel_rfl)
/-- busbar/busbarlaw5.AskBounds -/
def a12 : AF := ⟨4, 133, (.seq (.region [a 8 (.mv (bo false))] none)
 (.seq (.seq (.region [a 20 (.call 32 []),
   a 21 (.un .not (t 20))] none)
 (.cond (t 21)
  (.seq (.region [a 8 (.mv (bo false))] none)
  .ret)
  .skip))
 (.seq (.region [a 22 (.build [(.t (.int .i64 0)), (.t (.int .i64 0)), (.t (.int .i64 0)), (.t (.int .i64 0)), (.t (.int .i64 0)), (.t (.int .i64 0)), (.t (.int .i64 0)), (.t (.int .i64 0))] [(0, 1, (i 1)), (1, 1, (i 2)), (2, 1, (i 3)), (3, 1, (i 4)), (4, 1, (i 15)), (5, 1, (i 16)), (6, 1, (i 23)), (7, 1, (i 23))]),
   a 23 (.mv (t 0)),
   a 24 (.call 22 [(t 23), (i 8)]),
   a 25 (.index 1 8 none (t 22) (t 24)),
   a 9 (.mv (t 25))] none)
 (.seq (.region [a 27 (.mv (t 9)),
   a 28 (.call 47 [(t 27)]),
   a 26 (.mv (t 28)),
   a 29 (.extract (t 26) 0),
   a 30 (.extract (t 26) 1),
   a 10 (.mv (t 29)),
   a 11 (.mv (t 30))] none)
 (.seq (.region [a 31 (.mv (t 11)),
   a 32 (.minmax true (t 31) (i 0)),
   a 12 (.mv (t 32))] none)
 (.seq (.seq (.region [a 33 (.mv (t 9)),
   a 34 (.bin .leq (t 33) (i 4)),
   a 35 (.mv (t 34)),
   g 36 35 false (.mv (t 0)),
   g 37 35 false (.call 22 [(t 36), (i 8)]),
   g 38 35 false (.bin .eql (t 37) (i 7)),
   a 39 (.pick (t 35) (bo true) (t 38))] none)
 (.cond (t 39)
  (.region [a 40 (.mv (t 10)),
    a 12 (.mv (t 40))] none)
  .skip))
 (.seq (.region [a 41 (.mv (t 12)),
   a 42 (.mv (t 12)),
   a 43 (.bin .add (t 42) (i 1)),
   a 44 (.mv (t 2)),
   a 45 (.mv (t 12)),
   a 46 (.call 22 [(t 44), (t 45)]),
   a 47 (.bin .add (i 1) (t 46)),
   a 48 (.build [(.t (.int .i64 0)), (.t (.int .i64 0)), (.t (.int .i64 0)), (.t (.int .i64 0)), (.t (.int .i64 0))] [(0, 1, (i 0)), (1, 1, (i 1)), (2, 1, (t 41)), (3, 1, (t 43)), (4, 1, (t 47))]),
   a 49 (.mv (t 3)),
   a 50 (.call 22 [(t 49), (i 5)]),
   a 51 (.index 1 5 none (t 48) (t 50)),
   a 2 (.mv (t 51))] none)
 (.seq (.region [a 52 (.mv (t 9)),
   a 53 (.mv (t 1)),
   a 54 (.call 22 [(t 53), (i 65536)]),
   a 55 (.mv (t 2)),
   a 56 (.build [(.t (.int .i64 0)), (.t (.int .i64 0)), (.t (.int .i64 0)), (.t (.int .u16 0)), (.t (.int .u16 0)), (.t (.int .u16 0)), (.t .nil), (.t .nil), (.t (.int .i64 0)), (.t (.int .i64 0)), (.t (.int .i64 0)), (.t (.int .i64 0))] [(0, 1, (t 52)), (1, 1, (t 54)), (2, 1, (t 55))]),
   a 13 (.alloc [(.t (.int .i64 0)), (.t (.int .i64 0)), (.t (.int .i64 0)), (.t (.int .u16 0)), (.t (.int .u16 0)), (.t (.int .u16 0)), (.t .nil), (.t .nil), (.t (.int .i64 0)), (.t (.int .i64 0)), (.t (.int .i64 0)), (.t (.int .i64 0))]),
   a_ (.store 12 (t 13) (t 56))] none)
 (.seq (.seq (.region [a 57 (.mv (t 0)),
   a 58 (.call 22 [(t 57), (i 8)])] none)
 (.block 0 (.seq (.region [a 60 (.bin .eql (t 58) (i 4)),
   a 59 (.mv (t 60))] none)
 (.cond (t 59)
  (.region [a 61 (.mv (t 2)),
    a 62 (.mkSlice 1 1 [(.bool false)] (t 61) (t 61)),
    a 63 (.fieldAddr 6 (t 13)),
    a_ (.store 1 (t 63) (t 62))] none)
  (.seq (.region [a 65 (.bin .eql (t 58) (i 5)),
    a 64 (.mv (t 65))] none)
  (.cond (t 64)
   (.region [a 66 (.mv (t 2)),
     a 67 (.mkSlice 1 2 [(.int .u16 0)] (t 66) (t 66)),
     a 68 (.fieldAddr 7 (t 13)),
     a_ (.store 1 (t 68) (t 67))] none)
   (.seq (.region [a 70 (.bin .eql (t 58) (i 6)),
     a 69 (.mv (t 70))] none)
   (.cond (t 69)
    (.region [a 71 (.mv (t 2)),
      a 72 (.mkSlice 1 2 [(.int .u16 0)] (t 71) (t 71)),
      a 73 (.fieldAddr 7 (t 13)),
      a_ (.store 1 (t 73) (t 72)),
      a 74 (.fieldAddr 9 (t 13)),
      a_ (.store 1 (t 74) (i 1))] none)
    (.seq (.region [a 76 (.bin .eql (t 58) (i 7)),
      a 75 (.mv (t 76))] none)
    (.cond (t 75)
     (.region [a 77 (.mkSlice 1 2 [(.int .u16 0)] (i 1) (i 1)),
       a 78 (.mv (t 2)),
       a 79 (.fieldAddr 2 (t 13)),
       a_ (.store 1 (t 79) (i 1)),
       a 80 (.fieldAddr 7 (t 13)),
       a_ (.store 1 (t 80) (t 77)),
       a 81 (.fieldAddr 9 (t 13)),
       a_ (.store 1 (t 81) (t 78))] (some [[], [], [], [2], [0, 2, 3, 2], [4, 0, 3, 0, 2, 3, 0, 2, 3, 2], [0, 1, 2, 3, 4, 5, 4, 0, 3, 0, 2, 3, 0, 2, 3, 2], [6, 1, 5, 0, 1, 2, 3, 4, 5, 0, 1, 2, 3, 4, 5, 4, 0, 3, 0, 2, 3, 0, 2, 3, 2]]))
     .skip))))))))))
 (.seq (.region [a 83 (.load (some 12) (t 13)),
   a 84 (.call 44 [(t 83)]),
   a 82 (.mv (t 84)),
   a 85 (.extract (t 82) 0),
   a 86 (.extract (t 82) 1),
   a 14 (.mv (t 85)),
   a 15 (.mv (t 86))] none)
 (.seq (.region [a 87 (.mv (t 2)),
   a 88 (.bin .geq (t 87) (i 1)),
   a 89 (.mv (t 88)),
   g 90 89 true (.mv (t 2)),
   g 91 89 true (.mv (t 12)),
   g 92 89 true (.bin .leq (t 90) (t 91)),
   a 93 (.pick (t 89) (t 92) (bo false)),
   a 16 (.mv (t 93))] none)
 (.seq (.seq (.region [a 94 (.load (some 12) (t 13)),
   a 95 (.call 45 [(t 94)]),
   a 96 (.mv (t 16)),
   a 97 (.binB true (t 95) (t 96)),
   a 98 (.mv (t 97)),
   g 99 98 false (.mv (t 15)),
   g 100 98 false (.bin .eql (t 99) (i 0)),
   g 101 98 false (.mv (t 16)),
   g 102 98 false (.binB true (t 100) (t 101)),
   a 103 (.pick (t 98) (bo true) (t 102))] none)
 (.cond (t 103)
  (.seq (.region [a 8 (.mv (bo false))] none)
  .ret)
  .skip))
 (.seq (.seq (.region [a 104 (.mv (t 16)),
   a 105 (.un .not (t 104))] none)
 (.cond (t 105)
  (.seq (.region [a 106 (.mv (t 15)),
    a 107 (.bin .eql (t 106) (i 1)),
    a 108 (.mv (t 107)),
    g 109 108 true (.mv (t 14)),
    g 110 108 true (.len false (t 109)),
    g 111 108 true (.bin .eql (t 110) (i 0)),
    a 112 (.pick (t 108) (t 111) (bo false)),
    a 8 (.mv (t 112))] none)
  .ret)
  .skip))
 (.seq (.seq (.region [a 113 (.mv (t 9)),
   a 114 (.bin .lss (t 113) (i 15))] none)
 (.cond (t 114)
  (.seq (.region [a 115 (.mv (t 14)),
    a 116 (.len false (t 115)),
    a 117 (.bin .eql (t 116) (i 5)),
    a 8 (.mv (t 117))] none)
  .ret)
  .skip))
 (.seq (.region [a 17 (.mv (i 5))] none)
 (.seq (.seq (.region [a 118 (.mv (t 9)),
   a 119 (.bin .eql (t 118) (i 23))] none)
 (.cond (t 119)
  (.region [a 17 (.mv (i 9))] none)
  .skip))
 (.seq (.region [a 120 (.mv (t 14)),
   a 121 (.mv (t 17)),
   a 122 (.idxAddr 1 (t 120) (t 121)),
   a 123 (.load none (t 122)),
   a 124 (.bin .add (t 123) (.k (.c (.t (.int .u8 1))))),
   a 125 (.idxAddr 1 (t 120) (t 121)),
   a_ (.store 1 (t 125) (t 124))] none)
 (.seq (.region [a 127 (.mv (t 14)),
   a 128 (.call 34 [(t 127)]),
   a 126 (.mv (t 128)),
   a 129 (.extract (t 126) 0),
   a 130 (.extract (t 126) 1),
   a 18 (.alloc [(.t (.int .i64 0)), (.t (.int .i64 0)), (.t (.int .i64 0)), (.t (.int .u16 0)), (.t (.int .u16 0)), (.t (.int .u16 0)), (.t .nil), (.t .nil), (.t (.int .i64 0)), (.t (.int .i64 0)), (.t (.int .i64 0)), (.t (.int .i64 0))]),
   a_ (.store 12 (t 18) (t 129)),
   a 19 (.mv (t 130))] none)
 (.seq (.region [a 131 (.mv (t 19)),
   a 132 (.bin .eql (t 131) (i 3)),
   a 8 (.mv (t 132))] none)
 .ret))))))))))))))))))), [.tmp 8]⟩
theorem t12 : FnAt Try.prog 12 a12 := .mk Try.func12 (by kernel_rfl) (by kernel_rfl)
/-- busbar/busbarlaw5.AskTells -/
def a13 : AF := ⟨5, 95, (.seq (.region [a 5 (.box (t 0)),
   a 10 (.mv (bo false))] none)
 (.seq (.seq (.region [a 12 (.load (some 12) (t 5)),
   a 13 (.call 48 [(t 12)]),
   a 14 (.un .not (t 13)),
   a 15 (.mv (t 14)),
   g 16 15 false (.call 32 []),
   g 17 15 false (.un .not (t 16)),
   a 18 (.pick (t 15) (bo true) (t 17))] none)
 (.cond (t 18)
  (.seq (.region [a 19 (.call 32 []),
    a 10 (.mv (t 19))] none)
  .ret)
  .skip))
 (.seq (.region [a 20 (.mv (t 1)),
   a 21 (.mv (t 2)),
   a 22 (.call 38 [(t 20), (t 21)]),
   a 11 (.alloc [(.t (.int .i64 0)), (.t (.int .i64 0)), (.t (.int .i64 0)), (.t (.int .u16 0)), (.t (.int .u16 0)), (.t (.int .u16 0)), (.t .nil), (.t .nil), (.t (.int .i64 0)), (.t (.int .i64 0)), (.t (.int .i64 0)), (.t (.int .i64 0))]),
   a_ (.store 12 (t 11) (t 22))] none)
 (.seq (.seq (.region [a 23 (.mv (t 3)),
   a 24 (.call 22 [(t 23), (i 10)])] none)
 (.block 0 (.seq (.region [a 26 (.bin .eql (t 24) (i 0)),
   a 25 (.mv (t 26))] none)
 (.cond (t 25)
  (.region [a 27 (.mv (t 4)),
    a 28 (.fieldAddr 1 (t 11)),
    a_ (.store 1 (t 28) (t 27))] none)
  (.seq (.region [a 30 (.bin .eql (t 24) (i 1)),
    a 29 (.mv (t 30))] none)
  (.cond (t 29)
   (.region [a 31 (.mv (t 4)),
     a 32 (.fieldAddr 2 (t 11)),
     a_ (.store 1 (t 32) (t 31))] none)
   (.seq (.region [a 34 (.bin .eql (t 24) (i 2)),
     a 33 (.mv (t 34))] none)
   (.cond (t 33)
    (.region [a 35 (.mv (t 4)),
      a 36 (.conv .u16 (t 35)),
      a 37 (.fieldAddr 3 (t 11)),
      a_ (.store 1 (t 37) (t 36))] none)
    (.seq (.region [a 39 (.bin .eql (t 24) (i 3)),
      a 38 (.mv (t 39))] none)
    (.cond (t 38)
     (.region [a 40 (.mv (t 4)),
       a 41 (.conv .u16 (t 40)),
       a 42 (.fieldAddr 4 (t 11)),
       a_ (.store 1 (t 42) (t 41))] none)
     (.seq (.region [a 44 (.bin .eql (t 24) (i 4)),
       a 43 (.mv (t 44))] none)
     (.cond (t 43)
      (.region [a 45 (.mv (t 4)),
        a 46 (.conv .u16 (t 45)),
        a 47 (.fieldAddr 5 (t 11)),
        a_ (.store 1 (t 47) (t 46))] none)
      (.seq (.region [a 49 (.bin .eql (t 24) (i 5)),
        a 48 (.mv (t 49))] none)
      (.cond (t 48)
       (.region [a 50 (.fieldAddr 6 (t 11)),
         a 51 (.load none (t 50)),
         a 52 (.mv (t 4)),
         a 53 (.bin .rem (t 52) (i 2)),
         a 54 (.bin .eql (t 53) (i 0)),
         a 55 (.mkList false 1 1 [(.bool false)] [(0, (t 54))]),
         a 56 (.append 1 1 [(.bool false)] (t 51) (t 55)),
         a 57 (.fieldAddr 6 (t 11)),
         a_ (.store 1 (t 57) (t 56))] none)
       (.seq (.region [a 59 (.bin .eql (t 24) (i 6)),
         a 58 (.mv (t 59))] none)
       (.cond (t 58)
        (.region [a 60 (.fieldAddr 7 (t 11)),
          a 61 (.load none (t 60)),
          a 62 (.mv (t 4)),
          a 63 (.conv .u16 (t 62)),
          a 64 (.mkList false 1 1 [(.int .u16 0)] [(0, (t 63))]),
          a 65 (.append 1 2 [(.int .u16 0)] (t 61) (t 64)),
          a 66 (.fieldAddr 7 (t 11)),
          a_ (.store 1 (t 66) (t 65))] none)
        (.seq (.region [a 68 (.bin .eql (t 24) (i 7)),
          a 67 (.mv (t 68))] none)
        (.cond (t 67)
         (.region [a 69 (.mv (t 4)),
           a 70 (.fieldAddr 8 (t 11)),
           a_ (.store 1 (t 70) (t 69))] none)
         (.seq (.region [a 72 (.bin .eql (t 24) (i 8)),
           a 71 (.mv (t 72))] none)
         (.cond (t 71)
          (.region [a 73 (.mv (t 4)),
            a 74 (.fieldAddr 9 (t 11)),
            a_ (.store 1 (t 74) (t 73))] none)
          (.seq (.region [a 76 (.bin .eql (t 24) (i 9)),
            a 75 (.mv (t 76))] none)
          (.cond (t 75)
           (.region [a 77 (.fieldAddr 10 (t 11)),
             a 78 (.load none (t 77)),
             a 79 (.mv (t 4)),
             a 80 (.call 22 [(t 79), (i 2)]),
             a 81 (.bin .add (t 78) (t 80)),
             a 82 (.fieldAddr 11 (t 11)),
             a 83 (.load none (t 82)),
             a 84 (.mv (t 4)),
             a 85 (.call 49 [(t 84), (i 2), (i 2)]),
             a 86 (.bin .add (t 83) (t 85)),
             a 87 (.fieldAddr 10 (t 11)),
             a_ (.store 1 (t 87) (t 81)),
             a 88 (.fieldAddr 11 (t 11)),
             a_ (.store 1 (t 88) (t 86))] (some [[], [0], [], [2], [1, 3, 2, 0], [], [5], [], [7, 3, 2], [6, 8, 7, 3, 5, 2], [0, 1, 2, 3, 4, 5, 6, 5, 1, 3, 2, 0], [10, 4, 8, 0, 1, 2, 3, 4, 5, 6, 0, 1, 2, 3, 4, 5, 6, 7, 3, 5, 1, 3, 2, 0], [0, 1, 2, 3, 4, 5, 6, 7, 8, 9, 10, 11, 10, 4, 8, 0, 1, 2, 3, 4, 5, 6, 0, 1, 2, 3, 4, 5, 6, 6, 8, 7, 3, 5, 1, 3, 2, 0], [12, 9, 11, 0, 1, 2, 3, 4, 5, 6, 7, 8, 9, 10, 11, 0, 1, 2, 3, 4, 5, 6, 7, 8, 9, 10, 11, 10, 4, 8, 0, 1, 2, 3, 4, 5, 6, 0, 1, 2, 3, 4, 5, 6, 6, 8, 7, 3, 5, 1, 3, 2, 0]]))
           .skip))))))))))))))))))))))
 (.seq (.region [a 89 (.load (some 12) (t 5)),
   a 90 (.call 50 [(t 89)]),
   a 91 (.mv (t 90)),
   g 92 91 true (.load (some 12) (t 11)),
   g 93 91 true (.call 50 [(t 92)]),
   a 94 (.pick (t 91) (t 93) (bo false)),
   a 10 (.mv (t 94))] none)
 .ret))))), [.tmp 10]⟩
theorem t13 : FnAt Try.prog 13 a13 := .mk Try.func13 (by kernel_rfl) (by kernel_rfl)
/-- busbar/busbarlaw0.Within -/
def a22 : AF := ⟨2, 14, (.seq (.region [a 4 (.mv (i 0))] none)
 (.seq (.region [a 5 (.mv (t 0)),
   a 6 (.mv (t 1)),
   a 7 (.bin .rem (t 5) (t 6)),
   a 0 (.mv (t 7))] none)
 (.seq (.seq (.region [a 8 (.mv (t 0)),
   a 9 (.bin .lss (t 8) (i 0))] none)
 (.cond (t 9)
  (.region [a 10 (.mv (t 0)),
    a 11 (.mv (t 1)),
    a 12 (.bin .add (t 10) (t 11)),
    a 0 (.mv (t 12))] none)
  .skip))
 (.seq (.region [a 13 (.mv (t 0)),
   a 4 (.mv (t 13))] none)
 .ret)))), [.tmp 4]⟩
theorem t22 : FnAt Try.prog 22 a22 := .mk Try.func22 (by kernel_rfl) (by kernel_rfl)
/-- busbar/busbarlaw5.awake -/
def a32 : AF := ⟨0, 47, (.seq (.region [a 0 (.mv (bo false))] none)
 (.seq (.region [a 8 (.mkList false 1 5 [(.int .u8 0)] [(0, (.k (.c (.t (.int .u8 1))))), (1, (.k (.c (.t (.int .u8 0))))), (2, (.k (.c (.t (.int .u8 19))))), (3, (.k (.c (.t (.int .u8 0))))), (4, (.k (.c (.t (.int .u8 37)))))]),
   a 9 (.call 34 [(t 8)]),
   a 7 (.mv (t 9)),
   a 10 (.extract (t 7) 0),
   a 11 (.extract (t 7) 1),
   a 1 (.alloc [(.t (.int .i64 0)), (.t (.int .i64 0)), (.t (.int .i64 0)), (.t (.int .u16 0)), (.t (.int .u16 0)), (.t (.int .u16 0)), (.t .nil), (.t .nil), (.t (.int .i64 0)), (.t (.int .i64 0)), (.t (.int .i64 0)), (.t (.int .i64 0))]),
   a_ (.store 12 (t 1) (t 10)),
   a 2 (.mv (t 11))] none)
 (.seq (.region [a 13 (.mkList false 1 5 [(.int .u8 0)] [(0, (.k (.c (.t (.int .u8 3))))), (1, (.k (.c (.t (.int .u8 0))))), (2, (.k (.c (.t (.int .u8 0))))), (3, (.k (.c (.t (.int .u8 0))))), (4, (.k (.c (.t (.int .u8 126)))))]),
   a 14 (.call 34 [(t 13)]),
   a 12 (.mv (t 14)),
   a 15 (.extract (t 12) 0),
   a 16 (.extract (t 12) 1),
   a 3 (.alloc [(.t (.int .i64 0)), (.t (.int .i64 0)), (.t (.int .i64 0)), (.t (.int .u16 0)), (.t (.int .u16 0)), (.t (.int .u16 0)), (.t .nil), (.t .nil), (.t (.int .i64 0)), (.t (.int .i64 0)), (.t (.int .i64 0)), (.t (.int .i64 0))]),
   a_ (.store 12 (t 3) (t 15)),
   a 4 (.mv (t 16))] none)
 (.seq (.region [a 18 (.mkList false 1 1 [(.int .u8 0)] [(0, (.k (.c (.t (.int .u8 7)))))]),
   a 19 (.call 34 [(t 18)]),
   a 17 (.mv (t 19)),
   a 20 (.extract (t 17) 0),
   a 21 (.extract (t 17) 1),
   a 5 (.alloc [(.t (.int .i64 0)), (.t (.int .i64 0)), (.t (.int .i64 0)), (.t (.int .u16 0)), (.t (.int .u16 0)), (.t (.int .u16 0)), (.t .nil), (.t .nil), (.t (.int .i64 0)), (.t (.int .i64 0)), (.t (.int .i64 0)), (.t (.int .i64 0))]),
   a_ (.store 12 (t 5) (t 20)),
   a 6 (.mv (t 21))] none)
 (.seq (.region [a 22 (.mv (t 2)),
   a 23 (.bin .eql (t 22) (i 0)),
   a 24 (.mv (t 23)),
   g 25 24 true (.fieldAddr 0 (t 1)),
   g 26 24 true (.load none (t 25)),
   g 27 24 true (.bin .eql (t 26) (i 1)),
   a 28 (.pick (t 24) (t 27) (bo false)),
   a 29 (.mv (t 28)),
   g 30 29 true (.fieldAddr 1 (t 1)),
   g 31 29 true (.load none (t 30)),
   g 32 29 true (.bin .eql (t 31) (i 19)),
   a 33 (.pick (t 29) (t 32) (bo false)),
   a 34 (.mv (t 33)),
   g 35 34 true (.fieldAddr 2 (t 1)),
   g 36 34 true (.load none (t 35)),
   g 37 34 true (.bin .eql (t 36) (i 37)),
   a 38 (.pick (t 34) (t 37) (bo false)),
   a 39 (.mv (t 38)),
   g 40 39 true (.mv (t 4)),
   g 41 39 true (.bin .eql (t 40) (i 3)),
   a 42 (.pick (t 39) (t 41) (bo false)),
   a 43 (.mv (t 42)),
   g 44 43 true (.mv (t 6)),
   g 45 43 true (.bin .eql (t 44) (i 1)),
   a 46 (.pick (t 43) (t 45) (bo false)),
   a 0 (.mv (t 46))] none)
 .ret))))), [.tmp 0]⟩
theorem t32 : FnAt Try.prog 32 a32 := .mk Try.func32 (by kernel_rfl) (by kernel_rfl)
/-- busbar/busbarlaw0.LentBytes -/
def a33 : AF := ⟨1, 27, (.seq (.region [a 2 (.mv (.k (.c (.t .nil))))] none)
 (.seq (.region [a 5 (.mv (t 0)),
   a 6 (.len false (t 5)),
   a 7 (.bin .add (t 6) (i 3)),
   a 8 (.mkSlice 1 1 [(.int .u8 0)] (t 7) (t 7)),
   a 3 (.mv (t 8))] none)
 (.seq (.region [a 9 (.mv (t 3)),
   a 10 (.mv (t 0)),
   a 11 (.copy 1 (t 9) (t 10))] none)
 (.seq (.seq (.region [a 12 (.mv (t 0)),
   a 13 (.len false (t 12)),
   a 4 (.mv (t 13))] none)
 (.block 0 (.loop
  (.seq (.seq (.region [a 14 (.mv (t 4)),
    a 15 (.mv (t 3)),
    a 16 (.len false (t 15)),
    a 17 (.bin .lss (t 14) (t 16))] none)
  (.cond (t 17)
   .skip
   (.exit 0)))
  (.seq (.block 1 (.region [a 20 (.mv (t 3)),
    a 21 (.mv (t 4)),
    a 22 (.idxAddr 1 (t 20) (t 21)),
    a_ (.store 1 (t 22) (.k (.c (.t (.int .u8 165)))))] none))
  (.region [a 18 (.mv (t 4)),
    a 19 (.bin .add (t 18) (i 1)),
    a 4 (.mv (t 19))] none))))))
 (.seq (.region [a 23 (.mv (t 3)),
   a 24 (.mv (t 0)),
   a 25 (.len false (t 24)),
   a 26 (.slice 1 (t 23) none (some (t 25))),
   a 2 (.mv (t 26))] none)
 .ret))))), [.tmp 2]⟩
theorem t33 : FnAt Try.prog 33 a33 := .mk Try.func33 (by kernel_rfl) (by kernel_rfl)
/-- busbar/ask.Parse -/
def a34 : AF := ⟨1, 75, (.seq (.region [a 2 (.alloc [(.t (.int .i64 0)), (.t (.int .i64 0)), (.t (.int .i64 0)), (.t (.int .u16 0)), (.t (.int .u16 0)), (.t (.int .u16 0)), (.t .nil), (.t .nil), (.t (.int .i64 0)), (.t (.int .i64 0)), (.t (.int .i64 0)), (.t (.int .i64 0))]),
   a 3 (.mv (i 0))] none)
 (.seq (.seq (.region [a 7 (.mv (t 0)),
   a 8 (.len false (t 7)),
   a 9 (.bin .eql (t 8) (i 0)),
   a 10 (.mv (t 9)),
   g 11 10 false (.mv (t 0)),
   g 12 10 false (.len false (t 11)),
   g 13 10 false (.bin .gtr (t 12) (i 253)),
   a 14 (.pick (t 10) (bo true) (t 13))] none)
 (.cond (t 14)
  (.seq (.region [a 15 (.build [(.t (.int .i64 0)), (.t (.int .i64 0)), (.t (.int .i64 0)), (.t (.int .u16 0)), (.t (.int .u16 0)), (.t (.int .u16 0)), (.t .nil), (.t .nil), (.t (.int .i64 0)), (.t (.int .i64 0)), (.t (.int .i64 0)), (.t (.int .i64 0))] []),
    a_ (.store 12 (t 2) (t 15)),
    a 3 (.mv (i 1))] none)
  .ret)
  .skip))
 (.seq (.region [a 16 (.mv (t 0)),
   a 17 (.idxAddr 1 (t 16) (i 0)),
   a 18 (.load none (t 17)),
   a 19 (.conv .i64 (t 18)),
   a 20 (.build [(.t (.int .i64 0)), (.t (.int .i64 0)), (.t (.int .i64 0)), (.t (.int .u16 0)), (.t (.int .u16 0)), (.t (.int .u16 0)), (.t .nil), (.t .nil), (.t (.int .i64 0)), (.t (.int .i64 0)), (.t (.int .i64 0)), (.t (.int .i64 0))] [(0, 1, (t 19))]),
   a 4 (.alloc [(.t (.int .i64 0)), (.t (.int .i64 0)), (.t (.int .i64 0)), (.t (.int .u16 0)), (.t (.int .u16 0)), (.t (.int .u16 0)), (.t .nil), (.t .nil), (.t (.int .i64 0)), (.t (.int .i64 0)), (.t (.int .i64 0)), (.t (.int .i64 0))]),
   a_ (.store 12 (t 4) (t 20))] none)
 (.seq (.block 0 (.seq (.region [a 22 (.fieldAddr 0 (t 4)),
   a 23 (.load none (t 22)),
   a 24 (.call 76 [(t 23)]),
   a 25 (.un .not (t 24)),
   a 21 (.mv (t 25))] none)
 (.cond (t 21)
  (.seq (.region [a 26 (.load (some 12) (t 4)),
    a_ (.store 12 (t 2) (t 26)),
    a 3 (.mv (i 1))] none)
  .ret)
  (.seq (.region [a 28 (.fieldAddr 0 (t 4)),
    a 29 (.load none (t 28)),
    a 30 (.bin .eql (t 29) (i 43)),
    a 31 (.mv (t 30)),
    g 32 31 true (.mv (t 0)),
    g 33 31 true (.len false (t 32)),
    g 34 31 true (.bin .lss (t 33) (i 2)),
    a 35 (.pick (t 31) (t 34) (bo false)),
    a 27 (.mv (t 35))] none)
  (.cond (t 27)
   (.seq (.region [a 36 (.load (some 12) (t 4)),
     a_ (.store 12 (t 2) (t 36)),
     a 3 (.mv (i 3))] none)
   .ret)
   (.seq (.region [a 38 (.fieldAddr 0 (t 4)),
     a 39 (.load none (t 38)),
     a 40 (.bin .eql (t 39) (i 43)),
     a 41 (.mv (t 40)),
     g 42 41 true (.mv (t 0)),
     g 43 41 true (.idxAddr 1 (t 42) (i 1)),
     g 44 41 true (.load none (t 43)),
     g 45 41 true (.bin .neq (t 44) (.k (.c (.t (.int .u8 14))))),
     a 46 (.pick (t 41) (t 45) (bo false)),
     a 37 (.mv (t 46))] none)
   (.cond (t 37)
    (.seq (.region [a 47 (.load (some 12) (t 4)),
      a_ (.store 12 (t 2) (t 47)),
      a 3 (.mv (i 1))] none)
    .ret)
    .skip)))))))
 (.seq (.region [a 48 (.mv (t 0)),
   a 49 (.slice 1 (t 48) (some (i 1)) none),
   a 50 (.build [(.t .nil), (.t (.bool false))] [(0, 1, (t 49))]),
   a 51 (.box (t 50)),
   a 5 (.mv (t 51))] none)
 (.seq (.region [a 52 (.mv (t 5)),
   a 53 (.fieldAddr 0 (t 4)),
   a 54 (.load none (t 53)),
   a 55 (.call 77 [(t 52), (t 54)]),
   a 6 (.alloc [(.t (.int .i64 0)), (.t (.int .i64 0)), (.t (.int .i64 0)), (.t (.int .u16 0)), (.t (.int .u16 0)), (.t (.int .u16 0)), (.t .nil), (.t .nil), (.t (.int .i64 0)), (.t (.int .i64 0)), (.t (.int .i64 0)), (.t (.int .i64 0))]),
   a_ (.store 12 (t 6) (t 55))] none)
 (.seq (.seq (.region [a 56 (.mv (t 5)),
   a 57 (.nilCheck (t 56)),
   a 58 (.fieldAddr 1 (t 57)),
   a 59 (.load none (t 58)),
   a 60 (.mv (t 59)),
   g 61 60 false (.mv (t 5)),
   g 62 60 false (.nilCheck (t 61)),
   g 63 60 false (.fieldAddr 0 (t 62)),
   g 64 60 false (.load none (t 63)),
   g 65 60 false (.len false (t 64)),
   g 66 60 false (.bin .gtr (t 65) (i 0)),
   a 67 (.pick (t 60) (bo true) (t 66)),
   a 68 (.mv (t 67)),
   g 69 68 false (.load (some 12) (t 6)),
   g 70 68 false (.call 45 [(t 69)]),
   g 71 68 false (.un .not (t 70)),
   a 72 (.pick (t 68) (bo true) (t 71))] none)
 (.cond (t 72)
  (.seq (.region [a 73 (.load (some 12) (t 4)),
    a_ (.store 12 (t 2) (t 73)),
    a 3 (.mv (i 3))] none)
  .ret)
  .skip))
 (.seq (.region [a 74 (.load (some 12) (t 6)),
   a_ (.store 12 (t 2) (t 74)),
   a 3 (.mv (i 0))] none)
 .ret)))))))), [.cell 2 (some 12), .tmp 3]⟩
theorem t34 : FnAt Try.prog 34 a34 := .mk Try.func34 (by kernel_rfl) (by kernel_rfl)
/-- busbar/busbarref5.Parse -/
def a35 : AF := ⟨1, 54, (.seq (.region [a 2 (.alloc [(.t (.int .i64 0)), (.t (.int .i64 0)), (.t (.int .i64 0)), (.t (.int .u16 0)), (.t (.int .u16 0)), (.t (.int .u16 0)), (.t .nil), (.t .nil), (.t (.int .i64 0)), (.t (.int .i64 0)), (.t (.int .i64 0)), (.t (.int .i64 0))]),
   a 3 (.mv (i 0))] none)
 (.seq (.seq (.region [a 7 (.mv (t 0)),
   a 8 (.len false (t 7)),
   a 9 (.bin .eql (t 8) (i 0)),
   a 10 (.mv (t 9)),
   g 11 10 false (.mv (t 0)),
   g 12 10 false (.len false (t 11)),
   g 13 10 false (.bin .gtr (t 12) (i 253)),
   a 14 (.pick (t 10) (bo true) (t 13))] none)
 (.cond (t 14)
  (.seq (.region [a 15 (.build [(.t (.int .i64 0)), (.t (.int .i64 0)), (.t (.int .i64 0)), (.t (.int .u16 0)), (.t (.int .u16 0)), (.t (.int .u16 0)), (.t .nil), (.t .nil), (.t (.int .i64 0)), (.t (.int .i64 0)), (.t (.int .i64 0)), (.t (.int .i64 0))] []),
    a_ (.store 12 (t 2) (t 15)),
    a 3 (.mv (i 1))] none)
  .ret)
  .skip))
 (.seq (.region [a 16 (.mv (t 0)),
   a 17 (.idxAddr 1 (t 16) (i 0)),
   a 18 (.load none (t 17)),
   a 19 (.conv .i64 (t 18)),
   a 20 (.build [(.t (.int .i64 0)), (.t (.int .i64 0)), (.t (.int .i64 0)), (.t (.int .u16 0)), (.t (.int .u16 0)), (.t (.int .u16 0)), (.t .nil), (.t .nil), (.t (.int .i64 0)), (.t (.int .i64 0)), (.t (.int .i64 0)), (.t (.int .i64 0))] [(0, 1, (t 19))]),
   a 4 (.alloc [(.t (.int .i64 0)), (.t (.int .i64 0)), (.t (.int .i64 0)), (.t (.int .u16 0)), (.t (.int .u16 0)), (.t (.int .u16 0)), (.t .nil), (.t .nil), (.t (.int .i64 0)), (.t (.int .i64 0)), (.t (.int .i64 0)), (.t (.int .i64 0))]),
   a_ (.store 12 (t 4) (t 20))] none)
 (.seq (.seq (.region [a 21 (.fieldAddr 0 (t 4)),
   a 22 (.load none (t 21)),
   a 23 (.call 78 [(t 22)]),
   a 24 (.un .not (t 23))] none)
 (.cond (t 24)
  (.seq (.region [a 25 (.load (some 12) (t 4)),
    a_ (.store 12 (t 2) (t 25)),
    a 3 (.mv (i 1))] none)
  .ret)
  .skip))
 (.seq (.seq (.region [a 26 (.fieldAddr 0 (t 4)),
   a 27 (.load none (t 26)),
   a 28 (.bin .eql (t 27) (i 43)),
   a 29 (.mv (t 28)),
   g 30 29 true (.mv (t 0)),
   g 31 29 true (.len false (t 30)),
   g 32 29 true (.bin .lss (t 31) (i 2)),
   a 33 (.pick (t 29) (t 32) (bo false))] none)
 (.cond (t 33)
  (.seq (.region [a 34 (.load (some 12) (t 4)),
    a_ (.store 12 (t 2) (t 34)),
    a 3 (.mv (i 3))] none)
  .ret)
  .skip))
 (.seq (.seq (.region [a 35 (.fieldAddr 0 (t 4)),
   a 36 (.load none (t 35)),
   a 37 (.bin .eql (t 36) (i 43)),
   a 38 (.mv (t 37)),
   g 39 38 true (.mv (t 0)),
   g 40 38 true (.idxAddr 1 (t 39) (i 1)),
   g 41 38 true (.load none (t 40)),
   g 42 38 true (.bin .neq (t 41) (.k (.c (.t (.int .u8 14))))),
   a 43 (.pick (t 38) (t 42) (bo false))] none)
 (.cond (t 43)
  (.seq (.region [a 44 (.load (some 12) (t 4)),
    a_ (.store 12 (t 2) (t 44)),
    a 3 (.mv (i 1))] none)
  .ret)
  .skip))
 (.seq (.region [a 46 (.mv (t 0)),
   a 47 (.call 79 [(t 46)]),
   a 45 (.mv (t 47)),
   a 48 (.extract (t 45) 0),
   a 49 (.extract (t 45) 1),
   a 5 (.alloc [(.t (.int .i64 0)), (.t (.int .i64 0)), (.t (.int .i64 0)), (.t (.int .u16 0)), (.t (.int .u16 0)), (.t (.int .u16 0)), (.t .nil), (.t .nil), (.t (.int .i64 0)), (.t (.int .i64 0)), (.t (.int .i64 0)), (.t (.int .i64 0))]),
   a_ (.store 12 (t 5) (t 48)),
   a 6 (.mv (t 49))] none)
 (.seq (.seq (.region [a 50 (.mv (t 6)),
   a 51 (.un .not (t 50))] none)
 (.cond (t 51)
  (.seq (.region [a 52 (.load (some 12) (t 4)),
    a_ (.store 12 (t 2) (t 52)),
    a 3 (.mv (i 3))] none)
  .ret)
  .skip))
 (.seq (.region [a 53 (.load (some 12) (t 5)),
   a_ (.store 12 (t 2) (t 53)),
   a 3 (.mv (i 0))] none)
 .ret))))))))), [.cell 2 (some 12), .tmp 3]⟩
theorem t35 : FnAt Try.prog 35 a35 := .mk Try.func35 (by kernel_rfl) (by kernel_rfl)
/-- busbar/busbarref5.SameAsk -/
def a36 : AF := ⟨2, 87, (.seq (.region [a 2 (.box (t 0)),
   a 3 (.box (t 1)),
   a 4 (.mv (bo false))] none)
 (.seq (.region [a 5 (.fieldAddr 0 (t 2)),
   a 6 (.load none (t 5)),
   a 7 (.fieldAddr 0 (t 3)),
   a 8 (.load none (t 7)),
   a 9 (.bin .eql (t 6) (t 8)),
   a 10 (.mv (t 9)),
   g 11 10 true (.fieldAddr 1 (t 2)),
   g 12 10 true (.load none (t 11)),
   g 13 10 true (.fieldAddr 1 (t 3)),
   g 14 10 true (.load none (t 13)),
   g 15 10 true (.bin .eql (t 12) (t 14)),
   a 16 (.pick (t 10) (t 15) (bo false)),
   a 17 (.mv (t 16)),
   g 18 17 true (.fieldAddr 2 (t 2)),
   g 19 17 true (.load none (t 18)),
   g 20 17 true (.fieldAddr 2 (t 3)),
   g 21 17 true (.load none (t 20)),
   g 22 17 true (.bin .eql (t 19) (t 21)),
   a 23 (.pick (t 17) (t 22) (bo false)),
   a 24 (.mv (t 23)),
   g 25 24 true (.fieldAddr 3 (t 2)),
   g 26 24 true (.load none (t 25)),
   g 27 24 true (.fieldAddr 3 (t 3)),
   g 28 24 true (.load none (t 27)),
   g 29 24 true (.bin .eql (t 26) (t 28)),
   a 30 (.pick (t 24) (t 29) (bo false)),
   a 31 (.mv (t 30)),
   g 32 31 true (.fieldAddr 4 (t 2)),
   g 33 31 true (.load none (t 32)),
   g 34 31 true (.fieldAddr 4 (t 3)),
   g 35 31 true (.load none (t 34)),
   g 36 31 true (.bin .eql (t 33) (t 35)),
   a 37 (.pick (t 31) (t 36) (bo false)),
   a 38 (.mv (t 37)),
   g 39 38 true (.fieldAddr 5 (t 2)),
   g 40 38 true (.load none (t 39)),
   g 41 38 true (.fieldAddr 5 (t 3)),
   g 42 38 true (.load none (t 41)),
   g 43 38 true (.bin .eql (t 40) (t 42)),
   a 44 (.pick (t 38) (t 43) (bo false)),
   a 45 (.mv (t 44)),
   g 46 45 true (.fieldAddr 6 (t 2)),
   g 47 45 true (.load none (t 46)),
   g 48 45 true (.fieldAddr 6 (t 3)),
   g 49 45 true (.load none (t 48)),
   g 50 45 true (.call 80 [(t 47), (t 49)]),
   a 51 (.pick (t 45) (t 50) (bo false)),
   a 52 (.mv (t 51)),
   g 53 52 true (.fieldAddr 7 (t 2)),
   g 54 52 true (.load none (t 53)),
   g 55 52 true (.fieldAddr 7 (t 3)),
   g 56 52 true (.load none (t 55)),
   g 57 52 true (.call 81 [(t 54), (t 56)]),
   a 58 (.pick (t 52) (t 57) (bo false)),
   a 59 (.mv (t 58)),
   g 60 59 true (.fieldAddr 8 (t 2)),
   g 61 59 true (.load none (t 60)),
   g 62 59 true (.fieldAddr 8 (t 3)),
   g 63 59 true (.load none (t 62)),
   g 64 59 true (.bin .eql (t 61) (t 63)),
   a 65 (.pick (t 59) (t 64) (bo false)),
   a 66 (.mv (t 65)),
   g 67 66 true (.fieldAddr 9 (t 2)),
   g 68 66 true (.load none (t 67)),
   g 69 66 true (.fieldAddr 9 (t 3)),
   g 70 66 true (.load none (t 69)),
   g 71 66 true (.bin .eql (t 68) (t 70)),
   a 72 (.pick (t 66) (t 71) (bo false)),
   a 73 (.mv (t 72)),
   g 74 73 true (.fieldAddr 10 (t 2)),
   g 75 73 true (.load none (t 74)),
   g 76 73 true (.fieldAddr 10 (t 3)),
   g 77 73 true (.load none (t 76)),
   g 78 73 true (.bin .eql (t 75) (t 77)),
   a 79 (.pick (t 73) (t 78) (bo false)),
   a 80 (.mv (t 79)),
   g 81 80 true (.fieldAddr 11 (t 2)),
   g 82 80 true (.load none (t 81)),
   g 83 80 true (.fieldAddr 11 (t 3)),
   g 84 80 true (.load none (t 83)),
   g 85 80 true (.bin .eql (t 82) (t 84)),
   a 86 (.pick (t 80) (t 85) (bo false)),
   a 4 (.mv (t 86))] none)
 .ret)), [.tmp 4]⟩
theorem t36 : FnAt Try.prog 36 a36 := .mk Try.func36 (by kernel_rfl) (by kernel_rfl)
/-- busbar/busbarlaw0.StaysBytes -/
def a37 : AF := ⟨2, 51, (.seq (.region [a 4 (.mv (bo false))] none)
 (.seq (.seq (.region [a 7 (.mv (t 0)),
   a 8 (.len false (t 7)),
   a 9 (.mv (t 1)),
   a 10 (.len false (t 9)),
   a 11 (.bin .neq (t 8) (t 10))] none)
 (.cond (t 11)
  (.seq (.region [a 4 (.mv (bo false))] none)
  .ret)
  .skip))
 (.seq (.region [a 12 (.mv (t 0)),
   a 13 (.mv (t 1)),
   a 14 (.len false (t 13)),
   a 15 (.bin .add (t 14) (i 3)),
   a 16 (.slice 1 (t 12) none (some (t 15))),
   a 5 (.mv (t 16))] none)
 (.seq (.seq (.region [a 6 (.mv (i 0))] none)
 (.block 0 (.loop
  (.seq (.seq (.region [a 17 (.mv (t 6)),
    a 18 (.mv (t 5)),
    a 19 (.len false (t 18)),
    a 20 (.bin .lss (t 17) (t 19))] none)
  (.cond (t 20)
   .skip
   (.exit 0)))
  (.seq (.block 1 (.seq (.region [a 23 (.mv (t 6)),
    a 24 (.mv (t 1)),
    a 25 (.len false (t 24)),
    a 26 (.bin .lss (t 23) (t 25)),
    a 27 (.mv (t 26)),
    g 28 27 true (.mv (t 5)),
    g 29 27 true (.mv (t 6)),
    g 30 27 true (.idxAddr 1 (t 28) (t 29)),
    g 31 27 true (.load none (t 30)),
    g 32 27 true (.mv (t 1)),
    g 33 27 true (.mv (t 6)),
    g 34 27 true (.idxAddr 1 (t 32) (t 33)),
    g 35 27 true (.load none (t 34)),
    g 36 27 true (.bin .neq (t 31) (t 35)),
    a 37 (.pick (t 27) (t 36) (bo false)),
    a 38 (.mv (t 37)),
    g 39 38 false (.mv (t 6)),
    g 40 38 false (.mv (t 1)),
    g 41 38 false (.len false (t 40)),
    g 42 38 false (.bin .geq (t 39) (t 41)),
    g 43 38 false (.mv (t 42)),
    g 44 43 true (.mv (t 5)),
    g 45 43 true (.mv (t 6)),
    g 46 43 true (.idxAddr 1 (t 44) (t 45)),
    g 47 43 true (.load none (t 46)),
    g 48 43 true (.bin .neq (t 47) (.k (.c (.t (.int .u8 165))))),
    g 49 38 false (.pick (t 43) (t 48) (bo false)),
    a 50 (.pick (t 38) (bo true) (t 49))] (some [[], [], [1], [0, 2, 1], [3, 0, 2, 1], [4, 3, 0, 2, 1], [4, 3, 0, 2, 1], [5, 6, 4, 4, 4, 3, 0, 2, 1], [7, 4, 5, 6, 4, 4, 4, 3, 0, 2, 1], [4, 3, 0, 2, 1], [4, 3, 0, 2, 1], [9, 10, 4, 4, 4, 3, 0, 2, 1], [11, 4, 9, 10, 4, 4, 4, 3, 0, 2, 1], [8, 12, 4, 11, 4, 9, 10, 4, 4, 4, 7, 4, 5, 6, 4, 4, 4, 3, 0, 2, 1], [4, 13, 8, 12, 4, 11, 4, 9, 10, 4, 4, 4, 7, 4, 5, 6, 4, 4, 4, 3, 0, 2, 1], [14, 4, 4, 13, 8, 12, 4, 11, 4, 9, 10, 4, 4, 4, 7, 4, 5, 6, 4, 4, 4, 3, 0, 2, 1], [15, 14, 4, 4, 13, 8, 12, 4, 11, 4, 9, 10, 4, 4, 4, 7, 4, 5, 6, 4, 4, 4, 3, 0, 2, 1], [15, 14, 4, 4, 13, 8, 12, 4, 11, 4, 9, 10, 4, 4, 4, 7, 4, 5, 6, 4, 4, 4, 3, 0, 2, 1], [17, 15, 15, 14, 4, 4, 13, 8, 12, 4, 11, 4, 9, 10, 4, 4, 4, 7, 4, 5, 6, 4, 4, 4, 3, 0, 2, 1], [16, 18, 15, 17, 15, 15, 15, 14, 4, 4, 13, 8, 12, 4, 11, 4, 9, 10, 4, 4, 4, 7, 4, 5, 6, 4, 4, 4, 3, 0, 2, 1], [19, 15, 15, 16, 18, 15, 17, 15, 15, 15, 14, 4, 4, 13, 8, 12, 4, 11, 4, 9, 10, 4, 4, 4, 7, 4, 5, 6, 4, 4, 4, 3, 0, 2, 1], [20, 19, 15, 15, 16, 18, 15, 17, 15, 15, 15, 14, 4, 4, 13, 8, 12, 4, 11, 4, 9, 10, 4, 4, 4, 7, 4, 5, 6, 4, 4, 4, 3, 0, 2, 1], [20, 19, 15, 15, 16, 18, 15, 17, 15, 15, 15, 14, 4, 4, 13, 8, 12, 4, 11, 4, 9, 10, 4, 4, 4, 7, 4, 5, 6, 4, 4, 4, 3, 0, 2, 1], [21, 22, 20, 20, 20, 19, 15, 15, 16, 18, 15, 17, 15, 15, 15, 14, 4, 4, 13, 8, 12, 4, 11, 4, 9, 10, 4, 4, 4, 7, 4, 5, 6, 4, 4, 4, 3, 0, 2, 1], [23, 20, 21, 22, 20, 20, 20, 19, 15, 15, 16, 18, 15, 17, 15, 15, 15, 14, 4, 4, 13, 8, 12, 4, 11, 4, 9, 10, 4, 4, 4, 7, 4, 5, 6, 4, 4, 4, 3, 0, 2, 1], [24, 20, 23, 20, 21, 22, 20, 20, 20, 19, 15, 15, 16, 18, 15, 17, 15, 15, 15, 14, 4, 4, 13, 8, 12, 4, 11, 4, 9, 10, 4, 4, 4, 7, 4, 5, 6, 4, 4, 4, 3, 0, 2, 1], [20, 25, 15, 24, 20, 23, 20, 21, 22, 20, 20, 20, 19, 15, 15, 16, 18, 15, 17, 15, 15, 15, 14, 4, 4, 13, 8, 12, 4, 11, 4, 9, 10, 4, 4, 4, 7, 4, 5, 6, 4, 4, 4, 3, 0, 2, 1], [15, 26, 20, 25, 15, 24, 20, 23, 20, 21, 22, 20, 20, 20, 19, 15, 15, 16, 18, 15, 17, 15, 15, 15, 14, 4, 4, 13, 8, 12, 4, 11, 4, 9, 10, 4, 4, 4, 7, 4, 5, 6, 4, 4, 4, 3, 0, 2, 1]]))
  (.cond (t 50)
   (.seq (.region [a 4 (.mv (bo false))] none)
   .ret)
   .skip)))
  (.region [a 21 (.mv (t 6)),
    a 22 (.bin .add (t 21) (i 1)),
    a 6 (.mv (t 22))] none))))))
 (.seq (.region [a 4 (.mv (bo true))] none)
 .ret))))), [.tmp 4]⟩
theorem t37 : FnAt Try.prog 37 a37 := .mk Try.func37 (by kernel_rfl) (by kernel_rfl)
/-- busbar/busbarlaw0.Ask -/
def a38 : AF := ⟨2, 134, (.seq (.region [a 4 (.alloc [(.t (.int .i64 0)), (.t (.int .i64 0)), (.t (.int .i64 0)), (.t (.int .u16 0)), (.t (.int .u16 0)), (.t (.int .u16 0)), (.t .nil), (.t .nil), (.t (.int .i64 0)), (.t (.int .i64 0)), (.t (.int .i64 0)), (.t (.int .i64 0))])] none)
 (.seq (.region [a 9 (.mv (t 0)),
   a 10 (.call 49 [(t 9), (i 16), (i 40)]),
   a 11 (.mv (t 0)),
   a 12 (.call 49 [(t 11), (i 640), (i 6)]),
   a 13 (.bin .add (i 1) (t 12)),
   a 5 (.mv (t 10)),
   a 6 (.mv (t 13))] none)
 (.seq (.seq (.region [a 14 (.mv (t 0)),
   a 15 (.call 49 [(t 14), (i 3840), (i 12)]),
   a 16 (.bin .eql (t 15) (i 0))] none)
 (.cond (t 16)
  (.region [a 17 (.mv (t 0)),
    a 18 (.call 49 [(t 17), (i 46080), (i 65536)]),
    a 5 (.mv (t 18))] none)
  .skip))
 (.seq (.region [a 19 (.mv (t 5)),
   a 20 (.build [(.t (.int .i64 0)), (.t (.int .i64 0)), (.t (.int .i64 0)), (.t (.int .u16 0)), (.t (.int .u16 0)), (.t (.int .u16 0)), (.t .nil), (.t .nil), (.t (.int .i64 0)), (.t (.int .i64 0)), (.t (.int .i64 0)), (.t (.int .i64 0))] [(1, 1, (t 19))]),
   a 7 (.alloc [(.t (.int .i64 0)), (.t (.int .i64 0)), (.t (.int .i64 0)), (.t (.int .u16 0)), (.t (.int .u16 0)), (.t (.int .u16 0)), (.t .nil), (.t .nil), (.t (.int .i64 0)), (.t (.int .i64 0)), (.t (.int .i64 0)), (.t (.int .i64 0))]),
   a_ (.store 12 (t 7) (t 20))] none)
 (.seq (.seq (.region [a 21 (.mv (t 0)),
   a 22 (.call 22 [(t 21), (i 16)])] none)
 (.block 0 (.seq (.region [a 30 (.bin .eql (t 22) (i 0)),
   a 29 (.mv (t 30))] none)
 (.cond (t 29)
  (.region [a 31 (.mv (t 6)),
    a 32 (.fieldAddr 0 (t 7)),
    a_ (.store 1 (t 32) (i 1)),
    a 33 (.fieldAddr 2 (t 7)),
    a_ (.store 1 (t 33) (t 31))] none)
  (.seq (.region [a 35 (.bin .eql (t 22) (i 1)),
    a 34 (.mv (t 35))] none)
  (.cond (t 34)
   (.region [a 36 (.mv (t 6)),
     a 37 (.fieldAddr 0 (t 7)),
     a_ (.store 1 (t 37) (i 2)),
     a 38 (.fieldAddr 2 (t 7)),
     a_ (.store 1 (t 38) (t 36))] none)
   (.seq (.seq (.region [a 40 (.bin .eql (t 22) (i 2)),
     a 39 (.mv (t 40))] none)
   (.cond (t 39)
    .skip
    (.seq (.region [a 41 (.bin .eql (t 22) (i 3)),
      a 39 (.mv (t 41))] none)
    (.cond (t 39)
     .skip
     (.region [a 42 (.bin .eql (t 22) (i 4)),
       a 39 (.mv (t 42))] none)))))
   (.cond (t 39)
    (.region [a 43 (.mv (t 6)),
      a 44 (.fieldAddr 0 (t 7)),
      a_ (.store 1 (t 44) (i 3)),
      a 45 (.fieldAddr 2 (t 7)),
      a_ (.store 1 (t 45) (t 43))] none)
    (.seq (.region [a 47 (.bin .eql (t 22) (i 5)),
      a 46 (.mv (t 47))] none)
    (.cond (t 46)
     (.region [a 48 (.mv (t 6)),
       a 49 (.fieldAddr 0 (t 7)),
       a_ (.store 1 (t 49) (i 4)),
       a 50 (.fieldAddr 2 (t 7)),
       a_ (.store 1 (t 50) (t 48))] none)
     (.seq (.region [a 52 (.bin .eql (t 22) (i 6)),
       a 51 (.mv (t 52))] none)
     (.cond (t 51)
      (.region [a 53 (.mv (t 1)),
        a 54 (.call 22 [(t 53), (i 2)]),
        a 55 (.conv .u16 (t 54)),
        a 56 (.fieldAddr 0 (t 7)),
        a_ (.store 1 (t 56) (i 5)),
        a 57 (.fieldAddr 3 (t 7)),
        a_ (.store 1 (t 57) (t 55))] none)
      (.seq (.seq (.region [a 59 (.bin .eql (t 22) (i 7)),
        a 58 (.mv (t 59))] none)
      (.cond (t 58)
       .skip
       (.seq (.region [a 60 (.bin .eql (t 22) (i 8)),
         a 58 (.mv (t 60))] none)
       (.cond (t 58)
        .skip
        (.region [a 61 (.bin .eql (t 22) (i 9)),
          a 58 (.mv (t 61))] none)))))
      (.cond (t 58)
       (.region [a 62 (.mv (t 1)),
         a 63 (.call 22 [(t 62), (i 60000)]),
         a 64 (.conv .u16 (t 63)),
         a 65 (.fieldAddr 0 (t 7)),
         a_ (.store 1 (t 65) (i 6)),
         a 66 (.fieldAddr 3 (t 7)),
         a_ (.store 1 (t 66) (t 64))] none)
       (.seq (.region [a 68 (.bin .eql (t 22) (i 10)),
         a 67 (.mv (t 68))] none)
       (.cond (t 67)
        (.seq (.seq (.region [a 69 (.mv (t 1)),
          a 70 (.call 49 [(t 69), (i 64), (i 3)]),
          a 71 (.bin .eql (t 70) (i 0))] none)
        (.cond (t 71)
         (.region [a 72 (.mv (t 0)),
           a 73 (.call 49 [(t 72), (i 16), (i 20)]),
           a 74 (.mv (t 6)),
           a 75 (.bin .add (i 14) (t 74)),
           a 76 (.fieldAddr 1 (t 7)),
           a_ (.store 1 (t 76) (t 73)),
           a 6 (.mv (t 75))] none)
         .skip))
        (.seq (.region [a 77 (.mv (t 6)),
          a 78 (.fieldAddr 0 (t 7)),
          a_ (.store 1 (t 78) (i 15)),
          a 79 (.fieldAddr 2 (t 7)),
          a_ (.store 1 (t 79) (t 77))] none)
        (.seq (.region [a 8 (.mv (i 0))] none)
        (.block 1 (.loop
         (.seq (.seq (.region [a 80 (.mv (t 8)),
           a 81 (.mv (t 6)),
           a 82 (.bin .lss (t 80) (t 81))] none)
         (.cond (t 82)
          .skip
          (.exit 1)))
         (.seq (.block 2 (.region [a 85 (.fieldAddr 6 (t 7)),
           a 86 (.load none (t 85)),
           a 87 (.mv (t 1)),
           a 88 (.mv (t 8)),
           a 89 (.bin .add (i 7) (t 88)),
           a 90 (.call 22 [(t 87), (t 89)]),
           a 91 (.bin .rem (t 90) (i 2)),
           a 92 (.bin .eql (t 91) (i 1)),
           a 93 (.mkList false 1 1 [(.bool false)] [(0, (t 92))]),
           a 94 (.append 1 1 [(.bool false)] (t 86) (t 93)),
           a 95 (.fieldAddr 6 (t 7)),
           a_ (.store 1 (t 95) (t 94))] (some [[], [0], [], [], [3], [2, 4, 3], [5, 2, 4, 3], [6, 5, 2, 4, 3], [7, 6, 5, 2, 4, 3], [1, 8, 5, 7, 6, 5, 2, 4, 3, 0], [0, 1, 2, 3, 4, 5, 6, 7, 8, 9, 1, 8, 5, 7, 6, 5, 2, 4, 3, 0], [10, 9, 9, 0, 1, 2, 3, 4, 5, 6, 7, 8, 9, 0, 1, 2, 3, 4, 5, 6, 7, 8, 9, 1, 8, 5, 7, 6, 5, 2, 4, 3, 0]])))
         (.region [a 83 (.mv (t 8)),
           a 84 (.bin .add (t 83) (i 1)),
           a 8 (.mv (t 84))] none))))))))
        (.seq (.seq (.region [a 97 (.bin .eql (t 22) (i 11)),
          a 96 (.mv (t 97))] none)
        (.cond (t 96)
         .skip
         (.region [a 98 (.bin .eql (t 22) (i 12)),
           a 96 (.mv (t 98))] none)))
        (.cond (t 96)
         (.region [a 99 (.mv (t 6)),
           a 100 (.mv (t 1)),
           a 101 (.mv (t 6)),
           a 102 (.call 82 [(t 100), (t 101)]),
           a 103 (.fieldAddr 0 (t 7)),
           a_ (.store 1 (t 103) (i 16)),
           a 104 (.fieldAddr 2 (t 7)),
           a_ (.store 1 (t 104) (t 99)),
           a 105 (.fieldAddr 7 (t 7)),
           a_ (.store 1 (t 105) (t 102))] none)
         (.seq (.region [a 107 (.bin .eql (t 22) (i 13)),
           a 106 (.mv (t 107))] none)
         (.cond (t 106)
          (.region [a 108 (.mv (t 1)),
            a 109 (.call 22 [(t 108), (i 65536)]),
            a 110 (.conv .u16 (t 109)),
            a 111 (.mv (t 1)),
            a 112 (.call 49 [(t 111), (i 65536), (i 65536)]),
            a 113 (.conv .u16 (t 112)),
            a 114 (.fieldAddr 0 (t 7)),
            a_ (.store 1 (t 114) (i 22)),
            a 115 (.fieldAddr 4 (t 7)),
            a_ (.store 1 (t 115) (t 110)),
            a 116 (.fieldAddr 5 (t 7)),
            a_ (.store 1 (t 116) (t 113))] none)
          (.seq (.region [a 118 (.bin .eql (t 22) (i 14)),
            a 117 (.mv (t 118))] none)
          (.cond (t 117)
           (.region [a 119 (.mv (t 6)),
             a 120 (.mv (t 1)),
             a 121 (.mv (t 6)),
             a 122 (.call 82 [(t 120), (t 121)]),
             a 123 (.mv (t 1)),
             a 124 (.call 22 [(t 123), (i 40)]),
             a 125 (.mv (t 1)),
             a 126 (.call 49 [(t 125), (i 40), (i 6)]),
             a 127 (.bin .add (i 1) (t 126)),
             a 128 (.fieldAddr 0 (t 7)),
             a_ (.store 1 (t 128) (i 23)),
             a 129 (.fieldAddr 2 (t 7)),
             a_ (.store 1 (t 129) (t 119)),
             a 130 (.fieldAddr 7 (t 7)),
             a_ (.store 1 (t 130) (t 122)),
             a 131 (.fieldAddr 8 (t 7)),
             a_ (.store 1 (t 131) (t 124)),
             a 132 (.fieldAddr 9 (t 7)),
             a_ (.store 1 (t 132) (t 127))] none)
           (.seq (.region [a 23 (.mv (t 1)),
             a 24 (.call 22 [(t 23), (i 4)]),
             a 25 (.bin .add (i 1) (t 24)),
             a 26 (.mv (t 1)),
             a 27 (.call 49 [(t 26), (i 4), (i 5)]),
             a 28 (.build [(.t (.int .i64 0)), (.t (.int .i64 0)), (.t (.int .i64 0)), (.t (.int .u16 0)), (.t (.int .u16 0)), (.t (.int .u16 0)), (.t .nil), (.t .nil), (.t (.int .i64 0)), (.t (.int .i64 0)), (.t (.int .i64 0)), (.t (.int .i64 0))] [(0, 1, (i 43)), (10, 1, (t 25)), (11, 1, (t 27))]),
             a_ (.store 12 (t 4) (t 28))] none)
           .ret)))))))))))))))))))))))
 (.seq (.region [a 133 (.load (some 12) (t 7)),
   a_ (.store 12 (t 4) (t 133))] none)
 .ret)))))), [.cell 4 (some 12)]⟩
theorem t38 : FnAt Try.prog 38 a38 := .mk Try.func38 (by kernel_rfl) (by kernel_rfl)
/-- busbar/ask.Spans -/
def a39 : AF := ⟨1, 64, (.seq (.region [a 1 (.box (t 0)),
   a 2 (.mv (.k (.c (.t .nil)))),
   a 3 (.mv (.k (.c (.t .nil))))] none)
 (.seq (.seq (.region [a 7 (.load (some 12) (t 1)),
   a 8 (.call 45 [(t 7)]),
   a 9 (.un .not (t 8))] none)
 (.cond (t 9)
  (.seq (.region [a 2 (.mv (.k (.c (.t .nil)))),
    a 3 (.mv (.k (.c (.t .nil))))] none)
  .ret)
  .skip))
 (.seq (.region [a 11 (.fieldAddr 0 (t 1)),
   a 12 (.load none (t 11)),
   a 13 (.call 83 [(t 12)]),
   a 10 (.mv (t 13)),
   a 14 (.extract (t 10) 0),
   a 15 (.extract (t 10) 1),
   a 4 (.mv (t 14)),
   a 5 (.mv (t 15))] none)
 (.seq (.region [a 16 (.mv (t 4)),
   a 17 (.fieldAddr 1 (t 1)),
   a 18 (.load none (t 17)),
   a 19 (.fieldAddr 1 (t 1)),
   a 20 (.load none (t 19)),
   a 21 (.fieldAddr 2 (t 1)),
   a 22 (.load none (t 21)),
   a 23 (.bin .add (t 20) (t 22)),
   a 24 (.build [(.t (.int .i64 0)), (.t (.int .i64 0)), (.t (.int .i64 0))] [(0, 1, (t 16)), (1, 1, (t 18)), (2, 1, (t 23))]),
   a 25 (.mkList false 3 1 [(.int .i64 0), (.int .i64 0), (.int .i64 0)] [(0, (t 24))]),
   a 6 (.mv (t 25))] none)
 (.seq (.seq (.region [a 26 (.fieldAddr 0 (t 1)),
   a 27 (.load none (t 26))] none)
 (.block 0 (.seq (.block 4 (.seq (.block 3 (.seq (.block 2 (.seq (.block 1 (.seq (.seq (.seq (.seq (.region [a 29 (.bin .eql (t 27) (i 1)),
   a 28 (.mv (t 29))] none)
 (.cond (t 28)
  .skip
  (.seq (.region [a 30 (.bin .eql (t 27) (i 2)),
    a 28 (.mv (t 30))] none)
  (.cond (t 28)
   .skip
   (.seq (.region [a 31 (.bin .eql (t 27) (i 3)),
     a 28 (.mv (t 31))] none)
   (.cond (t 28)
    .skip
    (.region [a 32 (.bin .eql (t 27) (i 4)),
      a 28 (.mv (t 32))] none)))))))
 (.cond (t 28)
  (.exit 1)
  .skip))
 (.seq (.seq (.region [a 34 (.bin .eql (t 27) (i 23)),
   a 33 (.mv (t 34))] none)
 (.cond (t 33)
  (.exit 2)
  .skip))
 (.seq (.seq (.seq (.region [a 36 (.bin .eql (t 27) (i 15)),
   a 35 (.mv (t 36))] none)
 (.cond (t 35)
  .skip
  (.region [a 37 (.bin .eql (t 27) (i 16)),
    a 35 (.mv (t 37))] none)))
 (.cond (t 35)
  (.exit 3)
  .skip))
 (.seq (.seq (.region [a 39 (.bin .eql (t 27) (i 5)),
   a 38 (.mv (t 39))] none)
 (.cond (t 38)
  .skip
  (.seq (.region [a 40 (.bin .eql (t 27) (i 6)),
    a 38 (.mv (t 40))] none)
  (.cond (t 38)
   .skip
   (.region [a 41 (.bin .eql (t 27) (i 22)),
     a 38 (.mv (t 41))] none)))))
 (.cond (t 38)
  (.exit 4)
  .skip)))))
 (.exit 0)))
 (.seq (.seq (.region [a 42 (.mv (t 6)),
   a 2 (.mv (t 42)),
   a 3 (.mv (.k (.c (.t .nil))))] none)
 .ret)
 (.exit 0))))
 (.region [a 43 (.mv (t 4)),
   a 44 (.fieldAddr 8 (t 1)),
   a 45 (.load none (t 44)),
   a 46 (.fieldAddr 8 (t 1)),
   a 47 (.load none (t 46)),
   a 48 (.fieldAddr 9 (t 1)),
   a 49 (.load none (t 48)),
   a 50 (.bin .add (t 47) (t 49)),
   a 51 (.build [(.t (.int .i64 0)), (.t (.int .i64 0)), (.t (.int .i64 0))] [(0, 1, (t 43)), (1, 1, (t 45)), (2, 1, (t 50))]),
   a 52 (.mkList false 3 1 [(.int .i64 0), (.int .i64 0), (.int .i64 0)] [(0, (t 51))]),
   a 2 (.mv (t 52))] none)))
 (.seq (.region [a 53 (.mv (t 6)),
   a 3 (.mv (t 53))] none)
 (.exit 0))))
 (.seq (.region [a 54 (.mv (t 4)),
   a 55 (.fieldAddr 1 (t 1)),
   a 56 (.load none (t 55)),
   a 57 (.fieldAddr 1 (t 1)),
   a 58 (.load none (t 57)),
   a 59 (.bin .add (t 58) (i 1)),
   a 60 (.build [(.t (.int .i64 0)), (.t (.int .i64 0)), (.t (.int .i64 0))] [(0, 1, (t 54)), (1, 1, (t 56)), (2, 1, (t 59))]),
   a 61 (.mkList false 3 1 [(.int .i64 0), (.int .i64 0), (.int .i64 0)] [(0, (t 60))]),
   a 3 (.mv (t 61))] none)
 (.exit 0)))))
 (.seq (.region [a 62 (.mv (t 2)),
   a 63 (.mv (t 3)),
   a 2 (.mv (t 62)),
   a 3 (.mv (t 63))] none)
 .ret)))))), [.tmp 2, .tmp 3]⟩
theorem t39 : FnAt Try.prog 39 a39 := .mk Try.func39 (by kernel_rfl) (by kernel_rfl)
/-- busbar/busbarref1.Table -/
def a40 : AF := ⟨1, 19, (.seq (.region [a 2 (.mv (i 0)),
   a 3 (.mv (bo false))] none)
 (.seq (.seq (.region [a 4 (.mv (t 0))] none)
 (.block 0 (.seq (.seq (.region [a 6 (.bin .eql (t 4) (i 1)),
   a 5 (.mv (t 6))] none)
 (.cond (t 5)
  .skip
  (.seq (.region [a 7 (.bin .eql (t 4) (i 5)),
    a 5 (.mv (t 7))] none)
  (.cond (t 5)
   .skip
   (.region [a 8 (.bin .eql (t 4) (i 15)),
     a 5 (.mv (t 8))] none)))))
 (.cond (t 5)
  (.seq (.region [a 2 (.mv (i 0)),
    a 3 (.mv (bo true))] none)
  .ret)
  (.seq (.region [a 10 (.bin .eql (t 4) (i 2)),
    a 9 (.mv (t 10))] none)
  (.cond (t 9)
   (.seq (.region [a 2 (.mv (i 1)),
     a 3 (.mv (bo true))] none)
   .ret)
   (.seq (.seq (.region [a 12 (.bin .eql (t 4) (i 3)),
     a 11 (.mv (t 12))] none)
   (.cond (t 11)
    .skip
    (.seq (.region [a 13 (.bin .eql (t 4) (i 6)),
      a 11 (.mv (t 13))] none)
    (.cond (t 11)
     .skip
     (.seq (.region [a 14 (.bin .eql (t 4) (i 16)),
       a 11 (.mv (t 14))] none)
     (.cond (t 11)
      .skip
      (.seq (.region [a 15 (.bin .eql (t 4) (i 22)),
        a 11 (.mv (t 15))] none)
      (.cond (t 11)
       .skip
       (.region [a 16 (.bin .eql (t 4) (i 23)),
         a 11 (.mv (t 16))] none)))))))))
   (.cond (t 11)
    (.seq (.region [a 2 (.mv (i 2)),
      a 3 (.mv (bo true))] none)
    .ret)
    (.seq (.region [a 18 (.bin .eql (t 4) (i 4)),
      a 17 (.mv (t 18))] none)
    (.cond (t 17)
     (.seq (.region [a 2 (.mv (i 3)),
       a 3 (.mv (bo true))] none)
     .ret)
     .skip))))))))))
 (.seq (.region [a 2 (.mv (i 0)),
   a 3 (.mv (bo false))] none)
 .ret))), [.tmp 2, .tmp 3]⟩
theorem t40 : FnAt Try.prog 40 a40 := .mk Try.func40 (by kernel_rfl) (by kernel_rfl)
/-- busbar/ask.Bytes -/
def a44 : AF := ⟨1, 117, (.seq (.region [a 1 (.box (t 0)),
   a 2 (.mv (.k (.c (.t .nil)))),
   a 3 (.mv (i 0))] none)
 (.seq (.seq (.region [a 7 (.load (some 12) (t 1)),
   a 8 (.call 45 [(t 7)]),
   a 9 (.un .not (t 8))] none)
 (.cond (t 9)
  (.seq (.region [a 2 (.mv (.k (.c (.t .nil)))),
    a 3 (.mv (i 1))] none)
  .ret)
  .skip))
 (.seq (.region [a 10 (.fieldAddr 0 (t 1)),
   a 11 (.load none (t 10)),
   a 12 (.conv .u8 (t 11)),
   a 13 (.mkList false 1 1 [(.int .u8 0)] [(0, (t 12))]),
   a 4 (.mv (t 13))] none)
 (.seq (.region [a 14 (.fieldAddr 1 (t 1)),
   a 15 (.load none (t 14)),
   a 16 (.conv .u16 (t 15)),
   a 17 (.fieldAddr 2 (t 1)),
   a 18 (.load none (t 17)),
   a 19 (.conv .u16 (t 18)),
   a 5 (.mv (t 16)),
   a 6 (.mv (t 19))] (some [[], [0], [1, 0], [], [3], [4, 3], [2, 0, 1, 2, 1, 0], [5, 6, 0, 1, 2, 3, 4, 5, 6, 2, 0, 1, 2, 4, 3, 1, 0]]))
 (.seq (.seq (.region [a 20 (.fieldAddr 0 (t 1)),
   a 21 (.load none (t 20))] none)
 (.block 0 (.seq (.block 8 (.seq (.block 7 (.seq (.block 6 (.seq (.block 5 (.seq (.block 4 (.seq (.block 3 (.seq (.block 2 (.seq (.block 1 (.seq (.seq (.seq (.seq (.region [a 23 (.bin .eql (t 21) (i 1)),
   a 22 (.mv (t 23))] none)
 (.cond (t 22)
  .skip
  (.seq (.region [a 24 (.bin .eql (t 21) (i 2)),
    a 22 (.mv (t 24))] none)
  (.cond (t 22)
   .skip
   (.seq (.region [a 25 (.bin .eql (t 21) (i 3)),
     a 22 (.mv (t 25))] none)
   (.cond (t 22)
    .skip
    (.region [a 26 (.bin .eql (t 21) (i 4)),
      a 22 (.mv (t 26))] none)))))))
 (.cond (t 22)
  (.exit 1)
  .skip))
 (.seq (.seq (.region [a 28 (.bin .eql (t 21) (i 5)),
   a 27 (.mv (t 28))] none)
 (.cond (t 27)
  (.exit 2)
  .skip))
 (.seq (.seq (.region [a 30 (.bin .eql (t 21) (i 6)),
   a 29 (.mv (t 30))] none)
 (.cond (t 29)
  (.exit 3)
  .skip))
 (.seq (.seq (.region [a 32 (.bin .eql (t 21) (i 15)),
   a 31 (.mv (t 32))] none)
 (.cond (t 31)
  (.exit 4)
  .skip))
 (.seq (.seq (.region [a 34 (.bin .eql (t 21) (i 22)),
   a 33 (.mv (t 34))] none)
 (.cond (t 33)
  (.exit 5)
  .skip))
 (.seq (.seq (.region [a 36 (.bin .eql (t 21) (i 23)),
   a 35 (.mv (t 36))] none)
 (.cond (t 35)
  (.exit 6)
  .skip))
 (.seq (.seq (.region [a 38 (.bin .eql (t 21) (i 16)),
   a 37 (.mv (t 38))] none)
 (.cond (t 37)
  (.exit 7)
  .skip))
 (.seq (.region [a 40 (.bin .eql (t 21) (i 43)),
   a 39 (.mv (t 40))] none)
 (.cond (t 39)
  (.exit 8)
  .skip)))))))))
 (.exit 0)))
 (.seq (.region [a 41 (.mv (t 4)),
   a 42 (.mv (t 5)),
   a 43 (.mv (t 6)),
   a 44 (.mkList false 1 2 [(.int .u16 0)] [(0, (t 42)), (1, (t 43))]),
   a 45 (.call 87 [(t 41), (t 44)]),
   a 4 (.mv (t 45))] none)
 (.exit 0))))
 (.seq (.region [a 46 (.mv (t 4)),
   a 47 (.mv (t 5)),
   a 48 (.fieldAddr 3 (t 1)),
   a 49 (.load none (t 48)),
   a 50 (.bin .mul (t 49) (.k (.c (.t (.int .u16 65280))))),
   a 51 (.mkList false 1 2 [(.int .u16 0)] [(0, (t 47)), (1, (t 50))]),
   a 52 (.call 87 [(t 46), (t 51)]),
   a 4 (.mv (t 52))] none)
 (.exit 0))))
 (.seq (.region [a 53 (.mv (t 4)),
   a 54 (.mv (t 5)),
   a 55 (.fieldAddr 3 (t 1)),
   a 56 (.load none (t 55)),
   a 57 (.mkList false 1 2 [(.int .u16 0)] [(0, (t 54)), (1, (t 56))]),
   a 58 (.call 87 [(t 53), (t 57)]),
   a 4 (.mv (t 58))] none)
 (.exit 0))))
 (.seq (.seq (.region [a 59 (.mv (t 4)),
   a 60 (.mv (t 5)),
   a 61 (.mv (t 6)),
   a 62 (.mkList false 1 2 [(.int .u16 0)] [(0, (t 60)), (1, (t 61))]),
   a 63 (.call 87 [(t 59), (t 62)]),
   a 64 (.fieldAddr 2 (t 1)),
   a 65 (.load none (t 64)),
   a 66 (.call 88 [(t 65)]),
   a 67 (.conv .u8 (t 66)),
   a 68 (.mkList false 1 1 [(.int .u8 0)] [(0, (t 67))]),
   a 69 (.append 1 1 [(.int .u8 0)] (t 63) (t 68)),
   a 4 (.mv (t 69))] (some [[], [], [], [1, 2], [0, 3, 1, 2], [], [5], [6, 4, 5, 0, 3, 1, 2], [7, 6, 4, 5, 0, 3, 1, 2], [8, 7, 6, 4, 5, 0, 3, 1, 2], [4, 9, 7, 8, 7, 6, 4, 5, 0, 3, 1, 2], [10, 10, 0, 1, 2, 3, 4, 5, 6, 7, 8, 9, 10, 4, 9, 7, 8, 7, 6, 4, 5, 0, 3, 1, 2]]))
 (.region [a 70 (.mv (t 4)),
   a 71 (.fieldAddr 6 (t 1)),
   a 72 (.load none (t 71)),
   a 73 (.call 84 [(t 72)]),
   a 74 (.append 1 1 [(.int .u8 0)] (t 70) (t 73)),
   a 4 (.mv (t 74))] none))
 (.exit 0))))
 (.seq (.region [a 75 (.mv (t 4)),
   a 76 (.mv (t 5)),
   a 77 (.fieldAddr 4 (t 1)),
   a 78 (.load none (t 77)),
   a 79 (.fieldAddr 5 (t 1)),
   a 80 (.load none (t 79)),
   a 81 (.mkList false 1 3 [(.int .u16 0)] [(0, (t 76)), (1, (t 78)), (2, (t 80))]),
   a 82 (.call 87 [(t 75), (t 81)]),
   a 4 (.mv (t 82))] none)
 (.exit 0))))
 (.region [a 83 (.mv (t 4)),
   a 84 (.fieldAddr 8 (t 1)),
   a 85 (.load none (t 84)),
   a 86 (.conv .u16 (t 85)),
   a 87 (.fieldAddr 9 (t 1)),
   a 88 (.load none (t 87)),
   a 89 (.conv .u16 (t 88)),
   a 90 (.mkList false 1 2 [(.int .u16 0)] [(0, (t 86)), (1, (t 89))]),
   a 91 (.call 87 [(t 83), (t 90)]),
   a 4 (.mv (t 91))] none)))
 (.seq (.seq (.region [a 92 (.mv (t 4)),
   a 93 (.mv (t 5)),
   a 94 (.mv (t 6)),
   a 95 (.mkList false 1 2 [(.int .u16 0)] [(0, (t 93)), (1, (t 94))]),
   a 96 (.call 87 [(t 92), (t 95)]),
   a 97 (.fieldAddr 2 (t 1)),
   a 98 (.load none (t 97)),
   a 99 (.bin .mul (i 2) (t 98)),
   a 100 (.conv .u8 (t 99)),
   a 101 (.mkList false 1 1 [(.int .u8 0)] [(0, (t 100))]),
   a 102 (.append 1 1 [(.int .u8 0)] (t 96) (t 101)),
   a 4 (.mv (t 102))] (some [[], [], [], [1, 2], [0, 3, 1, 2], [], [5], [6, 5], [7, 6, 5], [8, 7, 6, 5], [4, 9, 4, 8, 7, 6, 5, 0, 3, 1, 2], [10, 10, 0, 1, 2, 3, 4, 5, 6, 7, 8, 9, 10, 4, 9, 4, 8, 7, 6, 5, 0, 3, 1, 2]]))
 (.region [a 103 (.mv (t 4)),
   a 104 (.fieldAddr 7 (t 1)),
   a 105 (.load none (t 104)),
   a 106 (.call 87 [(t 103), (t 105)]),
   a 4 (.mv (t 106))] none))
 (.exit 0))))
 (.seq (.region [a 107 (.mv (t 4)),
   a 108 (.fieldAddr 10 (t 1)),
   a 109 (.load none (t 108)),
   a 110 (.conv .u8 (t 109)),
   a 111 (.fieldAddr 11 (t 1)),
   a 112 (.load none (t 111)),
   a 113 (.conv .u8 (t 112)),
   a 114 (.mkList false 1 3 [(.int .u8 0)] [(0, (.k (.c (.t (.int .u8 14))))), (1, (t 110)), (2, (t 113))]),
   a 115 (.append 1 1 [(.int .u8 0)] (t 107) (t 114)),
   a 4 (.mv (t 115))] none)
 (.exit 0)))))
 (.seq (.region [a 116 (.mv (t 4)),
   a 2 (.mv (t 116)),
   a 3 (.mv (i 0))] none)
 .ret)))))), [.tmp 2, .tmp 3]⟩
theorem t44 : FnAt Try.prog 44 a44 := .mk Try.func44 (by kernel_rfl) (by kernel_rfl)
/-- busbar/ask.Right -/
def a45 : AF := ⟨1, 101, (.seq (.region [a 1 (.box (t 0)),
   a 2 (.mv (bo false))] none)
 (.seq (.seq (.region [a 5 (.fieldAddr 0 (t 1)),
   a 6 (.load none (t 5)),
   a 7 (.call 76 [(t 6)]),
   a 8 (.un .not (t 7)),
   a 9 (.mv (t 8)),
   g 10 9 false (.load (some 12) (t 1)),
   g 11 9 false (.call 89 [(t 10)]),
   g 12 9 false (.load (some 12) (t 1)),
   g 13 9 false (.call 90 [(t 12)]),
   g 14 9 false (.call 89 [(t 13)]),
   g 15 9 false (.eqAgg true [.int, .int, .int, .int, .int, .int, .int, .int, .int, .int, .int] (t 11) (t 14)),
   a 16 (.pick (t 9) (bo true) (t 15)),
   a 17 (.mv (t 16)),
   g 18 17 false (.fieldAddr 1 (t 1)),
   g 19 17 false (.load none (t 18)),
   g 20 17 false (.call 91 [(t 19)]),
   g 21 17 false (.un .not (t 20)),
   a 22 (.pick (t 17) (bo true) (t 21)),
   a 23 (.mv (t 22)),
   g 24 23 false (.fieldAddr 8 (t 1)),
   g 25 23 false (.load none (t 24)),
   g 26 23 false (.call 91 [(t 25)]),
   g 27 23 false (.un .not (t 26)),
   a 28 (.pick (t 23) (bo true) (t 27))] (some [[], [0], [1, 0], [2, 1, 0], [3, 2, 2, 1, 0], [4, 3, 2, 2, 1, 0], [5, 4, 4, 4, 3, 2, 2, 1, 0], [4, 3, 2, 2, 1, 0], [7, 6, 4, 4, 5, 4, 4, 4, 3, 2, 2, 1, 0], [8, 8, 4, 7, 6, 4, 4, 5, 4, 4, 4, 3, 2, 2, 1, 0], [6, 9, 4, 8, 8, 4, 7, 6, 4, 4, 5, 4, 4, 4, 3, 2, 2, 1, 0], [4, 10, 6, 9, 4, 8, 8, 4, 7, 6, 4, 4, 5, 4, 4, 4, 3, 2, 2, 1, 0], [11, 9, 4, 10, 6, 9, 4, 8, 8, 4, 7, 6, 4, 4, 5, 4, 4, 4, 3, 2, 2, 1, 0], [12, 11, 9, 4, 10, 6, 9, 4, 8, 8, 4, 7, 6, 4, 4, 5, 4, 4, 4, 3, 2, 2, 1, 0], [13, 12, 12, 11, 9, 4, 10, 6, 9, 4, 8, 8, 4, 7, 6, 4, 4, 5, 4, 4, 4, 3, 2, 2, 1, 0], [14, 12, 12, 13, 12, 12, 11, 9, 4, 10, 6, 9, 4, 8, 8, 4, 7, 6, 4, 4, 5, 4, 4, 4, 3, 2, 2, 1, 0], [15, 12, 14, 12, 12, 13, 12, 12, 11, 9, 4, 10, 6, 9, 4, 8, 8, 4, 7, 6, 4, 4, 5, 4, 4, 4, 3, 2, 2, 1, 0], [12, 16, 15, 12, 14, 12, 12, 13, 12, 12, 11, 9, 4, 10, 6, 9, 4, 8, 8, 4, 7, 6, 4, 4, 5, 4, 4, 4, 3, 2, 2, 1, 0], [17, 15, 12, 16, 15, 12, 14, 12, 12, 13, 12, 12, 11, 9, 4, 10, 6, 9, 4, 8, 8, 4, 7, 6, 4, 4, 5, 4, 4, 4, 3, 2, 2, 1, 0], [18, 17, 15, 12, 16, 15, 12, 14, 12, 12, 13, 12, 12, 11, 9, 4, 10, 6, 9, 4, 8, 8, 4, 7, 6, 4, 4, 5, 4, 4, 4, 3, 2, 2, 1, 0], [19, 18, 18, 17, 15, 12, 16, 15, 12, 14, 12, 12, 13, 12, 12, 11, 9, 4, 10, 6, 9, 4, 8, 8, 4, 7, 6, 4, 4, 5, 4, 4, 4, 3, 2, 2, 1, 0], [20, 18, 18, 19, 18, 18, 17, 15, 12, 16, 15, 12, 14, 12, 12, 13, 12, 12, 11, 9, 4, 10, 6, 9, 4, 8, 8, 4, 7, 6, 4, 4, 5, 4, 4, 4, 3, 2, 2, 1, 0], [21, 18, 20, 18, 18, 19, 18, 18, 17, 15, 12, 16, 15, 12, 14, 12, 12, 13, 12, 12, 11, 9, 4, 10, 6, 9, 4, 8, 8, 4, 7, 6, 4, 4, 5, 4, 4, 4, 3, 2, 2, 1, 0], [18, 22, 21, 18, 20, 18, 18, 19, 18, 18, 17, 15, 12, 16, 15, 12, 14, 12, 12, 13, 12, 12, 11, 9, 4, 10, 6, 9, 4, 8, 8, 4, 7, 6, 4, 4, 5, 4, 4, 4, 3, 2, 2, 1, 0]]))
 (.cond (t 28)
  (.seq (.region [a 2 (.mv (bo false))] none)
  .ret)
  .skip))
 (.seq (.region [a 30 (.fieldAddr 0 (t 1)),
   a 31 (.load none (t 30)),
   a 32 (.call 92 [(t 31)]),
   a 29 (.mv (t 32)),
   a 33 (.extract (t 29) 0),
   a 34 (.extract (t 29) 1),
   a 3 (.mv (t 33)),
   a 4 (.mv (t 34))] none)
 (.seq (.seq (.region [a 35 (.fieldAddr 0 (t 1)),
   a 36 (.load none (t 35))] none)
 (.block 0 (.seq (.block 6 (.seq (.block 5 (.seq (.block 4 (.seq (.block 3 (.seq (.block 2 (.seq (.block 1 (.seq (.seq (.seq (.seq (.region [a 38 (.bin .eql (t 36) (i 1)),
   a 37 (.mv (t 38))] none)
 (.cond (t 37)
  .skip
  (.seq (.region [a 39 (.bin .eql (t 36) (i 2)),
    a 37 (.mv (t 39))] none)
  (.cond (t 37)
   .skip
   (.seq (.region [a 40 (.bin .eql (t 36) (i 3)),
     a 37 (.mv (t 40))] none)
   (.cond (t 37)
    .skip
    (.region [a 41 (.bin .eql (t 36) (i 4)),
      a 37 (.mv (t 41))] none)))))))
 (.cond (t 37)
  (.exit 1)
  .skip))
 (.seq (.seq (.region [a 43 (.bin .eql (t 36) (i 5)),
   a 42 (.mv (t 43))] none)
 (.cond (t 42)
  (.exit 2)
  .skip))
 (.seq (.seq (.region [a 45 (.bin .eql (t 36) (i 15)),
   a 44 (.mv (t 45))] none)
 (.cond (t 44)
  (.exit 3)
  .skip))
 (.seq (.seq (.region [a 47 (.bin .eql (t 36) (i 23)),
   a 46 (.mv (t 47))] none)
 (.cond (t 46)
  (.exit 4)
  .skip))
 (.seq (.seq (.region [a 49 (.bin .eql (t 36) (i 16)),
   a 48 (.mv (t 49))] none)
 (.cond (t 48)
  (.exit 5)
  .skip))
 (.seq (.region [a 51 (.bin .eql (t 36) (i 43)),
   a 50 (.mv (t 51))] none)
 (.cond (t 50)
  (.exit 6)
  .skip)))))))
 (.exit 0)))
 (.seq (.seq (.region [a 52 (.fieldAddr 2 (t 1)),
   a 53 (.load none (t 52)),
   a 54 (.mv (t 3)),
   a 55 (.call 93 [(t 53), (t 54)]),
   a 2 (.mv (t 55))] none)
 .ret)
 (.exit 0))))
 (.seq (.seq (.region [a 56 (.fieldAddr 3 (t 1)),
   a 57 (.load none (t 56)),
   a 58 (.bin .leq (t 57) (.k (.c (.t (.int .u16 1))))),
   a 2 (.mv (t 58))] none)
 .ret)
 (.exit 0))))
 (.seq (.seq (.region [a 59 (.fieldAddr 2 (t 1)),
   a 60 (.load none (t 59)),
   a 61 (.mv (t 4)),
   a 62 (.call 93 [(t 60), (t 61)]),
   a 63 (.mv (t 62)),
   g 64 63 true (.fieldAddr 6 (t 1)),
   g 65 63 true (.load none (t 64)),
   g 66 63 true (.len false (t 65)),
   g 67 63 true (.fieldAddr 2 (t 1)),
   g 68 63 true (.load none (t 67)),
   g 69 63 true (.bin .eql (t 66) (t 68)),
   a 70 (.pick (t 63) (t 69) (bo false)),
   a 2 (.mv (t 70))] none)
 .ret)
 (.exit 0))))
 (.seq (.region [a 71 (.fieldAddr 9 (t 1)),
   a 72 (.load none (t 71)),
   a 73 (.mv (t 3)),
   a 74 (.call 93 [(t 72), (t 73)]),
   a 75 (.un .not (t 74))] none)
 (.cond (t 75)
  (.seq (.region [a 2 (.mv (bo false))] none)
  .ret)
  .skip))))
 (.seq (.seq (.region [a 76 (.fieldAddr 2 (t 1)),
   a 77 (.load none (t 76)),
   a 78 (.mv (t 4)),
   a 79 (.call 93 [(t 77), (t 78)]),
   a 80 (.mv (t 79)),
   g 81 80 true (.fieldAddr 7 (t 1)),
   g 82 80 true (.load none (t 81)),
   g 83 80 true (.len false (t 82)),
   g 84 80 true (.fieldAddr 2 (t 1)),
   g 85 80 true (.load none (t 84)),
   g 86 80 true (.bin .eql (t 83) (t 85)),
   a 87 (.pick (t 80) (t 86) (bo false)),
   a 2 (.mv (t 87))] none)
 .ret)
 (.exit 0))))
 (.seq (.seq (.region [a 88 (.fieldAddr 10 (t 1)),
   a 89 (.load none (t 88)),
   a 90 (.call 93 [(t 89), (i 4)]),
   a 91 (.mv (t 90)),
   g 92 91 true (.fieldAddr 11 (t 1)),
   g 93 91 true (.load none (t 92)),
   g 94 91 true (.bin .geq (t 93) (i 0)),
   a 95 (.pick (t 91) (t 94) (bo false)),
   a 96 (.mv (t 95)),
   g 97 96 true (.fieldAddr 11 (t 1)),
   g 98 96 true (.load none (t 97)),
   g 99 96 true (.bin .leq (t 98) (i 255)),
   a 100 (.pick (t 96) (t 99) (bo false)),
   a 2 (.mv (t 100))] none)
 .ret)
 (.exit 0)))))
 (.seq (.region [a 2 (.mv (bo true))] none)
 .ret))))), [.tmp 2]⟩
theorem t45 : FnAt Try.prog 45 a45 := .mk Try.func45 (by kernel_rfl) (by kernel_rfl)
/-- busbar/busbarref1.Set -/
def a46 : AF := ⟨3, 49, (.seq (.region [a 6 (.mv (.k (.c (.t .nil))))] none)
 (.seq (.region [a 8 (.mv (t 0)),
   a 9 (.append 1 1 [(.int .u8 0)] (.k (.c (.t .nil))) (t 8)),
   a 7 (.mv (t 9))] none)
 (.seq (.seq (.region [a 10 (.mv (t 1)),
   a 11 (.bin .lss (t 10) (i 0)),
   a 12 (.mv (t 11)),
   g 13 12 false (.mv (t 1)),
   g 14 12 false (.bin .quo (t 13) (i 8)),
   g 15 12 false (.mv (t 0)),
   g 16 12 false (.len false (t 15)),
   g 17 12 false (.bin .geq (t 14) (t 16)),
   a 18 (.pick (t 12) (bo true) (t 17)),
   a 19 (.mv (t 18)),
   g 20 19 false (.mv (t 0)),
   g 21 19 false (.mv (t 1)),
   g 22 19 false (.call 94 [(t 20), (t 21)]),
   g 23 19 false (.mv (t 2)),
   g 24 19 false (.binB false (t 22) (t 23)),
   a 25 (.pick (t 19) (bo true) (t 24))] none)
 (.cond (t 25)
  (.seq (.region [a 26 (.mv (t 7)),
    a 6 (.mv (t 26))] none)
  .ret)
  .skip))
 (.seq (.seq (.region [a 27 (.mv (t 2))] none)
 (.cond (t 27)
  (.region [a 28 (.mv (t 7)),
    a 29 (.mv (t 1)),
    a 30 (.bin .quo (t 29) (i 8)),
    a 31 (.idxAddr 1 (t 28) (t 30)),
    a 32 (.load none (t 31)),
    a 33 (.mv (t 1)),
    a 34 (.bin .rem (t 33) (i 8)),
    a 35 (.call 95 [(t 34)]),
    a 36 (.bin .add (t 32) (t 35)),
    a 37 (.idxAddr 1 (t 28) (t 30)),
    a_ (.store 1 (t 37) (t 36))] (some [[], [], [1], [0, 2, 1], [3, 0, 2, 1], [], [5], [6, 5], [4, 7, 6, 5, 3, 0, 2, 1], [0, 2, 0, 1, 2, 3, 4, 5, 6, 7, 8, 4, 7, 6, 5, 3, 0, 2, 1], [9, 8, 7, 0, 1, 2, 3, 4, 5, 6, 7, 8, 0, 2, 0, 1, 2, 3, 4, 5, 6, 7, 8, 4, 7, 6, 5, 3, 0, 2, 1]]))
  (.region [a 38 (.mv (t 7)),
    a 39 (.mv (t 1)),
    a 40 (.bin .quo (t 39) (i 8)),
    a 41 (.idxAddr 1 (t 38) (t 40)),
    a 42 (.load none (t 41)),
    a 43 (.mv (t 1)),
    a 44 (.bin .rem (t 43) (i 8)),
    a 45 (.call 95 [(t 44)]),
    a 46 (.bin .sub (t 42) (t 45)),
    a 47 (.idxAddr 1 (t 38) (t 40)),
    a_ (.store 1 (t 47) (t 46))] (some [[], [], [1], [0, 2, 1], [3, 0, 2, 1], [], [5], [6, 5], [4, 7, 6, 5, 3, 0, 2, 1], [0, 2, 0, 1, 2, 3, 4, 5, 6, 7, 8, 4, 7, 6, 5, 3, 0, 2, 1], [9, 8, 7, 0, 1, 2, 3, 4, 5, 6, 7, 8, 0, 2, 0, 1, 2, 3, 4, 5, 6, 7, 8, 4, 7, 6, 5, 3, 0, 2, 1]]))))
 (.seq (.region [a 48 (.mv (t 7)),
   a 6 (.mv (t 48))] none)
 .ret))))), [.tmp 6]⟩
theorem t46 : FnAt Try.prog 46 a46 := .mk Try.func46 (by kernel_rfl) (by kernel_rfl)
/-- busbar/busbarref1.Most -/
def a47 : AF := ⟨1, 21, (.seq (.region [a 2 (.mv (i 0)),
   a 3 (.mv (i 0))] none)
 (.seq (.seq (.region [a 4 (.mv (t 0))] none)
 (.block 0 (.seq (.seq (.region [a 6 (.bin .eql (t 4) (i 1)),
   a 5 (.mv (t 6))] none)
 (.cond (t 5)
  .skip
  (.region [a 7 (.bin .eql (t 4) (i 2)),
    a 5 (.mv (t 7))] none)))
 (.cond (t 5)
  (.seq (.region [a 2 (.mv (i 2000)),
    a 3 (.mv (i 0))] none)
  .ret)
  (.seq (.seq (.region [a 9 (.bin .eql (t 4) (i 3)),
    a 8 (.mv (t 9))] none)
  (.cond (t 8)
   .skip
   (.region [a 10 (.bin .eql (t 4) (i 4)),
     a 8 (.mv (t 10))] none)))
  (.cond (t 8)
   (.seq (.region [a 2 (.mv (i 125)),
     a 3 (.mv (i 0))] none)
   .ret)
   (.seq (.seq (.region [a 12 (.bin .eql (t 4) (i 5)),
     a 11 (.mv (t 12))] none)
   (.cond (t 11)
    .skip
    (.seq (.region [a 13 (.bin .eql (t 4) (i 6)),
      a 11 (.mv (t 13))] none)
    (.cond (t 11)
     .skip
     (.region [a 14 (.bin .eql (t 4) (i 22)),
       a 11 (.mv (t 14))] none)))))
   (.cond (t 11)
    (.seq (.region [a 2 (.mv (i 0)),
      a 3 (.mv (i 1))] none)
    .ret)
    (.seq (.region [a 16 (.bin .eql (t 4) (i 15)),
      a 15 (.mv (t 16))] none)
    (.cond (t 15)
     (.seq (.region [a 2 (.mv (i 0)),
       a 3 (.mv (i 1968))] none)
     .ret)
     (.seq (.region [a 18 (.bin .eql (t 4) (i 16)),
       a 17 (.mv (t 18))] none)
     (.cond (t 17)
      (.seq (.region [a 2 (.mv (i 0)),
        a 3 (.mv (i 123))] none)
      .ret)
      (.seq (.region [a 20 (.bin .eql (t 4) (i 23)),
        a 19 (.mv (t 20))] none)
      (.cond (t 19)
       (.seq (.region [a 2 (.mv (i 125)),
         a 3 (.mv (i 121))] none)
       .ret)
       .skip))))))))))))))
 (.seq (.region [a 2 (.mv (i 0)),
   a 3 (.mv (i 0))] none)
 .ret))), [.tmp 2, .tmp 3]⟩
theorem t47 : FnAt Try.prog 47 a47 := .mk Try.func47 (by kernel_rfl) (by kernel_rfl)
/-- busbar/busbarlaw5.few -/
def a48 : AF := ⟨1, 13, (.seq (.region [a 1 (.box (t 0)),
   a 2 (.mv (bo false))] none)
 (.seq (.region [a 3 (.fieldAddr 6 (t 1)),
   a 4 (.load none (t 3)),
   a 5 (.len false (t 4)),
   a 6 (.bin .leq (t 5) (i 2100)),
   a 7 (.mv (t 6)),
   g 8 7 true (.fieldAddr 7 (t 1)),
   g 9 7 true (.load none (t 8)),
   g 10 7 true (.len false (t 9)),
   g 11 7 true (.bin .leq (t 10) (i 200)),
   a 12 (.pick (t 7) (t 11) (bo false)),
   a 2 (.mv (t 12))] none)
 .ret)), [.tmp 2]⟩
theorem t48 : FnAt Try.prog 48 a48 := .mk Try.func48 (by kernel_rfl) (by kernel_rfl)
/-- busbar/busbarlaw0.Digit -/
def a49 : AF := ⟨3, 12, (.seq (.region [a 6 (.mv (i 0))] none)
 (.seq (.region [a 7 (.mv (t 0)),
   a 8 (.mv (t 1)),
   a 9 (.bin .quo (t 7) (t 8)),
   a 10 (.mv (t 2)),
   a 11 (.call 22 [(t 9), (t 10)]),
   a 6 (.mv (t 11))] none)
 .ret)), [.tmp 6]⟩
theorem t49 : FnAt Try.prog 49 a49 := .mk Try.func49 (by kernel_rfl) (by kernel_rfl)
/-- busbar/busbarlaw5.tells -/
def a50 : AF := ⟨1, 82, (.seq (.region [a 1 (.box (t 0)),
   a 2 (.mv (bo false))] none)
 (.seq (.region [a 12 (.load (some 12) (t 1)),
   a 3 (.alloc [(.t (.int .i64 0)), (.t (.int .i64 0)), (.t (.int .i64 0)), (.t (.int .u16 0)), (.t (.int .u16 0)), (.t (.int .u16 0)), (.t .nil), (.t .nil), (.t (.int .i64 0)), (.t (.int .i64 0)), (.t (.int .i64 0)), (.t (.int .i64 0))]),
   a_ (.store 12 (t 3) (t 12))] none)
 (.seq (.region [a 13 (.fieldAddr 6 (t 1)),
   a 14 (.load none (t 13)),
   a 15 (.call 53 [(t 14)]),
   a 16 (.fieldAddr 7 (t 1)),
   a 17 (.load none (t 16)),
   a 18 (.call 54 [(t 17)]),
   a 19 (.fieldAddr 6 (t 3)),
   a_ (.store 1 (t 19) (t 15)),
   a 20 (.fieldAddr 7 (t 3)),
   a_ (.store 1 (t 20) (t 18))] (some [[], [0], [1, 0], [], [3], [4, 2, 3, 1, 0], [0, 1, 2, 1, 0], [6, 2, 5, 0, 1, 2, 0, 1, 2, 4, 2, 3, 1, 0], [0, 1, 2, 3, 4, 5, 6, 7, 6, 2, 5, 0, 1, 2, 0, 1, 2, 4, 2, 3, 1, 0], [8, 5, 7, 0, 1, 2, 3, 4, 5, 6, 7, 0, 1, 2, 3, 4, 5, 6, 7, 6, 2, 5, 0, 1, 2, 0, 1, 2, 4, 2, 3, 1, 0]]))
 (.seq (.region [a 22 (.load (some 12) (t 3)),
   a 23 (.call 44 [(t 22)]),
   a 21 (.mv (t 23)),
   a 24 (.extract (t 21) 0),
   a 25 (.extract (t 21) 1),
   a 4 (.mv (t 24)),
   a 5 (.mv (t 25))] none)
 (.seq (.region [a 27 (.load (some 12) (t 1)),
   a 28 (.call 69 [(t 27)]),
   a 26 (.mv (t 28)),
   a 29 (.extract (t 26) 0),
   a 30 (.extract (t 26) 1),
   a 6 (.mv (t 29)),
   a 7 (.mv (t 30))] none)
 (.seq (.region [a 32 (.load (some 12) (t 3)),
   a 33 (.call 39 [(t 32)]),
   a 31 (.mv (t 33)),
   a 34 (.extract (t 31) 0),
   a 35 (.extract (t 31) 1),
   a 8 (.mv (t 34)),
   a 9 (.mv (t 35))] none)
 (.seq (.region [a 37 (.load (some 12) (t 1)),
   a 38 (.call 96 [(t 37)]),
   a 36 (.mv (t 38)),
   a 39 (.extract (t 36) 0),
   a 40 (.extract (t 36) 1),
   a 10 (.mv (t 39)),
   a 11 (.mv (t 40))] none)
 (.seq (.region [a 41 (.load (some 12) (t 3)),
   a 42 (.call 45 [(t 41)]),
   a 43 (.load (some 12) (t 1)),
   a 44 (.call 97 [(t 43)]),
   a 45 (.binB false (t 42) (t 44)),
   a 46 (.mv (t 45)),
   g 47 46 true (.mv (t 5)),
   g 48 46 true (.mv (t 7)),
   g 49 46 true (.bin .eql (t 47) (t 48)),
   a 50 (.pick (t 46) (t 49) (bo false)),
   a 51 (.mv (t 50)),
   g 52 51 true (.mv (t 4)),
   g 53 51 true (.bstr (t 52)),
   g 54 51 true (.mv (t 6)),
   g 55 51 true (.bstr (t 54)),
   g 56 51 true (.bin .eql (t 53) (t 55)),
   a 57 (.pick (t 51) (t 56) (bo false)),
   a 58 (.mv (t 57)),
   g 59 58 true (.mv (t 8)),
   g 60 58 true (.mv (t 10)),
   g 61 58 true (.call 98 [(t 59), (t 60)]),
   a 62 (.pick (t 58) (t 61) (bo false)),
   a 63 (.mv (t 62)),
   g 64 63 true (.mv (t 9)),
   g 65 63 true (.mv (t 11)),
   g 66 63 true (.call 98 [(t 64), (t 65)]),
   a 67 (.pick (t 63) (t 66) (bo false)),
   a 68 (.mv (t 67)),
   g 69 68 true (.fieldAddr 6 (t 3)),
   g 70 68 true (.load none (t 69)),
   g 71 68 true (.fieldAddr 6 (t 1)),
   g 72 68 true (.load none (t 71)),
   g 73 68 true (.call 58 [(t 70), (t 72)]),
   a 74 (.pick (t 68) (t 73) (bo false)),
   a 75 (.mv (t 74)),
   g 76 75 true (.fieldAddr 7 (t 3)),
   g 77 75 true (.load none (t 76)),
   g 78 75 true (.fieldAddr 7 (t 1)),
   g 79 75 true (.load none (t 78)),
   g 80 75 true (.call 59 [(t 77), (t 79)]),
   a 81 (.pick (t 75) (t 80) (bo false)),
   a 2 (.mv (t 81))] (some [[], [0], [], [2, 1, 0], [1, 3, 2, 1, 0], [4, 3, 1, 3, 2, 1, 0], [5, 4, 3, 1, 3, 2, 1, 0], [5, 4, 3, 1, 3, 2, 1, 0], [6, 7, 5, 5, 5, 4, 3, 1, 3, 2, 1, 0], [5, 8, 6, 7, 5, 5, 5, 4, 3, 1, 3, 2, 1, 0], [9, 5, 5, 8, 6, 7, 5, 5, 5, 4, 3, 1, 3, 2, 1, 0], [10, 9, 5, 5, 8, 6, 7, 5, 5, 5, 4, 3, 1, 3, 2, 1, 0], [11, 10, 10, 9, 5, 5, 8, 6, 7, 5, 5, 5, 4, 3, 1, 3, 2, 1, 0], [10, 9, 5, 5, 8, 6, 7, 5, 5, 5, 4, 3, 1, 3, 2, 1, 0], [13, 10, 10, 9, 5, 5, 8, 6, 7, 5, 5, 5, 4, 3, 1, 3, 2, 1, 0], [12, 14, 10, 13, 10, 10, 11, 10, 10, 9, 5, 5, 8, 6, 7, 5, 5, 5, 4, 3, 1, 3, 2, 1, 0], [10, 15, 12, 14, 10, 13, 10, 10, 11, 10, 10, 9, 5, 5, 8, 6, 7, 5, 5, 5, 4, 3, 1, 3, 2, 1, 0], [16, 10, 10, 15, 12, 14, 10, 13, 10, 10, 11, 10, 10, 9, 5, 5, 8, 6, 7, 5, 5, 5, 4, 3, 1, 3, 2, 1, 0], [17, 16, 10, 10, 15, 12, 14, 10, 13, 10, 10, 11, 10, 10, 9, 5, 5, 8, 6, 7, 5, 5, 5, 4, 3, 1, 3, 2, 1, 0], [17, 16, 10, 10, 15, 12, 14, 10, 13, 10, 10, 11, 10, 10, 9, 5, 5, 8, 6, 7, 5, 5, 5, 4, 3, 1, 3, 2, 1, 0], [18, 19, 17, 17, 17, 17, 16, 10, 10, 15, 12, 14, 10, 13, 10, 10, 11, 10, 10, 9, 5, 5, 8, 6, 7, 5, 5, 5, 4, 3, 1, 3, 2, 1, 0], [17, 20, 18, 19, 17, 17, 17, 17, 16, 10, 10, 15, 12, 14, 10, 13, 10, 10, 11, 10, 10, 9, 5, 5, 8, 6, 7, 5, 5, 5, 4, 3, 1, 3, 2, 1, 0], [21, 20, 17, 20, 18, 19, 17, 17, 17, 17, 16, 10, 10, 15, 12, 14, 10, 13, 10, 10, 11, 10, 10, 9, 5, 5, 8, 6, 7, 5, 5, 5, 4, 3, 1, 3, 2, 1, 0], [22, 21, 20, 17, 20, 18, 19, 17, 17, 17, 17, 16, 10, 10, 15, 12, 14, 10, 13, 10, 10, 11, 10, 10, 9, 5, 5, 8, 6, 7, 5, 5, 5, 4, 3, 1, 3, 2, 1, 0], [22, 21, 20, 17, 20, 18, 19, 17, 17, 17, 17, 16, 10, 10, 15, 12, 14, 10, 13, 10, 10, 11, 10, 10, 9, 5, 5, 8, 6, 7, 5, 5, 5, 4, 3, 1, 3, 2, 1, 0], [23, 24, 22, 22, 22, 22, 21, 20, 17, 20, 18, 19, 17, 17, 17, 17, 16, 10, 10, 15, 12, 14, 10, 13, 10, 10, 11, 10, 10, 9, 5, 5, 8, 6, 7, 5, 5, 5, 4, 3, 1, 3, 2, 1, 0], [22, 25, 23, 24, 22, 22, 22, 22, 21, 20, 17, 20, 18, 19, 17, 17, 17, 17, 16, 10, 10, 15, 12, 14, 10, 13, 10, 10, 11, 10, 10, 9, 5, 5, 8, 6, 7, 5, 5, 5, 4, 3, 1, 3, 2, 1, 0], [26, 25, 22, 25, 23, 24, 22, 22, 22, 22, 21, 20, 17, 20, 18, 19, 17, 17, 17, 17, 16, 10, 10, 15, 12, 14, 10, 13, 10, 10, 11, 10, 10, 9, 5, 5, 8, 6, 7, 5, 5, 5, 4, 3, 1, 3, 2, 1, 0], [27, 26, 25, 22, 25, 23, 24, 22, 22, 22, 22, 21, 20, 17, 20, 18, 19, 17, 17, 17, 17, 16, 10, 10, 15, 12, 14, 10, 13, 10, 10, 11, 10, 10, 9, 5, 5, 8, 6, 7, 5, 5, 5, 4, 3, 1, 3, 2, 1, 0], [28, 27, 27, 26, 25, 22, 25, 23, 24, 22, 22, 22, 22, 21, 20, 17, 20, 18, 19, 17, 17, 17, 17, 16, 10, 10, 15, 12, 14, 10, 13, 10, 10, 11, 10, 10, 9, 5, 5, 8, 6, 7, 5, 5, 5, 4, 3, 1, 3, 2, 1, 0], [27, 26, 25, 22, 25, 23, 24, 22, 22, 22, 22, 21, 20, 17, 20, 18, 19, 17, 17, 17, 17, 16, 10, 10, 15, 12, 14, 10, 13, 10, 10, 11, 10, 10, 9, 5, 5, 8, 6, 7, 5, 5, 5, 4, 3, 1, 3, 2, 1, 0], [30, 27, 27, 26, 25, 22, 25, 23, 24, 22, 22, 22, 22, 21, 20, 17, 20, 18, 19, 17, 17, 17, 17, 16, 10, 10, 15, 12, 14, 10, 13, 10, 10, 11, 10, 10, 9, 5, 5, 8, 6, 7, 5, 5, 5, 4, 3, 1, 3, 2, 1, 0], [29, 31, 27, 27, 30, 27, 27, 28, 27, 27, 26, 25, 22, 25, 23, 24, 22, 22, 22, 22, 21, 20, 17, 20, 18, 19, 17, 17, 17, 17, 16, 10, 10, 15, 12, 14, 10, 13, 10, 10, 11, 10, 10, 9, 5, 5, 8, 6, 7, 5, 5, 5, 4, 3, 1, 3, 2, 1, 0], [27, 32, 29, 31, 27, 27, 30, 27, 27, 28, 27, 27, 26, 25, 22, 25, 23, 24, 22, 22, 22, 22, 21, 20, 17, 20, 18, 19, 17, 17, 17, 17, 16, 10, 10, 15, 12, 14, 10, 13, 10, 10, 11, 10, 10, 9, 5, 5, 8, 6, 7, 5, 5, 5, 4, 3, 1, 3, 2, 1, 0], [33, 32, 27, 32, 29, 31, 27, 27, 30, 27, 27, 28, 27, 27, 26, 25, 22, 25, 23, 24, 22, 22, 22, 22, 21, 20, 17, 20, 18, 19, 17, 17, 17, 17, 16, 10, 10, 15, 12, 14, 10, 13, 10, 10, 11, 10, 10, 9, 5, 5, 8, 6, 7, 5, 5, 5, 4, 3, 1, 3, 2, 1, 0], [34, 33, 32, 27, 32, 29, 31, 27, 27, 30, 27, 27, 28, 27, 27, 26, 25, 22, 25, 23, 24, 22, 22, 22, 22, 21, 20, 17, 20, 18, 19, 17, 17, 17, 17, 16, 10, 10, 15, 12, 14, 10, 13, 10, 10, 11, 10, 10, 9, 5, 5, 8, 6, 7, 5, 5, 5, 4, 3, 1, 3, 2, 1, 0], [35, 34, 34, 33, 32, 27, 32, 29, 31, 27, 27, 30, 27, 27, 28, 27, 27, 26, 25, 22, 25, 23, 24, 22, 22, 22, 22, 21, 20, 17, 20, 18, 19, 17, 17, 17, 17, 16, 10, 10, 15, 12, 14, 10, 13, 10, 10, 11, 10, 10, 9, 5, 5, 8, 6, 7, 5, 5, 5, 4, 3, 1, 3, 2, 1, 0], [34, 33, 32, 27, 32, 29, 31, 27, 27, 30, 27, 27, 28, 27, 27, 26, 25, 22, 25, 23, 24, 22, 22, 22, 22, 21, 20, 17, 20, 18, 19, 17, 17, 17, 17, 16, 10, 10, 15, 12, 14, 10, 13, 10, 10, 11, 10, 10, 9, 5, 5, 8, 6, 7, 5, 5, 5, 4, 3, 1, 3, 2, 1, 0], [37, 34, 34, 33, 32, 27, 32, 29, 31, 27, 27, 30, 27, 27, 28, 27, 27, 26, 25, 22, 25, 23, 24, 22, 22, 22, 22, 21, 20, 17, 20, 18, 19, 17, 17, 17, 17, 16, 10, 10, 15, 12, 14, 10, 13, 10, 10, 11, 10, 10, 9, 5, 5, 8, 6, 7, 5, 5, 5, 4, 3, 1, 3, 2, 1, 0], [36, 38, 34, 34, 37, 34, 34, 35, 34, 34, 33, 32, 27, 32, 29, 31, 27, 27, 30, 27, 27, 28, 27, 27, 26, 25, 22, 25, 23, 24, 22, 22, 22, 22, 21, 20, 17, 20, 18, 19, 17, 17, 17, 17, 16, 10, 10, 15, 12, 14, 10, 13, 10, 10, 11, 10, 10, 9, 5, 5, 8, 6, 7, 5, 5, 5, 4, 3, 1, 3, 2, 1, 0], [34, 39, 36, 38, 34, 34, 37, 34, 34, 35, 34, 34, 33, 32, 27, 32, 29, 31, 27, 27, 30, 27, 27, 28, 27, 27, 26, 25, 22, 25, 23, 24, 22, 22, 22, 22, 21, 20, 17, 20, 18, 19, 17, 17, 17, 17, 16, 10, 10, 15, 12, 14, 10, 13, 10, 10, 11, 10, 10, 9, 5, 5, 8, 6, 7, 5, 5, 5, 4, 3, 1, 3, 2, 1, 0], [40, 39, 0, 1, 2, 3, 4, 5, 6, 7, 8, 9, 10, 11, 12, 13, 14, 15, 16, 17, 18, 19, 20, 21, 22, 23, 24, 25, 26, 27, 28, 29, 30, 31, 32, 33, 34, 35, 36, 37, 38, 39, 40, 34, 39, 36, 38, 34, 34, 37, 34, 34, 35, 34, 34, 33, 32, 27, 32, 29, 31, 27, 27, 30, 27, 27, 28, 27, 27, 26, 25, 22, 25, 23, 24, 22, 22, 22, 22, 21, 20, 17, 20, 18, 19, 17, 17, 17, 17, 16, 10, 10, 15, 12, 14, 10, 13, 10, 10, 11, 10, 10, 9, 5, 5, 8, 6, 7, 5, 5, 5, 4, 3, 1, 3, 2, 1, 0]]))
 .ret)))))))), [.tmp 2]⟩
theorem t50 : FnAt Try.prog 50 a50 := .mk Try.func50 (by kernel_rfl) (by kernel_rfl)
/-- busbar/busbarlaw0.LentBits -/
def a53 : AF := ⟨1, 27, (.seq (.region [a 2 (.mv (.k (.c (.t .nil))))] none)
 (.seq (.region [a 5 (.mv (t 0)),
   a 6 (.len false (t 5)),
   a 7 (.bin .add (t 6) (i 3)),
   a 8 (.mkSlice 1 1 [(.bool false)] (t 7) (t 7)),
   a 3 (.mv (t 8))] none)
 (.seq (.region [a 9 (.mv (t 3)),
   a 10 (.mv (t 0)),
   a 11 (.copy 1 (t 9) (t 10))] none)
 (.seq (.seq (.region [a 12 (.mv (t 0)),
   a 13 (.len false (t 12)),
   a 4 (.mv (t 13))] none)
 (.block 0 (.loop
  (.seq (.seq (.region [a 14 (.mv (t 4)),
    a 15 (.mv (t 3)),
    a 16 (.len false (t 15)),
    a 17 (.bin .lss (t 14) (t 16))] none)
  (.cond (t 17)
   .skip
   (.exit 0)))
  (.seq (.block 1 (.region [a 20 (.mv (t 3)),
    a 21 (.mv (t 4)),
    a 22 (.idxAddr 1 (t 20) (t 21)),
    a_ (.store 1 (t 22) (bo true))] none))
  (.region [a 18 (.mv (t 4)),
    a 19 (.bin .add (t 18) (i 1)),
    a 4 (.mv (t 19))] none))))))
 (.seq (.region [a 23 (.mv (t 3)),
   a 24 (.mv (t 0)),
   a 25 (.len false (t 24)),
   a 26 (.slice 1 (t 23) none (some (t 25))),
   a 2 (.mv (t 26))] none)
 .ret))))), [.tmp 2]⟩
theorem t53 : FnAt Try.prog 53 a53 := .mk Try.func53 (by kernel_rfl) (by kernel_rfl)
/-- busbar/busbarlaw0.LentWords -/
def a54 : AF := ⟨1, 27, (.seq (.region [a 2 (.mv (.k (.c (.t .nil))))] none)
 (.seq (.region [a 5 (.mv (t 0)),
   a 6 (.len false (t 5)),
   a 7 (.bin .add (t 6) (i 3)),
   a 8 (.mkSlice 1 2 [(.int .u16 0)] (t 7) (t 7)),
   a 3 (.mv (t 8))] none)
 (.seq (.region [a 9 (.mv (t 3)),
   a 10 (.mv (t 0)),
   a 11 (.copy 1 (t 9) (t 10))] none)
 (.seq (.seq (.region [a 12 (.mv (t 0)),
   a 13 (.len false (t 12)),
   a 4 (.mv (t 13))] none)
 (.block 0 (.loop
  (.seq (.seq (.region [a 14 (.mv (t 4)),
    a 15 (.mv (t 3)),
    a 16 (.len false (t 15)),
    a 17 (.bin .lss (t 14) (t 16))] none)
  (.cond (t 17)
   .skip
   (.exit 0)))
  (.seq (.block 1 (.region [a 20 (.mv (t 3)),
    a 21 (.mv (t 4)),
    a 22 (.idxAddr 1 (t 20) (t 21)),
    a_ (.store 1 (t 22) (.k (.c (.t (.int .u16 42405)))))] none))
  (.region [a 18 (.mv (t 4)),
    a 19 (.bin .add (t 18) (i 1)),
    a 4 (.mv (t 19))] none))))))
 (.seq (.region [a 23 (.mv (t 3)),
   a 24 (.mv (t 0)),
   a 25 (.len false (t 24)),
   a 26 (.slice 1 (t 23) none (some (t 25))),
   a 2 (.mv (t 26))] none)
 .ret))))), [.tmp 2]⟩
theorem t54 : FnAt Try.prog 54 a54 := .mk Try.func54 (by kernel_rfl) (by kernel_rfl)
/-- busbar/busbarlaw0.StaysBits -/
def a58 : AF := ⟨2, 51, (.seq (.region [a 4 (.mv (bo false))] none)
 (.seq (.seq (.region [a 7 (.mv (t 0)),
   a 8 (.len false (t 7)),
   a 9 (.mv (t 1)),
   a 10 (.len false (t 9)),
   a 11 (.bin .neq (t 8) (t 10))] none)
 (.cond (t 11)
  (.seq (.region [a 4 (.mv (bo false))] none)
  .ret)
  .skip))
 (.seq (.region [a 12 (.mv (t 0)),
   a 13 (.mv (t 1)),
   a 14 (.len false (t 13)),
   a 15 (.bin .add (t 14) (i 3)),
   a 16 (.slice 1 (t 12) none (some (t 15))),
   a 5 (.mv (t 16))] none)
 (.seq (.seq (.region [a 6 (.mv (i 0))] none)
 (.block 0 (.loop
  (.seq (.seq (.region [a 17 (.mv (t 6)),
    a 18 (.mv (t 5)),
    a 19 (.len false (t 18)),
    a 20 (.bin .lss (t 17) (t 19))] none)
  (.cond (t 20)
   .skip
   (.exit 0)))
  (.seq (.block 1 (.seq (.region [a 23 (.mv (t 6)),
    a 24 (.mv (t 1)),
    a 25 (.len false (t 24)),
    a 26 (.bin .lss (t 23) (t 25)),
    a 27 (.mv (t 26)),
    g 28 27 true (.mv (t 5)),
    g 29 27 true (.mv (t 6)),
    g 30 27 true (.idxAddr 1 (t 28) (t 29)),
    g 31 27 true (.load none (t 30)),
    g 32 27 true (.mv (t 1)),
    g 33 27 true (.mv (t 6)),
    g 34 27 true (.idxAddr 1 (t 32) (t 33)),
    g 35 27 true (.load none (t 34)),
    g 36 27 true (.binB true (t 31) (t 35)),
    a 37 (.pick (t 27) (t 36) (bo false)),
    a 38 (.mv (t 37)),
    g 39 38 false (.mv (t 6)),
    g 40 38 false (.mv (t 1)),
    g 41 38 false (.len false (t 40)),
    g 42 38 false (.bin .geq (t 39) (t 41)),
    g 43 38 false (.mv (t 42)),
    g 44 43 true (.mv (t 5)),
    g 45 43 true (.mv (t 6)),
    g 46 43 true (.idxAddr 1 (t 44) (t 45)),
    g 47 43 true (.load none (t 46)),
    g 48 43 true (.binB true (t 47) (bo true)),
    g 49 38 false (.pick (t 43) (t 48) (bo false)),
    a 50 (.pick (t 38) (bo true) (t 49))] (some [[], [], [1], [0, 2, 1], [3, 0, 2, 1], [4, 3, 0, 2, 1], [4, 3, 0, 2, 1], [5, 6, 4, 4, 4, 3, 0, 2, 1], [7, 4, 5, 6, 4, 4, 4, 3, 0, 2, 1], [4, 3, 0, 2, 1], [4, 3, 0, 2, 1], [9, 10, 4, 4, 4, 3, 0, 2, 1], [11, 4, 9, 10, 4, 4, 4, 3, 0, 2, 1], [8, 12, 4, 11, 4, 9, 10, 4, 4, 4, 7, 4, 5, 6, 4, 4, 4, 3, 0, 2, 1], [4, 13, 8, 12, 4, 11, 4, 9, 10, 4, 4, 4, 7, 4, 5, 6, 4, 4, 4, 3, 0, 2, 1], [14, 4, 4, 13, 8, 12, 4, 11, 4, 9, 10, 4, 4, 4, 7, 4, 5, 6, 4, 4, 4, 3, 0, 2, 1], [15, 14, 4, 4, 13, 8, 12, 4, 11, 4, 9, 10, 4, 4, 4, 7, 4, 5, 6, 4, 4, 4, 3, 0, 2, 1], [15, 14, 4, 4, 13, 8, 12, 4, 11, 4, 9, 10, 4, 4, 4, 7, 4, 5, 6, 4, 4, 4, 3, 0, 2, 1], [17, 15, 15, 14, 4, 4, 13, 8, 12, 4, 11, 4, 9, 10, 4, 4, 4, 7, 4, 5, 6, 4, 4, 4, 3, 0, 2, 1], [16, 18, 15, 17, 15, 15, 15, 14, 4, 4, 13, 8, 12, 4, 11, 4, 9, 10, 4, 4, 4, 7, 4, 5, 6, 4, 4, 4, 3, 0, 2, 1], [19, 15, 15, 16, 18, 15, 17, 15, 15, 15, 14, 4, 4, 13, 8, 12, 4, 11, 4, 9, 10, 4, 4, 4, 7, 4, 5, 6, 4, 4, 4, 3, 0, 2, 1], [20, 19, 15, 15, 16, 18, 15, 17, 15, 15, 15, 14, 4, 4, 13, 8, 12, 4, 11, 4, 9, 10, 4, 4, 4, 7, 4, 5, 6, 4, 4, 4, 3, 0, 2, 1], [20, 19, 15, 15, 16, 18, 15, 17, 15, 15, 15, 14, 4, 4, 13, 8, 12, 4, 11, 4, 9, 10, 4, 4, 4, 7, 4, 5, 6, 4, 4, 4, 3, 0, 2, 1], [21, 22, 20, 20, 20, 19, 15, 15, 16, 18, 15, 17, 15, 15, 15, 14, 4, 4, 13, 8, 12, 4, 11, 4, 9, 10, 4, 4, 4, 7, 4, 5, 6, 4, 4, 4, 3, 0, 2, 1], [23, 20, 21, 22, 20, 20, 20, 19, 15, 15, 16, 18, 15, 17, 15, 15, 15, 14, 4, 4, 13, 8, 12, 4, 11, 4, 9, 10, 4, 4, 4, 7, 4, 5, 6, 4, 4, 4, 3, 0, 2, 1], [24, 20, 23, 20, 21, 22, 20, 20, 20, 19, 15, 15, 16, 18, 15, 17, 15, 15, 15, 14, 4, 4, 13, 8, 12, 4, 11, 4, 9, 10, 4, 4, 4, 7, 4, 5, 6, 4, 4, 4, 3, 0, 2, 1], [20, 25, 15, 24, 20, 23, 20, 21, 22, 20, 20, 20, 19, 15, 15, 16, 18, 15, 17, 15, 15, 15, 14, 4, 4, 13, 8, 12, 4, 11, 4, 9, 10, 4, 4, 4, 7, 4, 5, 6, 4, 4, 4, 3, 0, 2, 1], [15, 26, 20, 25, 15, 24, 20, 23, 20, 21, 22, 20, 20, 20, 19, 15, 15, 16, 18, 15, 17, 15, 15, 15, 14, 4, 4, 13, 8, 12, 4, 11, 4, 9, 10, 4, 4, 4, 7, 4, 5, 6, 4, 4, 4, 3, 0, 2, 1]]))
  (.cond (t 50)
   (.seq (.region [a 4 (.mv (bo false))] none)
   .ret)
   .skip)))
  (.region [a 21 (.mv (t 6)),
    a 22 (.bin .add (t 21) (i 1)),
    a 6 (.mv (t 22))] none))))))
 (.seq (.region [a 4 (.mv (bo true))] none)
 .ret))))), [.tmp 4]⟩
theorem t58 : FnAt Try.prog 58 a58 := .mk Try.func58 (by kernel_rfl) (by kernel_rfl)
/-- busbar/busbarlaw0.StaysWords -/
def a59 : AF := ⟨2, 51, (.seq (.region [a 4 (.mv (bo false))] none)
 (.seq (.seq (.region [a 7 (.mv (t 0)),
   a 8 (.len false (t 7)),
   a 9 (.mv (t 1)),
   a 10 (.len false (t 9)),
   a 11 (.bin .neq (t 8) (t 10))] none)
 (.cond (t 11)
  (.seq (.region [a 4 (.mv (bo false))] none)
  .ret)
  .skip))
 (.seq (.region [a 12 (.mv (t 0)),
   a 13 (.mv (t 1)),
   a 14 (.len false (t 13)),
   a 15 (.bin .add (t 14) (i 3)),
   a 16 (.slice 1 (t 12) none (some (t 15))),
   a 5 (.mv (t 16))] none)
 (.seq (.seq (.region [a 6 (.mv (i 0))] none)
 (.block 0 (.loop
  (.seq (.seq (.region [a 17 (.mv (t 6)),
    a 18 (.mv (t 5)),
    a 19 (.len false (t 18)),
    a 20 (.bin .lss (t 17) (t 19))] none)
  (.cond (t 20)
   .skip
   (.exit 0)))
  (.seq (.block 1 (.seq (.region [a 23 (.mv (t 6)),
    a 24 (.mv (t 1)),
    a 25 (.len false (t 24)),
    a 26 (.bin .lss (t 23) (t 25)),
    a 27 (.mv (t 26)),
    g 28 27 true (.mv (t 5)),
    g 29 27 true (.mv (t 6)),
    g 30 27 true (.idxAddr 1 (t 28) (t 29)),
    g 31 27 true (.load none (t 30)),
    g 32 27 true (.mv (t 1)),
    g 33 27 true (.mv (t 6)),
    g 34 27 true (.idxAddr 1 (t 32) (t 33)),
    g 35 27 true (.load none (t 34)),
    g 36 27 true (.bin .neq (t 31) (t 35)),
    a 37 (.pick (t 27) (t 36) (bo false)),
    a 38 (.mv (t 37)),
    g 39 38 false (.mv (t 6)),
    g 40 38 false (.mv (t 1)),
    g 41 38 false (.len false (t 40)),
    g 42 38 false (.bin .geq (t 39) (t 41)),
    g 43 38 false (.mv (t 42)),
    g 44 43 true (.mv (t 5)),
    g 45 43 true (.mv (t 6)),
    g 46 43 true (.idxAddr 1 (t 44) (t 45)),
    g 47 43 true (.load none (t 46)),
    g 48 43 true (.bin .neq (t 47) (.k (.c (.t (.int .u16 42405))))),
    g 49 38 false (.pick (t 43) (t 48) (bo false)),
    a 50 (.pick (t 38) (bo true) (t 49))] (some [[], [], [1], [0, 2, 1], [3, 0, 2, 1], [4, 3, 0, 2, 1], [4, 3, 0, 2, 1], [5, 6, 4, 4, 4, 3, 0, 2, 1], [7, 4, 5, 6, 4, 4, 4, 3, 0, 2, 1], [4, 3, 0, 2, 1], [4, 3, 0, 2, 1], [9, 10, 4, 4, 4, 3, 0, 2, 1], [11, 4, 9, 10, 4, 4, 4, 3, 0, 2, 1], [8, 12, 4, 11, 4, 9, 10, 4, 4, 4, 7, 4, 5, 6, 4, 4, 4, 3, 0, 2, 1], [4, 13, 8, 12, 4, 11, 4, 9, 10, 4, 4, 4, 7, 4, 5, 6, 4, 4, 4, 3, 0, 2, 1], [14, 4, 4, 13, 8, 12, 4, 11, 4, 9, 10, 4, 4, 4, 7, 4, 5, 6, 4, 4, 4, 3, 0, 2, 1], [15, 14, 4, 4, 13, 8, 12, 4, 11, 4, 9, 10, 4, 4, 4, 7, 4, 5, 6, 4, 4, 4, 3, 0, 2, 1], [15, 14, 4, 4, 13, 8, 12, 4, 11, 4, 9, 10, 4, 4, 4, 7, 4, 5, 6, 4, 4, 4, 3, 0, 2, 1], [17, 15, 15, 14, 4, 4, 13, 8, 12, 4, 11, 4, 9, 10, 4, 4, 4, 7, 4, 5, 6, 4, 4, 4, 3, 0, 2, 1], [16, 18, 15, 17, 15, 15, 15, 14, 4, 4, 13, 8, 12, 4, 11, 4, 9, 10, 4, 4, 4, 7, 4, 5, 6, 4, 4, 4, 3, 0, 2, 1], [19, 15, 15, 16, 18, 15, 17, 15, 15, 15, 14, 4, 4, 13, 8, 12, 4, 11, 4, 9, 10, 4, 4, 4, 7, 4, 5, 6, 4, 4, 4, 3, 0, 2, 1], [20, 19, 15, 15, 16, 18, 15, 17, 15, 15, 15, 14, 4, 4, 13, 8, 12, 4, 11, 4, 9, 10, 4, 4, 4, 7, 4, 5, 6, 4, 4, 4, 3, 0, 2, 1], [20, 19, 15, 15, 16, 18, 15, 17, 15, 15, 15, 14, 4, 4, 13, 8, 12, 4, 11, 4, 9, 10, 4, 4, 4, 7, 4, 5, 6, 4, 4, 4, 3, 0, 2, 1], [21, 22, 20, 20, 20, 19, 15, 15, 16, 18, 15, 17, 15, 15, 15, 14, 4, 4, 13, 8, 12, 4, 11, 4, 9, 10, 4, 4, 4, 7, 4, 5, 6, 4, 4, 4, 3, 0, 2, 1], [23, 20, 21, 22, 20, 20, 20, 19, 15, 15, 16, 18, 15, 17, 15, 15, 15, 14, 4, 4, 13, 8, 12, 4, 11, 4, 9, 10, 4, 4, 4, 7, 4, 5, 6, 4, 4, 4, 3, 0, 2, 1], [24, 20, 23, 20, 21, 22, 20, 20, 20, 19, 15, 15, 16, 18, 15, 17, 15, 15, 15, 14, 4, 4, 13, 8, 12, 4, 11, 4, 9, 10, 4, 4, 4, 7, 4, 5, 6, 4, 4, 4, 3, 0, 2, 1], [20, 25, 15, 24, 20, 23, 20, 21, 22, 20, 20, 20, 19, 15, 15, 16, 18, 15, 17, 15, 15, 15, 14, 4, 4, 13, 8, 12, 4, 11, 4, 9, 10, 4, 4, 4, 7, 4, 5, 6, 4, 4, 4, 3, 0, 2, 1], [15, 26, 20, 25, 15, 24, 20, 23, 20, 21, 22, 20, 20, 20, 19, 15, 15, 16, 18, 15, 17, 15, 15, 15, 14, 4, 4, 13, 8, 12, 4, 11, 4, 9, 10, 4, 4, 4, 7, 4, 5, 6, 4, 4, 4, 3, 0, 2, 1]]))
  (.cond (t 50)
   (.seq (.region [a 4 (.mv (bo false))] none)
   .ret)
   .skip)))
  (.region [a 21 (.mv (t 6)),
    a 22 (.bin .add (t 21) (i 1)),
    a 6 (.mv (t 22))] none))))))
 (.seq (.region [a 4 (.mv (bo true))] none)
 .ret))))), [.tmp 4]⟩
theorem t59 : FnAt Try.prog 59 a59 := .mk Try.func59 (by kernel_rfl) (by kernel_rfl)
/-- busbar/busbarref5.AskBytes -/
def a69 : AF := ⟨1, 133, (.seq (.region [a 1 (.box (t 0)),
   a 2 (.mv (.k (.c (.t .nil)))),
   a 3 (.mv (i 0))] none)
 (.seq (.seq (.region [a 5 (.load (some 12) (t 1)),
   a 6 (.call 97 [(t 5)]),
   a 7 (.un .not (t 6))] none)
 (.cond (t 7)
  (.seq (.region [a 2 (.mv (.k (.c (.t .nil)))),
    a 3 (.mv (i 1))] none)
  .ret)
  .skip))
 (.seq (.region [a 8 (.fieldAddr 0 (t 1)),
   a 9 (.load none (t 8)),
   a 10 (.conv .u8 (t 9)),
   a 11 (.mkList false 1 1 [(.int .u8 0)] [(0, (t 10))]),
   a 4 (.mv (t 11))] none)
 (.seq (.seq (.region [a 12 (.fieldAddr 0 (t 1)),
   a 13 (.load none (t 12))] none)
 (.block 0 (.seq (.seq (.region [a 15 (.bin .eql (t 13) (i 1)),
   a 14 (.mv (t 15))] none)
 (.cond (t 14)
  .skip
  (.seq (.region [a 16 (.bin .eql (t 13) (i 2)),
    a 14 (.mv (t 16))] none)
  (.cond (t 14)
   .skip
   (.seq (.region [a 17 (.bin .eql (t 13) (i 3)),
     a 14 (.mv (t 17))] none)
   (.cond (t 14)
    .skip
    (.region [a 18 (.bin .eql (t 13) (i 4)),
      a 14 (.mv (t 18))] none)))))))
 (.cond (t 14)
  (.seq (.region [a 19 (.mv (t 4)),
    a 20 (.fieldAddr 1 (t 1)),
    a 21 (.load none (t 20)),
    a 22 (.call 101 [(t 19), (t 21)]),
    a 23 (.fieldAddr 2 (t 1)),
    a 24 (.load none (t 23)),
    a 25 (.call 101 [(t 22), (t 24)]),
    a 2 (.mv (t 25)),
    a 3 (.mv (i 0))] (some [[], [], [1], [0, 2, 1], [], [4], [3, 5, 3, 4, 0, 2, 1], [6, 6, 0, 1, 2, 3, 4, 5, 6, 3, 5, 3, 4, 0, 2, 1], [7, 0, 1, 2, 3, 4, 5, 6, 7, 6, 6, 0, 1, 2, 3, 4, 5, 6, 3, 5, 3, 4, 0, 2, 1]]))
  .ret)
  (.seq (.region [a 27 (.bin .eql (t 13) (i 5)),
    a 26 (.mv (t 27))] none)
  (.cond (t 26)
   (.seq (.region [a 28 (.mv (t 4)),
     a 29 (.fieldAddr 1 (t 1)),
     a 30 (.load none (t 29)),
     a 31 (.call 101 [(t 28), (t 30)]),
     a 32 (.fieldAddr 3 (t 1)),
     a 33 (.load none (t 32)),
     a 34 (.conv .i64 (t 33)),
     a 35 (.bin .mul (t 34) (i 65280)),
     a 36 (.call 101 [(t 31), (t 35)]),
     a 2 (.mv (t 36)),
     a 3 (.mv (i 0))] (some [[], [], [1], [0, 2, 1], [], [4], [5, 4], [6, 5, 4], [3, 7, 3, 6, 5, 4, 0, 2, 1], [8, 8, 0, 1, 2, 3, 4, 5, 6, 7, 8, 3, 7, 3, 6, 5, 4, 0, 2, 1], [9, 0, 1, 2, 3, 4, 5, 6, 7, 8, 9, 8, 8, 0, 1, 2, 3, 4, 5, 6, 7, 8, 3, 7, 3, 6, 5, 4, 0, 2, 1]]))
   .ret)
   (.seq (.region [a 38 (.bin .eql (t 13) (i 6)),
     a 37 (.mv (t 38))] none)
   (.cond (t 37)
    (.seq (.region [a 39 (.mv (t 4)),
      a 40 (.fieldAddr 1 (t 1)),
      a 41 (.load none (t 40)),
      a 42 (.call 101 [(t 39), (t 41)]),
      a 43 (.fieldAddr 3 (t 1)),
      a 44 (.load none (t 43)),
      a 45 (.conv .i64 (t 44)),
      a 46 (.call 101 [(t 42), (t 45)]),
      a 2 (.mv (t 46)),
      a 3 (.mv (i 0))] (some [[], [], [1], [0, 2, 1], [], [4], [5, 4], [3, 6, 3, 5, 4, 0, 2, 1], [7, 7, 0, 1, 2, 3, 4, 5, 6, 7, 3, 6, 3, 5, 4, 0, 2, 1], [8, 0, 1, 2, 3, 4, 5, 6, 7, 8, 7, 7, 0, 1, 2, 3, 4, 5, 6, 7, 3, 6, 3, 5, 4, 0, 2, 1]]))
    .ret)
    (.seq (.region [a 48 (.bin .eql (t 13) (i 15)),
      a 47 (.mv (t 48))] none)
    (.cond (t 47)
     (.seq (.region [a 49 (.mv (t 4)),
       a 50 (.fieldAddr 1 (t 1)),
       a 51 (.load none (t 50)),
       a 52 (.call 101 [(t 49), (t 51)]),
       a 53 (.fieldAddr 2 (t 1)),
       a 54 (.load none (t 53)),
       a 55 (.call 101 [(t 52), (t 54)]),
       a 56 (.fieldAddr 2 (t 1)),
       a 57 (.load none (t 56)),
       a 58 (.call 120 [(t 57)]),
       a 59 (.conv .u8 (t 58)),
       a 60 (.mkList false 1 1 [(.int .u8 0)] [(0, (t 59))]),
       a 61 (.append 1 1 [(.int .u8 0)] (t 55) (t 60)),
       a 4 (.mv (t 61))] (some [[], [], [1], [0, 2, 1], [], [4], [3, 5, 3, 4, 0, 2, 1], [], [7], [8, 6, 7, 3, 5, 3, 4, 0, 2, 1], [9, 8, 6, 7, 3, 5, 3, 4, 0, 2, 1], [10, 9, 8, 6, 7, 3, 5, 3, 4, 0, 2, 1], [6, 11, 9, 10, 9, 8, 6, 7, 3, 5, 3, 4, 0, 2, 1], [12, 12, 0, 1, 2, 3, 4, 5, 6, 7, 8, 9, 10, 11, 12, 6, 11, 9, 10, 9, 8, 6, 7, 3, 5, 3, 4, 0, 2, 1]]))
     (.seq (.region [a 62 (.mv (t 4)),
       a 63 (.fieldAddr 6 (t 1)),
       a 64 (.load none (t 63)),
       a 65 (.call 99 [(t 64)]),
       a 66 (.append 1 1 [(.int .u8 0)] (t 62) (t 65)),
       a 2 (.mv (t 66)),
       a 3 (.mv (i 0))] none)
     .ret))
     (.seq (.region [a 68 (.bin .eql (t 13) (i 16)),
       a 67 (.mv (t 68))] none)
     (.cond (t 67)
      (.seq (.region [a 69 (.mv (t 4)),
        a 70 (.fieldAddr 1 (t 1)),
        a 71 (.load none (t 70)),
        a 72 (.call 101 [(t 69), (t 71)]),
        a 73 (.fieldAddr 2 (t 1)),
        a 74 (.load none (t 73)),
        a 75 (.call 101 [(t 72), (t 74)]),
        a 76 (.fieldAddr 2 (t 1)),
        a 77 (.load none (t 76)),
        a 78 (.bin .mul (i 2) (t 77)),
        a 79 (.conv .u8 (t 78)),
        a 80 (.mkList false 1 1 [(.int .u8 0)] [(0, (t 79))]),
        a 81 (.append 1 1 [(.int .u8 0)] (t 75) (t 80)),
        a 82 (.fieldAddr 7 (t 1)),
        a 83 (.load none (t 82)),
        a 84 (.call 100 [(t 81), (t 83)]),
        a 2 (.mv (t 84)),
        a 3 (.mv (i 0))] (some [[], [], [1], [0, 2, 1], [], [4], [3, 5, 3, 4, 0, 2, 1], [], [7], [8, 7], [9, 8, 7], [10, 9, 8, 7], [6, 11, 6, 10, 9, 8, 7, 3, 5, 3, 4, 0, 2, 1], [], [13], [12, 14, 12, 13, 6, 11, 6, 10, 9, 8, 7, 3, 5, 3, 4, 0, 2, 1], [15, 15, 0, 1, 2, 3, 4, 5, 6, 7, 8, 9, 10, 11, 12, 13, 14, 15, 12, 14, 12, 13, 6, 11, 6, 10, 9, 8, 7, 3, 5, 3, 4, 0, 2, 1], [16, 0, 1, 2, 3, 4, 5, 6, 7, 8, 9, 10, 11, 12, 13, 14, 15, 16, 15, 15, 0, 1, 2, 3, 4, 5, 6, 7, 8, 9, 10, 11, 12, 13, 14, 15, 12, 14, 12, 13, 6, 11, 6, 10, 9, 8, 7, 3, 5, 3, 4, 0, 2, 1]]))
      .ret)
      (.seq (.region [a 86 (.bin .eql (t 13) (i 22)),
        a 85 (.mv (t 86))] none)
      (.cond (t 85)
       (.seq (.region [a 87 (.mv (t 4)),
         a 88 (.fieldAddr 1 (t 1)),
         a 89 (.load none (t 88)),
         a 90 (.call 101 [(t 87), (t 89)]),
         a 91 (.fieldAddr 4 (t 1)),
         a 92 (.load none (t 91)),
         a 93 (.conv .i64 (t 92)),
         a 94 (.call 101 [(t 90), (t 93)]),
         a 95 (.fieldAddr 5 (t 1)),
         a 96 (.load none (t 95)),
         a 97 (.conv .i64 (t 96)),
         a 98 (.call 101 [(t 94), (t 97)]),
         a 2 (.mv (t 98)),
         a 3 (.mv (i 0))] (some [[], [], [1], [0, 2, 1], [], [4], [5, 4], [3, 6, 3, 5, 4, 0, 2, 1], [], [8], [9, 8], [7, 10, 7, 9, 8, 3, 6, 3, 5, 4, 0, 2, 1], [11, 11, 0, 1, 2, 3, 4, 5, 6, 7, 8, 9, 10, 11, 7, 10, 7, 9, 8, 3, 6, 3, 5, 4, 0, 2, 1], [12, 0, 1, 2, 3, 4, 5, 6, 7, 8, 9, 10, 11, 12, 11, 11, 0, 1, 2, 3, 4, 5, 6, 7, 8, 9, 10, 11, 7, 10, 7, 9, 8, 3, 6, 3, 5, 4, 0, 2, 1]]))
       .ret)
       (.seq (.region [a 100 (.bin .eql (t 13) (i 23)),
         a 99 (.mv (t 100))] none)
       (.cond (t 99)
        (.seq (.region [a 101 (.mv (t 4)),
          a 102 (.fieldAddr 8 (t 1)),
          a 103 (.load none (t 102)),
          a 104 (.call 101 [(t 101), (t 103)]),
          a 105 (.fieldAddr 9 (t 1)),
          a 106 (.load none (t 105)),
          a 107 (.call 101 [(t 104), (t 106)]),
          a 108 (.fieldAddr 1 (t 1)),
          a 109 (.load none (t 108)),
          a 110 (.call 101 [(t 107), (t 109)]),
          a 111 (.fieldAddr 2 (t 1)),
          a 112 (.load none (t 111)),
          a 113 (.call 101 [(t 110), (t 112)]),
          a 4 (.mv (t 113))] (some [[], [], [1], [0, 2, 1], [], [4], [3, 5, 3, 4, 0, 2, 1], [], [7], [6, 8, 6, 7, 3, 5, 3, 4, 0, 2, 1], [], [10], [9, 11, 9, 10, 6, 8, 6, 7, 3, 5, 3, 4, 0, 2, 1], [12, 12, 0, 1, 2, 3, 4, 5, 6, 7, 8, 9, 10, 11, 12, 9, 11, 9, 10, 6, 8, 6, 7, 3, 5, 3, 4, 0, 2, 1]]))
        (.seq (.region [a 114 (.mv (t 4)),
          a 115 (.fieldAddr 2 (t 1)),
          a 116 (.load none (t 115)),
          a 117 (.bin .mul (i 2) (t 116)),
          a 118 (.conv .u8 (t 117)),
          a 119 (.mkList false 1 1 [(.int .u8 0)] [(0, (t 118))]),
          a 120 (.append 1 1 [(.int .u8 0)] (t 114) (t 119)),
          a 121 (.fieldAddr 7 (t 1)),
          a 122 (.load none (t 121)),
          a 123 (.call 100 [(t 120), (t 122)]),
          a 2 (.mv (t 123)),
          a 3 (.mv (i 0))] (some [[], [], [1], [2, 1], [3, 2, 1], [4, 3, 2, 1], [0, 5, 4, 3, 2, 1], [], [7], [6, 8, 6, 7, 0, 5, 4, 3, 2, 1], [9, 9, 0, 1, 2, 3, 4, 5, 6, 7, 8, 9, 6, 8, 6, 7, 0, 5, 4, 3, 2, 1], [10, 0, 1, 2, 3, 4, 5, 6, 7, 8, 9, 10, 9, 9, 0, 1, 2, 3, 4, 5, 6, 7, 8, 9, 6, 8, 6, 7, 0, 5, 4, 3, 2, 1]]))
        .ret))
        .skip))))))))))))))))
 (.seq (.region [a 124 (.mv (t 4)),
   a 125 (.fieldAddr 10 (t 1)),
   a 126 (.load none (t 125)),
   a 127 (.conv .u8 (t 126)),
   a 128 (.fieldAddr 11 (t 1)),
   a 129 (.load none (t 128)),
   a 130 (.conv .u8 (t 129)),
   a 131 (.mkList false 1 3 [(.int .u8 0)] [(0, (.k (.c (.t (.int .u8 14))))), (1, (t 127)), (2, (t 130))]),
   a 132 (.append 1 1 [(.int .u8 0)] (t 124) (t 131)),
   a 2 (.mv (t 132)),
   a 3 (.mv (i 0))] none)
 .ret))))), [.tmp 2, .tmp 3]⟩
theorem t69 : FnAt Try.prog 69 a69 := .mk Try.func69 (by kernel_rfl) (by kernel_rfl)
/-- busbar/busbarref5.byteful -/
def a74 : AF := ⟨1, 9, (.seq (.region [a 2 (.mv (bo false))] none)
 (.seq (.region [a 3 (.mv (t 0)),
   a 4 (.bin .geq (t 3) (i 0)),
   a 5 (.mv (t 4)),
   g 6 5 true (.mv (t 0)),
   g 7 5 true (.bin .leq (t 6) (i 255)),
   a 8 (.pick (t 5) (t 7) (bo false)),
   a 2 (.mv (t 8))] none)
 .ret)), [.tmp 2]⟩
theorem t74 : FnAt Try.prog 74 a74 := .mk Try.func74 (by kernel_rfl) (by kernel_rfl)
/-- busbar/kind.Known -/
def a76 : AF := ⟨1, 15, (.seq (.region [a 2 (.mv (bo false))] none)
 (.seq (.region [a 6 (.mv (t 0)),
   a 7 (.call 83 [(t 6)]),
   a 5 (.mv (t 7)),
   a 8 (.extract (t 5) 0),
   a 9 (.extract (t 5) 1),
   a 3 (.mv (t 8)),
   a 4 (.mv (t 9))] none)
 (.seq (.region [a 10 (.mv (t 4)),
   a 11 (.mv (t 10)),
   g 12 11 false (.mv (t 0)),
   g 13 11 false (.bin .eql (t 12) (i 43)),
   a 14 (.pick (t 11) (bo true) (t 13)),
   a 2 (.mv (t 14))] none)
 .ret))), [.tmp 2]⟩
theorem t76 : FnAt Try.prog 76 a76 := .mk Try.func76 (by kernel_rfl) (by kernel_rfl)
/-- (*busbar/ask.cursor).fields -/
def a77 : AF := ⟨2, 92, (.seq (.region [a 4 (.alloc [(.t (.int .i64 0)), (.t (.int .i64 0)), (.t (.int .i64 0)), (.t (.int .u16 0)), (.t (.int .u16 0)), (.t (.int .u16 0)), (.t .nil), (.t .nil), (.t (.int .i64 0)), (.t (.int .i64 0)), (.t (.int .i64 0)), (.t (.int .i64 0))])] none)
 (.seq (.region [a 6 (.mv (t 1)),
   a 7 (.build [(.t (.int .i64 0)), (.t (.int .i64 0)), (.t (.int .i64 0)), (.t (.int .u16 0)), (.t (.int .u16 0)), (.t (.int .u16 0)), (.t .nil), (.t .nil), (.t (.int .i64 0)), (.t (.int .i64 0)), (.t (.int .i64 0)), (.t (.int .i64 0))] [(0, 1, (t 6))]),
   a 5 (.alloc [(.t (.int .i64 0)), (.t (.int .i64 0)), (.t (.int .i64 0)), (.t (.int .u16 0)), (.t (.int .u16 0)), (.t (.int .u16 0)), (.t .nil), (.t .nil), (.t (.int .i64 0)), (.t (.int .i64 0)), (.t (.int .i64 0)), (.t (.int .i64 0))]),
   a_ (.store 12 (t 5) (t 7))] none)
 (.seq (.seq (.region [a 8 (.mv (t 1))] none)
 (.block 0 (.seq (.block 8 (.seq (.block 7 (.seq (.block 6 (.seq (.block 5 (.seq (.block 4 (.seq (.block 3 (.seq (.block 2 (.seq (.block 1 (.seq (.seq (.seq (.seq (.region [a 10 (.bin .eql (t 8) (i 1)),
   a 9 (.mv (t 10))] none)
 (.cond (t 9)
  .skip
  (.seq (.region [a 11 (.bin .eql (t 8) (i 2)),
    a 9 (.mv (t 11))] none)
  (.cond (t 9)
   .skip
   (.seq (.region [a 12 (.bin .eql (t 8) (i 3)),
     a 9 (.mv (t 12))] none)
   (.cond (t 9)
    .skip
    (.region [a 13 (.bin .eql (t 8) (i 4)),
      a 9 (.mv (t 13))] none)))))))
 (.cond (t 9)
  (.exit 1)
  .skip))
 (.seq (.seq (.region [a 15 (.bin .eql (t 8) (i 5)),
   a 14 (.mv (t 15))] none)
 (.cond (t 14)
  (.exit 2)
  .skip))
 (.seq (.seq (.region [a 17 (.bin .eql (t 8) (i 6)),
   a 16 (.mv (t 17))] none)
 (.cond (t 16)
  (.exit 3)
  .skip))
 (.seq (.seq (.region [a 19 (.bin .eql (t 8) (i 15)),
   a 18 (.mv (t 19))] none)
 (.cond (t 18)
  (.exit 4)
  .skip))
 (.seq (.seq (.region [a 21 (.bin .eql (t 8) (i 22)),
   a 20 (.mv (t 21))] none)
 (.cond (t 20)
  (.exit 5)
  .skip))
 (.seq (.seq (.region [a 23 (.bin .eql (t 8) (i 23)),
   a 22 (.mv (t 23))] none)
 (.cond (t 22)
  (.exit 6)
  .skip))
 (.seq (.seq (.region [a 25 (.bin .eql (t 8) (i 16)),
   a 24 (.mv (t 25))] none)
 (.cond (t 24)
  (.exit 7)
  .skip))
 (.seq (.region [a 27 (.bin .eql (t 8) (i 43)),
   a 26 (.mv (t 27))] none)
 (.cond (t 26)
  (.exit 8)
  .skip)))))))))
 (.exit 0)))
 (.seq (.region [a 28 (.mv (t 0)),
   a 29 (.call 125 [(t 28)]),
   a 30 (.mv (t 0)),
   a 31 (.call 125 [(t 30)]),
   a 32 (.fieldAddr 1 (t 5)),
   a_ (.store 1 (t 32) (t 29)),
   a 33 (.fieldAddr 2 (t 5)),
   a_ (.store 1 (t 33) (t 31))] none)
 (.exit 0))))
 (.seq (.seq (.region [a 34 (.mv (t 0)),
   a 35 (.call 125 [(t 34)]),
   a 36 (.fieldAddr 1 (t 5)),
   a_ (.store 1 (t 36) (t 35))] none)
 (.region [a 37 (.mv (t 0)),
   a 38 (.call 126 [(t 37)]),
   a 39 (.fieldAddr 3 (t 5)),
   a_ (.store 1 (t 39) (t 38))] none))
 (.exit 0))))
 (.seq (.seq (.region [a 40 (.mv (t 0)),
   a 41 (.call 125 [(t 40)]),
   a 42 (.fieldAddr 1 (t 5)),
   a_ (.store 1 (t 42) (t 41))] none)
 (.region [a 43 (.mv (t 0)),
   a 44 (.call 127 [(t 43)]),
   a 45 (.fieldAddr 3 (t 5)),
   a_ (.store 1 (t 45) (t 44))] none))
 (.exit 0))))
 (.seq (.seq (.region [a 46 (.mv (t 0)),
   a 47 (.call 125 [(t 46)]),
   a 48 (.mv (t 0)),
   a 49 (.call 125 [(t 48)]),
   a 50 (.fieldAddr 1 (t 5)),
   a_ (.store 1 (t 50) (t 47)),
   a 51 (.fieldAddr 2 (t 5)),
   a_ (.store 1 (t 51) (t 49))] none)
 (.region [a 52 (.mv (t 0)),
   a 53 (.fieldAddr 2 (t 5)),
   a 54 (.load none (t 53)),
   a 55 (.call 128 [(t 52), (t 54)]),
   a 56 (.fieldAddr 6 (t 5)),
   a_ (.store 1 (t 56) (t 55))] none))
 (.exit 0))))
 (.seq (.seq (.region [a 57 (.mv (t 0)),
   a 58 (.call 125 [(t 57)]),
   a 59 (.fieldAddr 1 (t 5)),
   a_ (.store 1 (t 59) (t 58))] none)
 (.region [a 60 (.mv (t 0)),
   a 61 (.call 127 [(t 60)]),
   a 62 (.mv (t 0)),
   a 63 (.call 127 [(t 62)]),
   a 64 (.fieldAddr 4 (t 5)),
   a_ (.store 1 (t 64) (t 61)),
   a 65 (.fieldAddr 5 (t 5)),
   a_ (.store 1 (t 65) (t 63))] none))
 (.exit 0))))
 (.region [a 66 (.mv (t 0)),
   a 67 (.call 125 [(t 66)]),
   a 68 (.mv (t 0)),
   a 69 (.call 125 [(t 68)]),
   a 70 (.fieldAddr 8 (t 5)),
   a_ (.store 1 (t 70) (t 67)),
   a 71 (.fieldAddr 9 (t 5)),
   a_ (.store 1 (t 71) (t 69))] none)))
 (.seq (.seq (.region [a 72 (.mv (t 0)),
   a 73 (.call 125 [(t 72)]),
   a 74 (.mv (t 0)),
   a 75 (.call 125 [(t 74)]),
   a 76 (.fieldAddr 1 (t 5)),
   a_ (.store 1 (t 76) (t 73)),
   a 77 (.fieldAddr 2 (t 5)),
   a_ (.store 1 (t 77) (t 75))] none)
 (.region [a 78 (.mv (t 0)),
   a 79 (.fieldAddr 2 (t 5)),
   a 80 (.load none (t 79)),
   a 81 (.call 129 [(t 78), (t 80)]),
   a 82 (.fieldAddr 7 (t 5)),
   a_ (.store 1 (t 82) (t 81))] none))
 (.exit 0))))
 (.seq (.seq (.region [a 83 (.mv (t 0)),
   a 84 (.call 130 [(t 83)])] none)
 (.region [a 85 (.mv (t 0)),
   a 86 (.call 130 [(t 85)]),
   a 87 (.mv (t 0)),
   a 88 (.call 130 [(t 87)]),
   a 89 (.fieldAddr 10 (t 5)),
   a_ (.store 1 (t 89) (t 86)),
   a 90 (.fieldAddr 11 (t 5)),
   a_ (.store 1 (t 90) (t 88))] none))
 (.exit 0)))))
 (.seq (.region [a 91 (.load (some 12) (t 5)),
   a_ (.store 12 (t 4) (t 91))] none)
 .ret)))), [.cell 4 (some 12)]⟩
theorem t77 : FnAt Try.prog 77 a77 := .mk Try.func77 (by kernel_rfl) (by kernel_rfl)
/-- busbar/busbarref1.Known -/
def a78 : AF := ⟨1, 29, (.seq (.region [a 2 (.mv (bo false))] none)
 (.seq (.region [a 3 (.mv (t 0)),
   a 4 (.bin .geq (t 3) (i 1)),
   a 5 (.mv (t 4)),
   g 6 5 true (.mv (t 0)),
   g 7 5 true (.bin .leq (t 6) (i 6)),
   a 8 (.pick (t 5) (t 7) (bo false)),
   a 9 (.mv (t 8)),
   g 10 9 false (.mv (t 0)),
   g 11 9 false (.bin .eql (t 10) (i 15)),
   a 12 (.pick (t 9) (bo true) (t 11)),
   a 13 (.mv (t 12)),
   g 14 13 false (.mv (t 0)),
   g 15 13 false (.bin .eql (t 14) (i 16)),
   a 16 (.pick (t 13) (bo true) (t 15)),
   a 17 (.mv (t 16)),
   g 18 17 false (.mv (t 0)),
   g 19 17 false (.bin .eql (t 18) (i 22)),
   a 20 (.pick (t 17) (bo true) (t 19)),
   a 21 (.mv (t 20)),
   g 22 21 false (.mv (t 0)),
   g 23 21 false (.bin .eql (t 22) (i 23)),
   a 24 (.pick (t 21) (bo true) (t 23)),
   a 25 (.mv (t 24)),
   g 26 25 false (.mv (t 0)),
   g 27 25 false (.bin .eql (t 26) (i 43)),
   a 28 (.pick (t 25) (bo true) (t 27)),
   a 2 (.mv (t 28))] none)
 .ret)), [.tmp 2]⟩
theorem t78 : FnAt Try.prog 78 a78 := .mk Try.func78 (by kernel_rfl) (by kernel_rfl)
/-- busbar/busbarref5.read -/
def a79 : AF := ⟨1, 203, (.seq (.region [a 2 (.alloc [(.t (.int .i64 0)), (.t (.int .i64 0)), (.t (.int .i64 0)), (.t (.int .u16 0)), (.t (.int .u16 0)), (.t (.int .u16 0)), (.t .nil), (.t .nil), (.t (.int .i64 0)), (.t (.int .i64 0)), (.t (.int .i64 0)), (.t (.int .i64 0))]),
   a 3 (.mv (bo false))] none)
 (.seq (.region [a 13 (.mv (t 0)),
   a 14 (.idxAddr 1 (t 13) (i 0)),
   a 15 (.load none (t 14)),
   a 16 (.conv .i64 (t 15)),
   a 17 (.build [(.t (.int .i64 0)), (.t (.int .i64 0)), (.t (.int .i64 0)), (.t (.int .u16 0)), (.t (.int .u16 0)), (.t (.int .u16 0)), (.t .nil), (.t .nil), (.t (.int .i64 0)), (.t (.int .i64 0)), (.t (.int .i64 0)), (.t (.int .i64 0))] [(0, 1, (t 16))]),
   a 4 (.alloc [(.t (.int .i64 0)), (.t (.int .i64 0)), (.t (.int .i64 0)), (.t (.int .u16 0)), (.t (.int .u16 0)), (.t (.int .u16 0)), (.t .nil), (.t .nil), (.t (.int .i64 0)), (.t (.int .i64 0)), (.t (.int .i64 0)), (.t (.int .i64 0))]),
   a_ (.store 12 (t 4) (t 17))] none)
 (.seq (.region [a 18 (.mv (t 0)),
   a 19 (.len false (t 18)),
   a 20 (.bin .eql (t 19) (i 5)),
   a 5 (.mv (t 20))] none)
 (.seq (.seq (.region [a 21 (.fieldAddr 0 (t 4)),
   a 22 (.load none (t 21))] none)
 (.block 0 (.seq (.seq (.region [a 24 (.bin .eql (t 22) (i 1)),
   a 23 (.mv (t 24))] none)
 (.cond (t 23)
  .skip
  (.seq (.region [a 25 (.bin .eql (t 22) (i 2)),
    a 23 (.mv (t 25))] none)
  (.cond (t 23)
   .skip
   (.seq (.region [a 26 (.bin .eql (t 22) (i 3)),
     a 23 (.mv (t 26))] none)
   (.cond (t 23)
    .skip
    (.region [a 27 (.bin .eql (t 22) (i 4)),
      a 23 (.mv (t 27))] none)))))))
 (.cond (t 23)
  (.region [a 28 (.mv (t 0)),
    a 29 (.call 131 [(t 28), (i 1)]),
    a 30 (.mv (t 0)),
    a 31 (.call 131 [(t 30), (i 3)]),
    a 32 (.fieldAddr 1 (t 4)),
    a_ (.store 1 (t 32) (t 29)),
    a 33 (.fieldAddr 2 (t 4)),
    a_ (.store 1 (t 33) (t 31))] none)
  (.seq (.region [a 35 (.bin .eql (t 22) (i 5)),
    a 34 (.mv (t 35))] none)
  (.cond (t 34)
   (.seq (.region [a 36 (.mv (t 0)),
     a 37 (.call 131 [(t 36), (i 1)]),
     a 38 (.fieldAddr 1 (t 4)),
     a_ (.store 1 (t 38) (t 37))] none)
   (.seq (.region [a 39 (.mv (t 0)),
     a 40 (.call 131 [(t 39), (i 3)]),
     a 6 (.mv (t 40))] none)
   (.seq (.region [a 41 (.mv (t 5)),
     a 42 (.mv (t 41)),
     g 43 42 true (.mv (t 6)),
     g 44 42 true (.bin .eql (t 43) (i 0)),
     g 45 42 true (.mv (t 44)),
     g 46 45 false (.mv (t 6)),
     g 47 45 false (.bin .eql (t 46) (i 65280)),
     g 48 42 true (.pick (t 45) (bo true) (t 47)),
     a 49 (.pick (t 42) (t 48) (bo false)),
     a 5 (.mv (t 49))] none)
   (.seq (.region [a 50 (.mv (t 6)),
     a 51 (.bin .eql (t 50) (i 65280))] none)
   (.cond (t 51)
    (.region [a 52 (.fieldAddr 3 (t 4)),
      a_ (.store 1 (t 52) (.k (.c (.t (.int .u16 1)))))] none)
    .skip)))))
   (.seq (.region [a 54 (.bin .eql (t 22) (i 6)),
     a 53 (.mv (t 54))] none)
   (.cond (t 53)
    (.region [a 55 (.mv (t 0)),
      a 56 (.call 131 [(t 55), (i 1)]),
      a 57 (.mv (t 0)),
      a 58 (.call 131 [(t 57), (i 3)]),
      a 59 (.conv .u16 (t 58)),
      a 60 (.fieldAddr 1 (t 4)),
      a_ (.store 1 (t 60) (t 56)),
      a 61 (.fieldAddr 3 (t 4)),
      a_ (.store 1 (t 61) (t 59))] none)
    (.seq (.region [a 63 (.bin .eql (t 22) (i 15)),
      a 62 (.mv (t 63))] none)
    (.cond (t 62)
     (.seq (.seq (.region [a 64 (.mv (t 0)),
       a 65 (.len false (t 64)),
       a 66 (.bin .lss (t 65) (i 6))] none)
     (.cond (t 66)
      (.seq (.region [a 67 (.load (some 12) (t 4)),
        a_ (.store 12 (t 2) (t 67)),
        a 3 (.mv (bo false))] none)
      .ret)
      .skip))
     (.seq (.region [a 68 (.mv (t 0)),
       a 69 (.call 131 [(t 68), (i 1)]),
       a 70 (.mv (t 0)),
       a 71 (.call 131 [(t 70), (i 3)]),
       a 72 (.fieldAddr 1 (t 4)),
       a_ (.store 1 (t 72) (t 69)),
       a 73 (.fieldAddr 2 (t 4)),
       a_ (.store 1 (t 73) (t 71))] none)
     (.seq (.region [a 75 (.mv (t 0)),
       a 76 (.slice 1 (t 75) (some (i 6)) none),
       a 77 (.fieldAddr 2 (t 4)),
       a 78 (.load none (t 77)),
       a 79 (.call 132 [(t 76), (t 78)]),
       a 74 (.mv (t 79)),
       a 80 (.extract (t 74) 0),
       a 81 (.extract (t 74) 1),
       a 7 (.mv (t 80)),
       a 8 (.mv (t 81))] (some [[], [0], [], [2], [1, 3, 2, 0], [4, 1, 3, 2, 0], [5, 4, 1, 3, 2, 0], [5, 4, 1, 3, 2, 0], [6, 4, 0, 1, 2, 3, 4, 5, 6, 5, 4, 1, 3, 2, 0], [7, 8, 0, 1, 2, 3, 4, 5, 6, 7, 8, 6, 4, 0, 1, 2, 3, 4, 5, 6, 5, 5, 4, 1, 3, 2, 0]]))
     (.seq (.region [a 82 (.mv (t 7)),
       a 83 (.fieldAddr 6 (t 4)),
       a_ (.store 1 (t 83) (t 82))] none)
     (.region [a 84 (.mv (t 8)),
       a 85 (.mv (t 84)),
       g 86 85 true (.mv (t 0)),
       g 87 85 true (.idxAddr 1 (t 86) (i 5)),
       g 88 85 true (.load none (t 87)),
       g 89 85 true (.conv .i64 (t 88)),
       g 90 85 true (.fieldAddr 2 (t 4)),
       g 91 85 true (.load none (t 90)),
       g 92 85 true (.call 120 [(t 91)]),
       g 93 85 true (.bin .eql (t 89) (t 92)),
       a 94 (.pick (t 85) (t 93) (bo false)),
       a 5 (.mv (t 94))] (some [[], [0], [1, 0], [2, 1, 1, 0], [3, 1, 2, 1, 1, 0], [4, 1, 3, 1, 2, 1, 1, 0], [1, 0], [6, 1, 1, 0], [7, 1, 1, 6, 1, 1, 0], [5, 8, 1, 7, 1, 1, 6, 1, 1, 4, 1, 3, 1, 2, 1, 1, 0], [1, 9, 5, 8, 1, 7, 1, 1, 6, 1, 1, 4, 1, 3, 1, 2, 1, 1, 0], [10, 8, 0, 1, 2, 3, 4, 5, 6, 7, 8, 9, 10, 1, 9, 5, 8, 1, 7, 1, 1, 6, 1, 1, 4, 1, 3, 1, 2, 1, 1, 0]]))))))
     (.seq (.region [a 96 (.bin .eql (t 22) (i 16)),
       a 95 (.mv (t 96))] none)
     (.cond (t 95)
      (.seq (.seq (.region [a 97 (.mv (t 0)),
        a 98 (.len false (t 97)),
        a 99 (.bin .lss (t 98) (i 6))] none)
      (.cond (t 99)
       (.seq (.region [a 100 (.load (some 12) (t 4)),
         a_ (.store 12 (t 2) (t 100)),
         a 3 (.mv (bo false))] none)
       .ret)
       .skip))
      (.seq (.region [a 101 (.mv (t 0)),
        a 102 (.call 131 [(t 101), (i 1)]),
        a 103 (.mv (t 0)),
        a 104 (.call 131 [(t 103), (i 3)]),
        a 105 (.fieldAddr 1 (t 4)),
        a_ (.store 1 (t 105) (t 102)),
        a 106 (.fieldAddr 2 (t 4)),
        a_ (.store 1 (t 106) (t 104))] none)
      (.seq (.region [a 108 (.mv (t 0)),
        a 109 (.fieldAddr 2 (t 4)),
        a 110 (.load none (t 109)),
        a 111 (.call 133 [(t 108), (i 6), (t 110)]),
        a 107 (.mv (t 111)),
        a 112 (.extract (t 107) 0),
        a 113 (.extract (t 107) 1),
        a 9 (.mv (t 112)),
        a 10 (.mv (t 113))] none)
      (.seq (.region [a 114 (.mv (t 9)),
        a 115 (.fieldAddr 7 (t 4)),
        a_ (.store 1 (t 115) (t 114))] none)
      (.region [a 116 (.mv (t 10)),
        a 117 (.mv (t 116)),
        g 118 117 true (.mv (t 0)),
        g 119 117 true (.idxAddr 1 (t 118) (i 5)),
        g 120 117 true (.load none (t 119)),
        g 121 117 true (.conv .i64 (t 120)),
        g 122 117 true (.fieldAddr 2 (t 4)),
        g 123 117 true (.load none (t 122)),
        g 124 117 true (.bin .mul (i 2) (t 123)),
        g 125 117 true (.bin .eql (t 121) (t 124)),
        a 126 (.pick (t 117) (t 125) (bo false)),
        a 5 (.mv (t 126))] (some [[], [0], [1, 0], [2, 1, 1, 0], [3, 1, 2, 1, 1, 0], [4, 1, 3, 1, 2, 1, 1, 0], [1, 0], [6, 1, 1, 0], [7, 1, 6, 1, 1, 0], [5, 8, 1, 7, 1, 6, 1, 1, 4, 1, 3, 1, 2, 1, 1, 0], [1, 9, 5, 8, 1, 7, 1, 6, 1, 1, 4, 1, 3, 1, 2, 1, 1, 0], [10, 1, 0, 1, 2, 3, 4, 5, 6, 7, 8, 9, 10, 1, 9, 5, 8, 1, 7, 1, 6, 1, 1, 4, 1, 3, 1, 2, 1, 1, 0]]))))))
      (.seq (.region [a 128 (.bin .eql (t 22) (i 22)),
        a 127 (.mv (t 128))] none)
      (.cond (t 127)
       (.seq (.region [a 129 (.mv (t 0)),
         a 130 (.len false (t 129)),
         a 131 (.bin .eql (t 130) (i 7)),
         a 5 (.mv (t 131))] none)
       (.region [a 132 (.mv (t 0)),
         a 133 (.call 131 [(t 132), (i 1)]),
         a 134 (.mv (t 0)),
         a 135 (.call 131 [(t 134), (i 3)]),
         a 136 (.conv .u16 (t 135)),
         a 137 (.mv (t 0)),
         a 138 (.call 131 [(t 137), (i 5)]),
         a 139 (.conv .u16 (t 138)),
         a 140 (.fieldAddr 1 (t 4)),
         a_ (.store 1 (t 140) (t 133)),
         a 141 (.fieldAddr 4 (t 4)),
         a_ (.store 1 (t 141) (t 136)),
         a 142 (.fieldAddr 5 (t 4)),
         a_ (.store 1 (t 142) (t 139))] none))
       (.seq (.region [a 144 (.bin .eql (t 22) (i 23)),
         a 143 (.mv (t 144))] none)
       (.cond (t 143)
        (.seq (.seq (.region [a 145 (.mv (t 0)),
          a 146 (.len false (t 145)),
          a 147 (.bin .lss (t 146) (i 10))] none)
        (.cond (t 147)
         (.seq (.region [a 148 (.load (some 12) (t 4)),
           a_ (.store 12 (t 2) (t 148)),
           a 3 (.mv (bo false))] none)
         .ret)
         .skip))
        (.seq (.region [a 149 (.mv (t 0)),
          a 150 (.call 131 [(t 149), (i 1)]),
          a 151 (.mv (t 0)),
          a 152 (.call 131 [(t 151), (i 3)]),
          a 153 (.mv (t 0)),
          a 154 (.call 131 [(t 153), (i 5)]),
          a 155 (.mv (t 0)),
          a 156 (.call 131 [(t 155), (i 7)]),
          a 157 (.fieldAddr 8 (t 4)),
          a_ (.store 1 (t 157) (t 150)),
          a 158 (.fieldAddr 9 (t 4)),
          a_ (.store 1 (t 158) (t 152)),
          a 159 (.fieldAddr 1 (t 4)),
          a_ (.store 1 (t 159) (t 154)),
          a 160 (.fieldAddr 2 (t 4)),
          a_ (.store 1 (t 160) (t 156))] none)
        (.seq (.region [a 162 (.mv (t 0)),
          a 163 (.fieldAddr 2 (t 4)),
          a 164 (.load none (t 163)),
          a 165 (.call 133 [(t 162), (i 10), (t 164)]),
          a 161 (.mv (t 165)),
          a 166 (.extract (t 161) 0),
          a 167 (.extract (t 161) 1),
          a 11 (.mv (t 166)),
          a 12 (.mv (t 167))] none)
        (.seq (.region [a 168 (.mv (t 11)),
          a 169 (.fieldAddr 7 (t 4)),
          a_ (.store 1 (t 169) (t 168))] none)
        (.region [a 170 (.mv (t 12)),
          a 171 (.mv (t 170)),
          g 172 171 true (.mv (t 0)),
          g 173 171 true (.idxAddr 1 (t 172) (i 9)),
          g 174 171 true (.load none (t 173)),
          g 175 171 true (.conv .i64 (t 174)),
          g 176 171 true (.fieldAddr 2 (t 4)),
          g 177 171 true (.load none (t 176)),
          g 178 171 true (.bin .mul (i 2) (t 177)),
          g 179 171 true (.bin .eql (t 175) (t 178)),
          a 180 (.pick (t 171) (t 179) (bo false)),
          a 5 (.mv (t 180))] (some [[], [0], [1, 0], [2, 1, 1, 0], [3, 1, 2, 1, 1, 0], [4, 1, 3, 1, 2, 1, 1, 0], [1, 0], [6, 1, 1, 0], [7, 1, 6, 1, 1, 0], [5, 8, 1, 7, 1, 6, 1, 1, 4, 1, 3, 1, 2, 1, 1, 0], [1, 9, 5, 8, 1, 7, 1, 6, 1, 1, 4, 1, 3, 1, 2, 1, 1, 0], [10, 1, 0, 1, 2, 3, 4, 5, 6, 7, 8, 9, 10, 1, 9, 5, 8, 1, 7, 1, 6, 1, 1, 4, 1, 3, 1, 2, 1, 1, 0]]))))))
        (.seq (.region [a 182 (.bin .eql (t 22) (i 43)),
          a 181 (.mv (t 182))] none)
        (.cond (t 181)
         (.seq (.seq (.region [a 183 (.mv (t 0)),
           a 184 (.len false (t 183)),
           a 185 (.bin .neq (t 184) (i 4))] none)
         (.cond (t 185)
          (.seq (.region [a 186 (.load (some 12) (t 4)),
            a_ (.store 12 (t 2) (t 186)),
            a 3 (.mv (bo false))] none)
          .ret)
          .skip))
         (.seq (.region [a 187 (.mv (t 0)),
           a 188 (.idxAddr 1 (t 187) (i 2)),
           a 189 (.load none (t 188)),
           a 190 (.conv .i64 (t 189)),
           a 191 (.mv (t 0)),
           a 192 (.idxAddr 1 (t 191) (i 3)),
           a 193 (.load none (t 192)),
           a 194 (.conv .i64 (t 193)),
           a 195 (.fieldAddr 10 (t 4)),
           a_ (.store 1 (t 195) (t 190)),
           a 196 (.fieldAddr 11 (t 4)),
           a_ (.store 1 (t 196) (t 194))] (some [[], [0], [1, 0], [2, 1, 0], [], [4], [5, 4], [6, 5, 4], [0, 1, 2, 3, 2, 1, 0], [8, 3, 0, 1, 2, 3, 0, 1, 2, 3, 2, 1, 0], [0, 1, 2, 3, 4, 5, 6, 7, 8, 9, 8, 3, 0, 1, 2, 3, 0, 1, 2, 3, 6, 5, 4, 2, 1, 0], [10, 7, 9, 0, 1, 2, 3, 4, 5, 6, 7, 8, 9, 0, 1, 2, 3, 4, 5, 6, 7, 8, 9, 8, 3, 0, 1, 2, 3, 0, 1, 2, 3, 6, 5, 4, 2, 1, 0]]))
         (.region [a 5 (.mv (bo true))] none)))
         .skip))))))))))))))))))
 (.seq (.region [a 197 (.load (some 12) (t 4)),
   a 198 (.mv (t 5)),
   a 199 (.mv (t 198)),
   g 200 199 true (.load (some 12) (t 4)),
   g 201 199 true (.call 97 [(t 200)]),
   a 202 (.pick (t 199) (t 201) (bo false)),
   a_ (.store 12 (t 2) (t 197)),
   a 3 (.mv (t 202))] (some [[], [], [1], [2, 1], [3, 2, 2, 2, 1], [2, 4, 3, 2, 2, 2, 1], [0, 4, 0, 3, 2, 2, 2, 1], [5, 6, 0, 1, 2, 3, 4, 5, 6, 0, 4, 0, 2, 4, 3, 2, 2, 2, 1]]))
 .ret))))), [.cell 2 (some 12), .tmp 3]⟩
theorem t79 : FnAt Try.prog 79 a79 := .mk Try.func79 (by kernel_rfl) (by kernel_rfl)
/-- busbar/busbarref5.sameBits -/
def a80 : AF := ⟨2, 26, (.seq (.region [a 4 (.mv (bo false))] none)
 (.seq (.seq (.region [a 6 (.mv (t 0)),
   a 7 (.len false (t 6)),
   a 8 (.mv (t 1)),
   a 9 (.len false (t 8)),
   a 10 (.bin .neq (t 7) (t 9))] none)
 (.cond (t 10)
  (.seq (.region [a 4 (.mv (bo false))] none)
  .ret)
  .skip))
 (.seq (.seq (.region [a 5 (.mv (i 0))] none)
 (.block 0 (.loop
  (.seq (.seq (.region [a 11 (.mv (t 5)),
    a 12 (.mv (t 0)),
    a 13 (.len false (t 12)),
    a 14 (.bin .lss (t 11) (t 13))] none)
  (.cond (t 14)
   .skip
   (.exit 0)))
  (.seq (.block 1 (.seq (.region [a 17 (.mv (t 0)),
    a 18 (.mv (t 5)),
    a 19 (.idxAddr 1 (t 17) (t 18)),
    a 20 (.load none (t 19)),
    a 21 (.mv (t 1)),
    a 22 (.mv (t 5)),
    a 23 (.idxAddr 1 (t 21) (t 22)),
    a 24 (.load none (t 23)),
    a 25 (.binB true (t 20) (t 24))] (some [[], [], [0, 1], [2, 0, 1], [], [], [4, 5], [6, 4, 5], [3, 7, 6, 4, 5, 2, 0, 1]]))
  (.cond (t 25)
   (.seq (.region [a 4 (.mv (bo false))] none)
   .ret)
   .skip)))
  (.region [a 15 (.mv (t 5)),
    a 16 (.bin .add (t 15) (i 1)),
    a 5 (.mv (t 16))] none))))))
 (.seq (.region [a 4 (.mv (bo true))] none)
 .ret)))), [.tmp 4]⟩
theorem t80 : FnAt Try.prog 80 a80 := .mk Try.func80 (by kernel_rfl) (by kernel_rfl)
/-- busbar/busbarref5.SameWords -/
def a81 : AF := ⟨2, 26, (.seq (.region [a 4 (.mv (bo false))] none)
 (.seq (.seq (.region [a 6 (.mv (t 0)),
   a 7 (.len false (t 6)),
   a 8 (.mv (t 1)),
   a 9 (.len false (t 8)),
   a 10 (.bin .neq (t 7) (t 9))] none)
 (.cond (t 10)
  (.seq (.region [a 4 (.mv (bo false))] none)
  .ret)
  .skip))
 (.seq (.seq (.region [a 5 (.mv (i 0))] none)
 (.block 0 (.loop
  (.seq (.seq (.region [a 11 (.mv (t 5)),
    a 12 (.mv (t 0)),
    a 13 (.len false (t 12)),
    a 14 (.bin .lss (t 11) (t 13))] none)
  (.cond (t 14)
   .skip
   (.exit 0)))
  (.seq (.block 1 (.seq (.region [a 17 (.mv (t 0)),
    a 18 (.mv (t 5)),
    a 19 (.idxAddr 1 (t 17) (t 18)),
    a 20 (.load none (t 19)),
    a 21 (.mv (t 1)),
    a 22 (.mv (t 5)),
    a 23 (.idxAddr 1 (t 21) (t 22)),
    a 24 (.load none (t 23)),
    a 25 (.bin .neq (t 20) (t 24))] (some [[], [], [0, 1], [2, 0, 1], [], [], [4, 5], [6, 4, 5], [3, 7, 6, 4, 5, 2, 0, 1]]))
  (.cond (t 25)
   (.seq (.region [a 4 (.mv (bo false))] none)
   .ret)
   .skip)))
  (.region [a 15 (.mv (t 5)),
    a 16 (.bin .add (t 15) (i 1)),
    a 5 (.mv (t 16))] none))))))
 (.seq (.region [a 4 (.mv (bo true))] none)
 .ret)))), [.tmp 4]⟩
theorem t81 : FnAt Try.prog 81 a81 := .mk Try.func81 (by kernel_rfl) (by kernel_rfl)
/-- busbar/busbarlaw0.words -/
def a82 : AF := ⟨2, 21, (.seq (.region [a 4 (.mv (.k (.c (.t .nil))))] none)
 (.seq (.region [a 5 (.mv (.k (.c (.t .nil))))] none)
 (.seq (.seq (.region [a 6 (.mv (i 0))] none)
 (.block 0 (.loop
  (.seq (.seq (.region [a 7 (.mv (t 6)),
    a 8 (.mv (t 1)),
    a 9 (.bin .lss (t 7) (t 8))] none)
  (.cond (t 9)
   .skip
   (.exit 0)))
  (.seq (.block 1 (.region [a 12 (.mv (t 5)),
    a 13 (.mv (t 0)),
    a 14 (.call 22 [(t 13), (i 60000)]),
    a 15 (.mv (t 6)),
    a 16 (.bin .add (t 14) (t 15)),
    a 17 (.conv .u16 (t 16)),
    a 18 (.mkList false 1 1 [(.int .u16 0)] [(0, (t 17))]),
    a 19 (.append 1 2 [(.int .u16 0)] (t 12) (t 18)),
    a 5 (.mv (t 19))] none))
  (.region [a 10 (.mv (t 6)),
    a 11 (.bin .add (t 10) (i 1)),
    a 6 (.mv (t 11))] none))))))
 (.seq (.region [a 20 (.mv (t 5)),
   a 4 (.mv (t 20))] none)
 .ret)))), [.tmp 4]⟩
theorem t82 : FnAt Try.prog 82 a82 := .mk Try.func82 (by kernel_rfl) (by kernel_rfl)
/-- busbar/kind.Table -/
def a83 : AF := ⟨1, 19, (.seq (.region [a 2 (.mv (i 0)),
   a 3 (.mv (bo false))] none)
 (.seq (.seq (.region [a 4 (.mv (t 0))] none)
 (.block 0 (.seq (.seq (.region [a 6 (.bin .eql (t 4) (i 1)),
   a 5 (.mv (t 6))] none)
 (.cond (t 5)
  .skip
  (.seq (.region [a 7 (.bin .eql (t 4) (i 5)),
    a 5 (.mv (t 7))] none)
  (.cond (t 5)
   .skip
   (.region [a 8 (.bin .eql (t 4) (i 15)),
     a 5 (.mv (t 8))] none)))))
 (.cond (t 5)
  (.seq (.region [a 2 (.mv (i 0)),
    a 3 (.mv (bo true))] none)
  .ret)
  (.seq (.region [a 10 (.bin .eql (t 4) (i 2)),
    a 9 (.mv (t 10))] none)
  (.cond (t 9)
   (.seq (.region [a 2 (.mv (i 1)),
     a 3 (.mv (bo true))] none)
   .ret)
   (.seq (.seq (.region [a 12 (.bin .eql (t 4) (i 3)),
     a 11 (.mv (t 12))] none)
   (.cond (t 11)
    .skip
    (.seq (.region [a 13 (.bin .eql (t 4) (i 6)),
      a 11 (.mv (t 13))] none)
    (.cond (t 11)
     .skip
     (.seq (.region [a 14 (.bin .eql (t 4) (i 16)),
       a 11 (.mv (t 14))] none)
     (.cond (t 11)
      .skip
      (.seq (.region [a 15 (.bin .eql (t 4) (i 22)),
        a 11 (.mv (t 15))] none)
      (.cond (t 11)
       .skip
       (.region [a 16 (.bin .eql (t 4) (i 23)),
         a 11 (.mv (t 16))] none)))))))))
   (.cond (t 11)
    (.seq (.region [a 2 (.mv (i 2)),
      a 3 (.mv (bo true))] none)
    .ret)
    (.seq (.region [a 18 (.bin .eql (t 4) (i 4)),
      a 17 (.mv (t 18))] none)
    (.cond (t 17)
     (.seq (.region [a 2 (.mv (i 3)),
       a 3 (.mv (bo true))] none)
     .ret)
     .skip))))))))))
 (.seq (.region [a 2 (.mv (i 0)),
   a 3 (.mv (bo false))] none)
 .ret))), [.tmp 2, .tmp 3]⟩
theorem t83 : FnAt Try.prog 83 a83 := .mk Try.func83 (by kernel_rfl) (by kernel_rfl)
/-- busbar/bits.Pack -/
def a84 : AF := ⟨1, 31, (.seq (.region [a 2 (.mv (.k (.c (.t .nil))))] none)
 (.seq (.region [a 6 (.mv (t 0)),
   a 7 (.len false (t 6)),
   a 8 (.call 88 [(t 7)]),
   a 9 (.mkSlice 1 1 [(.int .u8 0)] (t 8) (t 8)),
   a 3 (.mv (t 9))] none)
 (.seq (.seq (.region [a 10 (.mv (t 0)),
   a 11 (.len false (t 10)),
   a 12 (.mv (i 0))] none)
 (.block 0 (.loop
  (.seq (.region [a 13 (.bin .lss (t 12) (t 11))] none)
  (.seq (.cond (t 13)
   .skip
   (.exit 0))
  (.seq (.block 1 (.seq (.region [a 14 (.mv (t 12)),
    a 15 (.idxAddr 1 (t 10) (t 12)),
    a 16 (.load none (t 15)),
    a 4 (.mv (t 14)),
    a 5 (.mv (t 16))] none)
  (.seq (.region [a 17 (.mv (t 5))] none)
  (.cond (t 17)
   (.region [a 18 (.mv (t 3)),
     a 19 (.mv (t 4)),
     a 20 (.bin .shr (t 19) (.k (.c (.t (.int .u64 3))))),
     a 21 (.idxAddr 1 (t 18) (t 20)),
     a 22 (.load none (t 21)),
     a 23 (.mv (t 4)),
     a 24 (.bin .and (t 23) (i 7)),
     a 25 (.conv .u64 (t 24)),
     a 26 (.bin .shl (.k (.c (.t (.int .u8 1)))) (t 25)),
     a 27 (.bin .or (t 22) (t 26)),
     a 28 (.idxAddr 1 (t 18) (t 20)),
     a_ (.store 1 (t 28) (t 27))] none)
   .skip))))
  (.region [a 29 (.bin .add (t 12) (i 1)),
    a 12 (.mv (t 29))] none)))))))
 (.seq (.region [a 30 (.mv (t 3)),
   a 2 (.mv (t 30))] none)
 .ret)))), [.tmp 2]⟩
theorem t84 : FnAt Try.prog 84 a84 := .mk Try.func84 (by kernel_rfl) (by kernel_rfl)
/-- busbar/tell.put -/
def a85 : AF := ⟨2, 18, (.seq (.region [a 4 (.mv (.k (.c (.t .nil))))] none)
 (.seq (.seq (.region [a 7 (.mv (t 1)),
   a 8 (.len false (t 7)),
   a 9 (.mv (i 0))] none)
 (.block 0 (.loop
  (.seq (.region [a 10 (.bin .lss (t 9) (t 8))] none)
  (.seq (.cond (t 10)
   .skip
   (.exit 0))
  (.seq (.block 1 (.seq (.region [a 11 (.idxAddr 1 (t 7) (t 9)),
    a 12 (.load none (t 11)),
    a 6 (.mv (t 12))] none)
  (.region [a 13 (.mv (t 0)),
    a 14 (.mv (t 6)),
    a 15 (.call 134 [(t 13), (t 14)]),
    a 0 (.mv (t 15))] none)))
  (.region [a 16 (.bin .add (t 9) (i 1)),
    a 9 (.mv (t 16))] none)))))))
 (.seq (.region [a 17 (.mv (t 0)),
   a 4 (.mv (t 17))] none)
 .ret))), [.tmp 4]⟩
theorem t85 : FnAt Try.prog 85 a85 := .mk Try.func85 (by kernel_rfl) (by kernel_rfl)
/-- busbar/ask.put -/
def a87 : AF := ⟨2, 18, (.seq (.region [a 4 (.mv (.k (.c (.t .nil))))] none)
 (.seq (.seq (.region [a 7 (.mv (t 1)),
   a 8 (.len false (t 7)),
   a 9 (.mv (i 0))] none)
 (.block 0 (.loop
  (.seq (.region [a 10 (.bin .lss (t 9) (t 8))] none)
  (.seq (.cond (t 10)
   .skip
   (.exit 0))
  (.seq (.block 1 (.seq (.region [a 11 (.idxAddr 1 (t 7) (t 9)),
    a 12 (.load none (t 11)),
    a 6 (.mv (t 12))] none)
  (.region [a 13 (.mv (t 0)),
    a 14 (.mv (t 6)),
    a 15 (.call 134 [(t 13), (t 14)]),
    a 0 (.mv (t 15))] none)))
  (.region [a 16 (.bin .add (t 9) (i 1)),
    a 9 (.mv (t 16))] none)))))))
 (.seq (.region [a 17 (.mv (t 0)),
   a 4 (.mv (t 17))] none)
 .ret))), [.tmp 4]⟩
theorem t87 : FnAt Try.prog 87 a87 := .mk Try.func87 (by kernel_rfl) (by kernel_rfl)
/-- busbar/bits.Bytes -/
def a88 : AF := ⟨1, 9, (.seq (.region [a 2 (.mv (i 0))] none)
 (.seq (.seq (.region [a 3 (.mv (t 0)),
   a 4 (.bin .lss (t 3) (i 1))] none)
 (.cond (t 4)
  (.seq (.region [a 2 (.mv (i 0))] none)
  .ret)
  .skip))
 (.seq (.region [a 5 (.mv (t 0)),
   a 6 (.bin .sub (t 5) (i 1)),
   a 7 (.bin .shr (t 6) (.k (.c (.t (.int .u64 3))))),
   a 8 (.bin .add (t 7) (i 1)),
   a 2 (.mv (t 8))] none)
 .ret))), [.tmp 2]⟩
theorem t88 : FnAt Try.prog 88 a88 := .mk Try.func88 (by kernel_rfl) (by kernel_rfl)
/-- busbar/ask.numbers -/
def a89 : AF := ⟨1, 31, (.seq (.region [a 1 (.box (t 0)),
   a 2 (.alloc [(.t (.int .i64 0)), (.t (.int .i64 0)), (.t (.int .i64 0)), (.t (.int .i64 0)), (.t (.int .i64 0)), (.t (.int .i64 0)), (.t (.int .i64 0)), (.t (.int .i64 0)), (.t (.int .i64 0)), (.t (.int .i64 0)), (.t (.int .i64 0))])] none)
 (.seq (.region [a 3 (.fieldAddr 1 (t 1)),
   a 4 (.load none (t 3)),
   a 5 (.fieldAddr 2 (t 1)),
   a 6 (.load none (t 5)),
   a 7 (.fieldAddr 3 (t 1)),
   a 8 (.load none (t 7)),
   a 9 (.conv .i64 (t 8)),
   a 10 (.fieldAddr 4 (t 1)),
   a 11 (.load none (t 10)),
   a 12 (.conv .i64 (t 11)),
   a 13 (.fieldAddr 5 (t 1)),
   a 14 (.load none (t 13)),
   a 15 (.conv .i64 (t 14)),
   a 16 (.fieldAddr 8 (t 1)),
   a 17 (.load none (t 16)),
   a 18 (.fieldAddr 9 (t 1)),
   a 19 (.load none (t 18)),
   a 20 (.fieldAddr 10 (t 1)),
   a 21 (.load none (t 20)),
   a 22 (.fieldAddr 11 (t 1)),
   a 23 (.load none (t 22)),
   a 24 (.fieldAddr 6 (t 1)),
   a 25 (.load none (t 24)),
   a 26 (.len false (t 25)),
   a 27 (.fieldAddr 7 (t 1)),
   a 28 (.load none (t 27)),
   a 29 (.len false (t 28)),
   a 30 (.build [(.t (.int .i64 0)), (.t (.int .i64 0)), (.t (.int .i64 0)), (.t (.int .i64 0)), (.t (.int .i64 0)), (.t (.int .i64 0)), (.t (.int .i64 0)), (.t (.int .i64 0)), (.t (.int .i64 0)), (.t (.int .i64 0)), (.t (.int .i64 0))] [(0, 1, (t 4)), (1, 1, (t 6)), (2, 1, (t 9)), (3, 1, (t 12)), (4, 1, (t 15)), (5, 1, (t 17)), (6, 1, (t 19)), (7, 1, (t 21)), (8, 1, (t 23)), (9, 1, (t 26)), (10, 1, (t 29))]),
   a_ (.store 11 (t 2) (t 30))] none)
 .ret)), [.cell 2 (some 11)]⟩
theorem t89 : FnAt Try.prog 89 a89 := .mk Try.func89 (by kernel_rfl) (by kernel_rfl)
/-- busbar/ask.only -/
def a90 : AF := ⟨1, 73, (.seq (.region [a 1 (.box (t 0)),
   a 2 (.alloc [(.t (.int .i64 0)), (.t (.int .i64 0)), (.t (.int .i64 0)), (.t (.int .u16 0)), (.t (.int .u16 0)), (.t (.int .u16 0)), (.t .nil), (.t .nil), (.t (.int .i64 0)), (.t (.int .i64 0)), (.t (.int .i64 0)), (.t (.int .i64 0))])] none)
 (.seq (.region [a 4 (.fieldAddr 0 (t 1)),
   a 5 (.load none (t 4)),
   a 6 (.build [(.t (.int .i64 0)), (.t (.int .i64 0)), (.t (.int .i64 0)), (.t (.int .u16 0)), (.t (.int .u16 0)), (.t (.int .u16 0)), (.t .nil), (.t .nil), (.t (.int .i64 0)), (.t (.int .i64 0)), (.t (.int .i64 0)), (.t (.int .i64 0))] [(0, 1, (t 5))]),
   a 3 (.alloc [(.t (.int .i64 0)), (.t (.int .i64 0)), (.t (.int .i64 0)), (.t (.int .u16 0)), (.t (.int .u16 0)), (.t (.int .u16 0)), (.t .nil), (.t .nil), (.t (.int .i64 0)), (.t (.int .i64 0)), (.t (.int .i64 0)), (.t (.int .i64 0))]),
   a_ (.store 12 (t 3) (t 6))] none)
 (.seq (.seq (.region [a 7 (.fieldAddr 0 (t 1)),
   a 8 (.load none (t 7))] none)
 (.block 0 (.seq (.block 7 (.seq (.block 6 (.seq (.block 5 (.seq (.block 4 (.seq (.block 3 (.seq (.block 2 (.seq (.block 1 (.seq (.seq (.seq (.region [a 10 (.bin .eql (t 8) (i 23)),
   a 9 (.mv (t 10))] none)
 (.cond (t 9)
  (.exit 1)
  .skip))
 (.seq (.seq (.region [a 12 (.bin .eql (t 8) (i 16)),
   a 11 (.mv (t 12))] none)
 (.cond (t 11)
  (.exit 2)
  .skip))
 (.seq (.seq (.seq (.region [a 14 (.bin .eql (t 8) (i 1)),
   a 13 (.mv (t 14))] none)
 (.cond (t 13)
  .skip
  (.seq (.region [a 15 (.bin .eql (t 8) (i 2)),
    a 13 (.mv (t 15))] none)
  (.cond (t 13)
   .skip
   (.seq (.region [a 16 (.bin .eql (t 8) (i 3)),
     a 13 (.mv (t 16))] none)
   (.cond (t 13)
    .skip
    (.region [a 17 (.bin .eql (t 8) (i 4)),
      a 13 (.mv (t 17))] none)))))))
 (.cond (t 13)
  (.exit 3)
  .skip))
 (.seq (.seq (.region [a 19 (.bin .eql (t 8) (i 15)),
   a 18 (.mv (t 19))] none)
 (.cond (t 18)
  (.exit 4)
  .skip))
 (.seq (.seq (.seq (.region [a 21 (.bin .eql (t 8) (i 5)),
   a 20 (.mv (t 21))] none)
 (.cond (t 20)
  .skip
  (.region [a 22 (.bin .eql (t 8) (i 6)),
    a 20 (.mv (t 22))] none)))
 (.cond (t 20)
  (.exit 5)
  .skip))
 (.seq (.seq (.region [a 24 (.bin .eql (t 8) (i 22)),
   a 23 (.mv (t 24))] none)
 (.cond (t 23)
  (.exit 6)
  .skip))
 (.seq (.region [a 26 (.bin .eql (t 8) (i 43)),
   a 25 (.mv (t 26))] none)
 (.cond (t 25)
  (.exit 7)
  .skip))))))))
 (.exit 0)))
 (.region [a 27 (.fieldAddr 8 (t 1)),
   a 28 (.load none (t 27)),
   a 29 (.fieldAddr 9 (t 1)),
   a 30 (.load none (t 29)),
   a 31 (.fieldAddr 8 (t 3)),
   a_ (.store 1 (t 31) (t 28)),
   a 32 (.fieldAddr 9 (t 3)),
   a_ (.store 1 (t 32) (t 30))] (some [[], [0], [], [2], [0, 1, 0], [4, 1, 0, 1, 0, 1, 0], [0, 1, 2, 3, 4, 5, 4, 1, 0, 1, 0, 1, 2, 0], [6, 3, 5, 0, 1, 2, 3, 4, 5, 0, 1, 2, 3, 4, 5, 4, 1, 0, 1, 0, 1, 2, 0]]))))
 (.region [a 33 (.fieldAddr 7 (t 1)),
   a 34 (.load none (t 33)),
   a 35 (.fieldAddr 7 (t 3)),
   a_ (.store 1 (t 35) (t 34))] none)))
 (.seq (.region [a 36 (.fieldAddr 1 (t 1)),
   a 37 (.load none (t 36)),
   a 38 (.fieldAddr 2 (t 1)),
   a 39 (.load none (t 38)),
   a 40 (.fieldAddr 1 (t 3)),
   a_ (.store 1 (t 40) (t 37)),
   a 41 (.fieldAddr 2 (t 3)),
   a_ (.store 1 (t 41) (t 39))] (some [[], [0], [], [2], [0, 1, 0], [4, 1, 0, 1, 0, 1, 0], [0, 1, 2, 3, 4, 5, 4, 1, 0, 1, 0, 1, 2, 0], [6, 3, 5, 0, 1, 2, 3, 4, 5, 0, 1, 2, 3, 4, 5, 4, 1, 0, 1, 0, 1, 2, 0]]))
 (.exit 0))))
 (.seq (.region [a 42 (.fieldAddr 1 (t 1)),
   a 43 (.load none (t 42)),
   a 44 (.fieldAddr 2 (t 1)),
   a 45 (.load none (t 44)),
   a 46 (.fieldAddr 6 (t 1)),
   a 47 (.load none (t 46)),
   a 48 (.fieldAddr 1 (t 3)),
   a_ (.store 1 (t 48) (t 43)),
   a 49 (.fieldAddr 2 (t 3)),
   a_ (.store 1 (t 49) (t 45)),
   a 50 (.fieldAddr 6 (t 3)),
   a_ (.store 1 (t 50) (t 47))] (some [[], [0], [], [2], [], [4], [0, 1, 0], [6, 1, 0, 1, 0, 1, 0], [0, 1, 2, 3, 6, 7, 6, 1, 0, 1, 0, 1, 2, 0], [8, 3, 7, 0, 1, 2, 3, 6, 7, 0, 1, 2, 3, 6, 7, 6, 1, 0, 1, 0, 1, 2, 0], [0, 1, 2, 3, 4, 5, 6, 7, 8, 9, 8, 3, 7, 0, 1, 2, 3, 6, 7, 0, 1, 2, 3, 6, 7, 6, 1, 0, 1, 0, 1, 4, 2, 0], [10, 5, 9, 0, 1, 2, 3, 4, 5, 6, 7, 8, 9, 0, 1, 2, 3, 4, 5, 6, 7, 8, 9, 8, 3, 7, 0, 1, 2, 3, 6, 7, 0, 1, 2, 3, 6, 7, 6, 1, 0, 1, 0, 1, 4, 2, 0]]))
 (.exit 0))))
 (.seq (.region [a 51 (.fieldAddr 1 (t 1)),
   a 52 (.load none (t 51)),
   a 53 (.fieldAddr 3 (t 1)),
   a 54 (.load none (t 53)),
   a 55 (.fieldAddr 1 (t 3)),
   a_ (.store 1 (t 55) (t 52)),
   a 56 (.fieldAddr 3 (t 3)),
   a_ (.store 1 (t 56) (t 54))] (some [[], [0], [], [2], [0, 1, 0], [4, 1, 0, 1, 0, 1, 0], [0, 1, 2, 3, 4, 5, 4, 1, 0, 1, 0, 1, 2, 0], [6, 3, 5, 0, 1, 2, 3, 4, 5, 0, 1, 2, 3, 4, 5, 4, 1, 0, 1, 0, 1, 2, 0]]))
 (.exit 0))))
 (.seq (.region [a 57 (.fieldAddr 1 (t 1)),
   a 58 (.load none (t 57)),
   a 59 (.fieldAddr 4 (t 1)),
   a 60 (.load none (t 59)),
   a 61 (.fieldAddr 5 (t 1)),
   a 62 (.load none (t 61)),
   a 63 (.fieldAddr 1 (t 3)),
   a_ (.store 1 (t 63) (t 58)),
   a 64 (.fieldAddr 4 (t 3)),
   a_ (.store 1 (t 64) (t 60)),
   a 65 (.fieldAddr 5 (t 3)),
   a_ (.store 1 (t 65) (t 62))] (some [[], [0], [], [2], [], [4], [0, 1, 0], [6, 1, 0, 1, 0, 1, 0], [0, 1, 2, 3, 6, 7, 6, 1, 0, 1, 0, 1, 2, 0], [8, 3, 7, 0, 1, 2, 3, 6, 7, 0, 1, 2, 3, 6, 7, 6, 1, 0, 1, 0, 1, 2, 0], [0, 1, 2, 3, 4, 5, 6, 7, 8, 9, 8, 3, 7, 0, 1, 2, 3, 6, 7, 0, 1, 2, 3, 6, 7, 6, 1, 0, 1, 0, 1, 4, 2, 0], [10, 5, 9, 0, 1, 2, 3, 4, 5, 6, 7, 8, 9, 0, 1, 2, 3, 4, 5, 6, 7, 8, 9, 8, 3, 7, 0, 1, 2, 3, 6, 7, 0, 1, 2, 3, 6, 7, 6, 1, 0, 1, 0, 1, 4, 2, 0]]))
 (.exit 0))))
 (.seq (.region [a 66 (.fieldAddr 10 (t 1)),
   a 67 (.load none (t 66)),
   a 68 (.fieldAddr 11 (t 1)),
   a 69 (.load none (t 68)),
   a 70 (.fieldAddr 10 (t 3)),
   a_ (.store 1 (t 70) (t 67)),
   a 71 (.fieldAddr 11 (t 3)),
   a_ (.store 1 (t 71) (t 69))] (some [[], [0], [], [2], [0, 1, 0], [4, 1, 0, 1, 0, 1, 0], [0, 1, 2, 3, 4, 5, 4, 1, 0, 1, 0, 1, 2, 0], [6, 3, 5, 0, 1, 2, 3, 4, 5, 0, 1, 2, 3, 4, 5, 4, 1, 0, 1, 0, 1, 2, 0]]))
 (.exit 0)))))
 (.seq (.region [a 72 (.load (some 12) (t 3)),
   a_ (.store 12 (t 2) (t 72))] none)
 .ret)))), [.cell 2 (some 12)]⟩
theorem t90 : FnAt Try.prog 90 a90 := .mk Try.func90 (by kernel_rfl) (by kernel_rfl)
/-- busbar/ask.address -/
def a91 : AF := ⟨1, 9, (.seq (.region [a 2 (.mv (bo false))] none)
 (.seq (.region [a 3 (.mv (t 0)),
   a 4 (.bin .geq (t 3) (i 0)),
   a 5 (.mv (t 4)),
   g 6 5 true (.mv (t 0)),
   g 7 5 true (.bin .lss (t 6) (i 65536)),
   a 8 (.pick (t 5) (t 7) (bo false)),
   a 2 (.mv (t 8))] none)
 .ret)), [.tmp 2]⟩
theorem t91 : FnAt Try.prog 91 a91 := .mk Try.func91 (by kernel_rfl) (by kernel_rfl)
/-- busbar/kind.Most -/
def a92 : AF := ⟨1, 21, (.seq (.region [a 2 (.mv (i 0)),
   a 3 (.mv (i 0))] none)
 (.seq (.seq (.region [a 4 (.mv (t 0))] none)
 (.block 0 (.seq (.seq (.region [a 6 (.bin .eql (t 4) (i 1)),
   a 5 (.mv (t 6))] none)
 (.cond (t 5)
  .skip
  (.region [a 7 (.bin .eql (t 4) (i 2)),
    a 5 (.mv (t 7))] none)))
 (.cond (t 5)
  (.seq (.region [a 2 (.mv (i 2000)),
    a 3 (.mv (i 0))] none)
  .ret)
  (.seq (.seq (.region [a 9 (.bin .eql (t 4) (i 3)),
    a 8 (.mv (t 9))] none)
  (.cond (t 8)
   .skip
   (.region [a 10 (.bin .eql (t 4) (i 4)),
     a 8 (.mv (t 10))] none)))
  (.cond (t 8)
   (.seq (.region [a 2 (.mv (i 125)),
     a 3 (.mv (i 0))] none)
   .ret)
   (.seq (.seq (.region [a 12 (.bin .eql (t 4) (i 5)),
     a 11 (.mv (t 12))] none)
   (.cond (t 11)
    .skip
    (.seq (.region [a 13 (.bin .eql (t 4) (i 6)),
      a 11 (.mv (t 13))] none)
    (.cond (t 11)
     .skip
     (.region [a 14 (.bin .eql (t 4) (i 22)),
       a 11 (.mv (t 14))] none)))))
   (.cond (t 11)
    (.seq (.region [a 2 (.mv (i 0)),
      a 3 (.mv (i 1))] none)
    .ret)
    (.seq (.region [a 16 (.bin .eql (t 4) (i 15)),
      a 15 (.mv (t 16))] none)
    (.cond (t 15)
     (.seq (.region [a 2 (.mv (i 0)),
       a 3 (.mv (i 1968))] none)
     .ret)
     (.seq (.region [a 18 (.bin .eql (t 4) (i 16)),
       a 17 (.mv (t 18))] none)
     (.cond (t 17)
      (.seq (.region [a 2 (.mv (i 0)),
        a 3 (.mv (i 123))] none)
      .ret)
      (.seq (.region [a 20 (.bin .eql (t 4) (i 23)),
        a 19 (.mv (t 20))] none)
      (.cond (t 19)
       (.seq (.region [a 2 (.mv (i 125)),
         a 3 (.mv (i 121))] none)
       .ret)
       .skip))))))))))))))
 (.seq (.region [a 2 (.mv (i 0)),
   a 3 (.mv (i 0))] none)
 .ret))), [.tmp 2, .tmp 3]⟩
theorem t92 : FnAt Try.prog 92 a92 := .mk Try.func92 (by kernel_rfl) (by kernel_rfl)
/-- busbar/ask.counts -/
def a93 : AF := ⟨2, 12, (.seq (.region [a 4 (.mv (bo false))] none)
 (.seq (.region [a 5 (.mv (t 0)),
   a 6 (.bin .geq (t 5) (i 1)),
   a 7 (.mv (t 6)),
   g 8 7 true (.mv (t 0)),
   g 9 7 true (.mv (t 1)),
   g 10 7 true (.bin .leq (t 8) (t 9)),
   a 11 (.pick (t 7) (t 10) (bo false)),
   a 4 (.mv (t 11))] none)
 .ret)), [.tmp 4]⟩
theorem t93 : FnAt Try.prog 93 a93 := .mk Try.func93 (by kernel_rfl) (by kernel_rfl)
/-- busbar/busbarref1.Bit -/
def a94 : AF := ⟨2, 25, (.seq (.region [a 4 (.mv (bo false))] none)
 (.seq (.seq (.region [a 5 (.mv (t 1)),
   a 6 (.bin .lss (t 5) (i 0)),
   a 7 (.mv (t 6)),
   g 8 7 false (.mv (t 1)),
   g 9 7 false (.bin .quo (t 8) (i 8)),
   g 10 7 false (.mv (t 0)),
   g 11 7 false (.len false (t 10)),
   g 12 7 false (.bin .geq (t 9) (t 11)),
   a 13 (.pick (t 7) (bo true) (t 12))] none)
 (.cond (t 13)
  (.seq (.region [a 4 (.mv (bo false))] none)
  .ret)
  .skip))
 (.seq (.region [a 14 (.mv (t 0)),
   a 15 (.mv (t 1)),
   a 16 (.bin .quo (t 15) (i 8)),
   a 17 (.idxAddr 1 (t 14) (t 16)),
   a 18 (.load none (t 17)),
   a 19 (.mv (t 1)),
   a 20 (.bin .rem (t 19) (i 8)),
   a 21 (.call 95 [(t 20)]),
   a 22 (.bin .quo (t 18) (t 21)),
   a 23 (.bin .rem (t 22) (.k (.c (.t (.int .u8 2))))),
   a 24 (.bin .eql (t 23) (.k (.c (.t (.int .u8 1))))),
   a 4 (.mv (t 24))] (some [[], [], [1], [0, 2, 1], [3, 0, 2, 1], [], [5], [6, 5], [4, 7, 6, 5, 3, 0, 2, 1], [8, 4, 7, 6, 5, 3, 0, 2, 1], [9, 8, 4, 7, 6, 5, 3, 0, 2, 1], [10, 7, 0, 1, 2, 3, 4, 5, 6, 7, 8, 9, 10, 9, 8, 4, 7, 6, 5, 3, 0, 2, 1]]))
 .ret))), [.tmp 4]⟩
theorem t94 : FnAt Try.prog 94 a94 := .mk Try.func94 (by kernel_rfl) (by kernel_rfl)
/-- busbar/busbarref1.power -/
def a95 : AF := ⟨1, 13, (.seq (.region [a 2 (.mv (.k (.c (.t (.int .u8 0)))))] none)
 (.seq (.region [a 3 (.mv (.k (.c (.t (.int .u8 1)))))] none)
 (.seq (.seq (.region [a 4 (.mv (i 0))] none)
 (.block 0 (.loop
  (.seq (.seq (.region [a 5 (.mv (t 4)),
    a 6 (.mv (t 0)),
    a 7 (.bin .lss (t 5) (t 6))] none)
  (.cond (t 7)
   .skip
   (.exit 0)))
  (.seq (.block 1 (.region [a 10 (.mv (t 3)),
    a 11 (.bin .mul (t 10) (.k (.c (.t (.int .u8 2))))),
    a 3 (.mv (t 11))] none))
  (.region [a 8 (.mv (t 4)),
    a 9 (.bin .add (t 8) (i 1)),
    a 4 (.mv (t 9))] none))))))
 (.seq (.region [a 12 (.mv (t 3)),
   a 2 (.mv (t 12))] none)
 .ret)))), [.tmp 2]⟩
theorem t95 : FnAt Try.prog 95 a95 := .mk Try.func95 (by kernel_rfl) (by kernel_rfl)
/-- busbar/busbarref5.Spans -/
def a96 : AF := ⟨1, 79, (.seq (.region [a 1 (.box (t 0)),
   a 2 (.mv (.k (.c (.t .nil)))),
   a 3 (.mv (.k (.c (.t .nil))))] none)
 (.seq (.seq (.region [a 6 (.load (some 12) (t 1)),
   a 7 (.call 97 [(t 6)]),
   a 8 (.un .not (t 7))] none)
 (.cond (t 8)
  (.seq (.region [a 2 (.mv (.k (.c (.t .nil)))),
    a 3 (.mv (.k (.c (.t .nil))))] none)
  .ret)
  .skip))
 (.seq (.region [a 10 (.fieldAddr 0 (t 1)),
   a 11 (.load none (t 10)),
   a 12 (.call 40 [(t 11)]),
   a 9 (.mv (t 12)),
   a 13 (.extract (t 9) 0),
   a 14 (.extract (t 9) 1),
   a 4 (.mv (t 13)),
   a 5 (.mv (t 14))] none)
 (.seq (.seq (.region [a 15 (.fieldAddr 0 (t 1)),
   a 16 (.load none (t 15))] none)
 (.block 0 (.seq (.seq (.region [a 18 (.bin .eql (t 16) (i 1)),
   a 17 (.mv (t 18))] none)
 (.cond (t 17)
  .skip
  (.seq (.region [a 19 (.bin .eql (t 16) (i 2)),
    a 17 (.mv (t 19))] none)
  (.cond (t 17)
   .skip
   (.seq (.region [a 20 (.bin .eql (t 16) (i 3)),
     a 17 (.mv (t 20))] none)
   (.cond (t 17)
    .skip
    (.region [a 21 (.bin .eql (t 16) (i 4)),
      a 17 (.mv (t 21))] none)))))))
 (.cond (t 17)
  (.seq (.region [a 22 (.mv (t 4)),
    a 23 (.fieldAddr 1 (t 1)),
    a 24 (.load none (t 23)),
    a 25 (.fieldAddr 1 (t 1)),
    a 26 (.load none (t 25)),
    a 27 (.fieldAddr 2 (t 1)),
    a 28 (.load none (t 27)),
    a 29 (.bin .add (t 26) (t 28)),
    a 30 (.build [(.t (.int .i64 0)), (.t (.int .i64 0)), (.t (.int .i64 0))] [(0, 1, (t 22)), (1, 1, (t 24)), (2, 1, (t 29))]),
    a 31 (.mkList false 3 1 [(.int .i64 0), (.int .i64 0), (.int .i64 0)] [(0, (t 30))]),
    a 2 (.mv (t 31)),
    a 3 (.mv (.k (.c (.t .nil))))] none)
  .ret)
  (.seq (.seq (.region [a 33 (.bin .eql (t 16) (i 5)),
    a 32 (.mv (t 33))] none)
  (.cond (t 32)
   .skip
   (.seq (.region [a 34 (.bin .eql (t 16) (i 6)),
     a 32 (.mv (t 34))] none)
   (.cond (t 32)
    .skip
    (.region [a 35 (.bin .eql (t 16) (i 22)),
      a 32 (.mv (t 35))] none)))))
  (.cond (t 32)
   (.seq (.region [a 36 (.mv (t 4)),
     a 37 (.fieldAddr 1 (t 1)),
     a 38 (.load none (t 37)),
     a 39 (.fieldAddr 1 (t 1)),
     a 40 (.load none (t 39)),
     a 41 (.bin .add (t 40) (i 1)),
     a 42 (.build [(.t (.int .i64 0)), (.t (.int .i64 0)), (.t (.int .i64 0))] [(0, 1, (t 36)), (1, 1, (t 38)), (2, 1, (t 41))]),
     a 43 (.mkList false 3 1 [(.int .i64 0), (.int .i64 0), (.int .i64 0)] [(0, (t 42))]),
     a 2 (.mv (.k (.c (.t .nil)))),
     a 3 (.mv (t 43))] (some [[], [], [1], [], [3], [4, 3], [0, 2, 5, 4, 3, 1], [6, 0, 2, 5, 4, 3, 1], [], [7, 8, 0, 1, 2, 3, 4, 5, 6, 7, 8, 6, 0, 2, 5, 4, 3, 1]]))
   .ret)
   (.seq (.seq (.region [a 45 (.bin .eql (t 16) (i 15)),
     a 44 (.mv (t 45))] none)
   (.cond (t 44)
    .skip
    (.region [a 46 (.bin .eql (t 16) (i 16)),
      a 44 (.mv (t 46))] none)))
   (.cond (t 44)
    (.seq (.region [a 47 (.mv (t 4)),
      a 48 (.fieldAddr 1 (t 1)),
      a 49 (.load none (t 48)),
      a 50 (.fieldAddr 1 (t 1)),
      a 51 (.load none (t 50)),
      a 52 (.fieldAddr 2 (t 1)),
      a 53 (.load none (t 52)),
      a 54 (.bin .add (t 51) (t 53)),
      a 55 (.build [(.t (.int .i64 0)), (.t (.int .i64 0)), (.t (.int .i64 0))] [(0, 1, (t 47)), (1, 1, (t 49)), (2, 1, (t 54))]),
      a 56 (.mkList false 3 1 [(.int .i64 0), (.int .i64 0), (.int .i64 0)] [(0, (t 55))]),
      a 2 (.mv (.k (.c (.t .nil)))),
      a 3 (.mv (t 56))] (some [[], [], [1], [], [3], [], [5], [4, 6, 5, 3], [0, 2, 7, 4, 6, 5, 3, 1], [8, 0, 2, 7, 4, 6, 5, 3, 1], [], [9, 10, 0, 1, 2, 3, 4, 5, 6, 7, 8, 9, 10, 8, 0, 2, 7, 4, 6, 5, 3, 1]]))
    .ret)
    (.seq (.region [a 58 (.bin .eql (t 16) (i 23)),
      a 57 (.mv (t 58))] none)
    (.cond (t 57)
     (.seq (.region [a 59 (.mv (t 4)),
       a 60 (.fieldAddr 8 (t 1)),
       a 61 (.load none (t 60)),
       a 62 (.fieldAddr 8 (t 1)),
       a 63 (.load none (t 62)),
       a 64 (.fieldAddr 9 (t 1)),
       a 65 (.load none (t 64)),
       a 66 (.bin .add (t 63) (t 65)),
       a 67 (.build [(.t (.int .i64 0)), (.t (.int .i64 0)), (.t (.int .i64 0))] [(0, 1, (t 59)), (1, 1, (t 61)), (2, 1, (t 66))]),
       a 68 (.mkList false 3 1 [(.int .i64 0), (.int .i64 0), (.int .i64 0)] [(0, (t 67))]),
       a 69 (.mv (t 4)),
       a 70 (.fieldAddr 1 (t 1)),
       a 71 (.load none (t 70)),
       a 72 (.fieldAddr 1 (t 1)),
       a 73 (.load none (t 72)),
       a 74 (.fieldAddr 2 (t 1)),
       a 75 (.load none (t 74)),
       a 76 (.bin .add (t 73) (t 75)),
       a 77 (.build [(.t (.int .i64 0)), (.t (.int .i64 0)), (.t (.int .i64 0))] [(0, 1, (t 69)), (1, 1, (t 71)), (2, 1, (t 76))]),
       a 78 (.mkList false 3 1 [(.int .i64 0), (.int .i64 0), (.int .i64 0)] [(0, (t 77))]),
       a 2 (.mv (t 68)),
       a 3 (.mv (t 78))] (some [[], [], [1], [], [3], [], [5], [4, 6, 5, 3], [0, 2, 7, 4, 6, 5, 3, 1], [8, 0, 2, 7, 4, 6, 5, 3, 1], [], [], [11], [], [13], [], [15], [14, 16, 15, 13], [10, 12, 17, 14, 16, 15, 13, 11], [18, 10, 12, 17, 14, 16, 15, 13, 11], [9, 0, 1, 2, 3, 4, 5, 6, 7, 8, 9, 8, 0, 2, 7, 4, 6, 5, 3, 1], [19, 20, 0, 1, 2, 3, 4, 5, 6, 7, 8, 9, 10, 11, 12, 13, 14, 15, 16, 17, 18, 19, 20, 9, 0, 1, 2, 3, 4, 5, 6, 7, 8, 9, 18, 10, 12, 17, 14, 16, 15, 13, 11, 8, 0, 2, 7, 4, 6, 5, 3, 1]]))
     .ret)
     .skip))))))))))
 (.seq (.region [a 2 (.mv (.k (.c (.t .nil)))),
   a 3 (.mv (.k (.c (.t .nil))))] none)
 .ret))))), [.tmp 2, .tmp 3]⟩
theorem t96 : FnAt Try.prog 96 a96 := .mk Try.func96 (by kernel_rfl) (by kernel_rfl)
/-- busbar/busbarref5.Right -/
def a97 : AF := ⟨1, 136, (.seq (.region [a 1 (.box (t 0)),
   a 2 (.mv (bo false))] none)
 (.seq (.seq (.region [a 5 (.fieldAddr 0 (t 1)),
   a 6 (.load none (t 5)),
   a 7 (.call 78 [(t 6)]),
   a 8 (.un .not (t 7)),
   a 9 (.mv (t 8)),
   g 10 9 false (.load (some 12) (t 1)),
   g 11 9 false (.call 135 [(t 10)]),
   g 12 9 false (.un .not (t 11)),
   a 13 (.pick (t 9) (bo true) (t 12)),
   a 14 (.mv (t 13)),
   g 15 14 false (.fieldAddr 1 (t 1)),
   g 16 14 false (.load none (t 15)),
   g 17 14 false (.call 110 [(t 16)]),
   g 18 14 false (.un .not (t 17)),
   a 19 (.pick (t 14) (bo true) (t 18)),
   a 20 (.mv (t 19)),
   g 21 20 false (.fieldAddr 8 (t 1)),
   g 22 20 false (.load none (t 21)),
   g 23 20 false (.call 110 [(t 22)]),
   g 24 20 false (.un .not (t 23)),
   a 25 (.pick (t 20) (bo true) (t 24))] none)
 (.cond (t 25)
  (.seq (.region [a 2 (.mv (bo false))] none)
  .ret)
  .skip))
 (.seq (.region [a 27 (.fieldAddr 0 (t 1)),
   a 28 (.load none (t 27)),
   a 29 (.call 47 [(t 28)]),
   a 26 (.mv (t 29)),
   a 30 (.extract (t 26) 0),
   a 31 (.extract (t 26) 1),
   a 3 (.mv (t 30)),
   a 4 (.mv (t 31))] none)
 (.seq (.seq (.region [a 32 (.fieldAddr 0 (t 1)),
   a 33 (.load none (t 32))] none)
 (.block 0 (.seq (.seq (.region [a 35 (.bin .eql (t 33) (i 1)),
   a 34 (.mv (t 35))] none)
 (.cond (t 34)
  .skip
  (.seq (.region [a 36 (.bin .eql (t 33) (i 2)),
    a 34 (.mv (t 36))] none)
  (.cond (t 34)
   .skip
   (.seq (.region [a 37 (.bin .eql (t 33) (i 3)),
     a 34 (.mv (t 37))] none)
   (.cond (t 34)
    .skip
    (.region [a 38 (.bin .eql (t 33) (i 4)),
      a 34 (.mv (t 38))] none)))))))
 (.cond (t 34)
  (.seq (.region [a 39 (.fieldAddr 2 (t 1)),
    a 40 (.load none (t 39)),
    a 41 (.bin .geq (t 40) (i 1)),
    a 42 (.mv (t 41)),
    g 43 42 true (.fieldAddr 2 (t 1)),
    g 44 42 true (.load none (t 43)),
    g 45 42 true (.mv (t 3)),
    g 46 42 true (.bin .leq (t 44) (t 45)),
    a 47 (.pick (t 42) (t 46) (bo false)),
    a 2 (.mv (t 47))] none)
  .ret)
  (.seq (.region [a 49 (.bin .eql (t 33) (i 5)),
    a 48 (.mv (t 49))] none)
  (.cond (t 48)
   (.seq (.region [a 50 (.fieldAddr 3 (t 1)),
     a 51 (.load none (t 50)),
     a 52 (.bin .leq (t 51) (.k (.c (.t (.int .u16 1))))),
     a 2 (.mv (t 52))] none)
   .ret)
   (.seq (.region [a 54 (.bin .eql (t 33) (i 15)),
     a 53 (.mv (t 54))] none)
   (.cond (t 53)
    (.seq (.region [a 55 (.fieldAddr 2 (t 1)),
      a 56 (.load none (t 55)),
      a 57 (.bin .geq (t 56) (i 1)),
      a 58 (.mv (t 57)),
      g 59 58 true (.fieldAddr 2 (t 1)),
      g 60 58 true (.load none (t 59)),
      g 61 58 true (.mv (t 4)),
      g 62 58 true (.bin .leq (t 60) (t 61)),
      a 63 (.pick (t 58) (t 62) (bo false)),
      a 64 (.mv (t 63)),
      g 65 64 true (.fieldAddr 6 (t 1)),
      g 66 64 true (.load none (t 65)),
      g 67 64 true (.len false (t 66)),
      g 68 64 true (.fieldAddr 2 (t 1)),
      g 69 64 true (.load none (t 68)),
      g 70 64 true (.bin .eql (t 67) (t 69)),
      a 71 (.pick (t 64) (t 70) (bo false)),
      a 2 (.mv (t 71))] none)
    .ret)
    (.seq (.region [a 73 (.bin .eql (t 33) (i 16)),
      a 72 (.mv (t 73))] none)
    (.cond (t 72)
     (.seq (.region [a 74 (.fieldAddr 2 (t 1)),
       a 75 (.load none (t 74)),
       a 76 (.bin .geq (t 75) (i 1)),
       a 77 (.mv (t 76)),
       g 78 77 true (.fieldAddr 2 (t 1)),
       g 79 77 true (.load none (t 78)),
       g 80 77 true (.mv (t 4)),
       g 81 77 true (.bin .leq (t 79) (t 80)),
       a 82 (.pick (t 77) (t 81) (bo false)),
       a 83 (.mv (t 82)),
       g 84 83 true (.fieldAddr 7 (t 1)),
       g 85 83 true (.load none (t 84)),
       g 86 83 true (.len false (t 85)),
       g 87 83 true (.fieldAddr 2 (t 1)),
       g 88 83 true (.load none (t 87)),
       g 89 83 true (.bin .eql (t 86) (t 88)),
       a 90 (.pick (t 83) (t 89) (bo false)),
       a 2 (.mv (t 90))] none)
     .ret)
     (.seq (.region [a 92 (.bin .eql (t 33) (i 23)),
       a 91 (.mv (t 92))] none)
     (.cond (t 91)
      (.seq (.region [a 93 (.fieldAddr 2 (t 1)),
        a 94 (.load none (t 93)),
        a 95 (.bin .geq (t 94) (i 1)),
        a 96 (.mv (t 95)),
        g 97 96 true (.fieldAddr 2 (t 1)),
        g 98 96 true (.load none (t 97)),
        g 99 96 true (.mv (t 4)),
        g 100 96 true (.bin .leq (t 98) (t 99)),
        a 101 (.pick (t 96) (t 100) (bo false)),
        a 102 (.mv (t 101)),
        g 103 102 true (.fieldAddr 7 (t 1)),
        g 104 102 true (.load none (t 103)),
        g 105 102 true (.len false (t 104)),
        g 106 102 true (.fieldAddr 2 (t 1)),
        g 107 102 true (.load none (t 106)),
        g 108 102 true (.bin .eql (t 105) (t 107)),
        a 109 (.pick (t 102) (t 108) (bo false)),
        a 110 (.mv (t 109)),
        g 111 110 true (.fieldAddr 9 (t 1)),
        g 112 110 true (.load none (t 111)),
        g 113 110 true (.bin .geq (t 112) (i 1)),
        a 114 (.pick (t 110) (t 113) (bo false)),
        a 115 (.mv (t 114)),
        g 116 115 true (.fieldAddr 9 (t 1)),
        g 117 115 true (.load none (t 116)),
        g 118 115 true (.mv (t 3)),
        g 119 115 true (.bin .leq (t 117) (t 118)),
        a 120 (.pick (t 115) (t 119) (bo false)),
        a 2 (.mv (t 120))] none)
      .ret)
      (.seq (.region [a 122 (.bin .eql (t 33) (i 43)),
        a 121 (.mv (t 122))] none)
      (.cond (t 121)
       (.seq (.region [a 123 (.fieldAddr 10 (t 1)),
         a 124 (.load none (t 123)),
         a 125 (.bin .geq (t 124) (i 1)),
         a 126 (.mv (t 125)),
         g 127 126 true (.fieldAddr 10 (t 1)),
         g 128 126 true (.load none (t 127)),
         g 129 126 true (.bin .leq (t 128) (i 4)),
         a 130 (.pick (t 126) (t 129) (bo false)),
         a 131 (.mv (t 130)),
         g 132 131 true (.fieldAddr 11 (t 1)),
         g 133 131 true (.load none (t 132)),
         g 134 131 true (.call 74 [(t 133)]),
         a 135 (.pick (t 131) (t 134) (bo false)),
         a 2 (.mv (t 135))] none)
       .ret)
       .skip))))))))))))))
 (.seq (.region [a 2 (.mv (bo true))] none)
 .ret))))), [.tmp 2]⟩
theorem t97 : FnAt Try.prog 97 a97 := .mk Try.func97 (by kernel_rfl) (by kernel_rfl)
/-- busbar/busbarlaw0.SameSpans -/
def a98 : AF := ⟨2, 26, (.seq (.region [a 4 (.mv (bo false))] none)
 (.seq (.seq (.region [a 6 (.mv (t 0)),
   a 7 (.len false (t 6)),
   a 8 (.mv (t 1)),
   a 9 (.len false (t 8)),
   a 10 (.bin .neq (t 7) (t 9))] none)
 (.cond (t 10)
  (.seq (.region [a 4 (.mv (bo false))] none)
  .ret)
  .skip))
 (.seq (.seq (.region [a 5 (.mv (i 0))] none)
 (.block 0 (.loop
  (.seq (.seq (.region [a 11 (.mv (t 5)),
    a 12 (.mv (t 0)),
    a 13 (.len false (t 12)),
    a 14 (.bin .lss (t 11) (t 13))] none)
  (.cond (t 14)
   .skip
   (.exit 0)))
  (.seq (.block 1 (.seq (.region [a 17 (.mv (t 0)),
    a 18 (.mv (t 5)),
    a 19 (.idxAddr 3 (t 17) (t 18)),
    a 20 (.load (some 3) (t 19)),
    a 21 (.mv (t 1)),
    a 22 (.mv (t 5)),
    a 23 (.idxAddr 3 (t 21) (t 22)),
    a 24 (.load (some 3) (t 23)),
    a 25 (.eqAgg true [.int, .int, .int] (t 20) (t 24))] (some [[], [], [0, 1], [2, 0, 1], [], [], [4, 5], [6, 4, 5], [3, 7, 6, 4, 5, 2, 0, 1]]))
  (.cond (t 25)
   (.seq (.region [a 4 (.mv (bo false))] none)
   .ret)
   .skip)))
  (.region [a 15 (.mv (t 5)),
    a 16 (.bin .add (t 15) (i 1)),
    a 5 (.mv (t 16))] none))))))
 (.seq (.region [a 4 (.mv (bo true))] none)
 .ret)))), [.tmp 4]⟩
theorem t98 : FnAt Try.prog 98 a98 := .mk Try.func98 (by kernel_rfl) (by kernel_rfl)
/-- busbar/busbarref1.Pack -/
def a99 : AF := ⟨1, 30, (.seq (.region [a 2 (.mv (.k (.c (.t .nil))))] none)
 (.seq (.region [a 5 (.mv (t 0)),
   a 6 (.len false (t 5)),
   a 7 (.call 120 [(t 6)]),
   a 8 (.mkSlice 1 1 [(.int .u8 0)] (t 7) (t 7)),
   a 3 (.mv (t 8))] none)
 (.seq (.seq (.region [a 4 (.mv (i 0))] none)
 (.block 0 (.loop
  (.seq (.seq (.region [a 9 (.mv (t 4)),
    a 10 (.mv (t 0)),
    a 11 (.len false (t 10)),
    a 12 (.bin .lss (t 9) (t 11))] none)
  (.cond (t 12)
   .skip
   (.exit 0)))
  (.seq (.block 1 (.seq (.region [a 15 (.mv (t 0)),
    a 16 (.mv (t 4)),
    a 17 (.idxAddr 1 (t 15) (t 16)),
    a 18 (.load none (t 17))] none)
  (.cond (t 18)
   (.region [a 19 (.mv (t 3)),
     a 20 (.mv (t 4)),
     a 21 (.bin .quo (t 20) (i 8)),
     a 22 (.idxAddr 1 (t 19) (t 21)),
     a 23 (.load none (t 22)),
     a 24 (.mv (t 4)),
     a 25 (.bin .rem (t 24) (i 8)),
     a 26 (.call 95 [(t 25)]),
     a 27 (.bin .add (t 23) (t 26)),
     a 28 (.idxAddr 1 (t 19) (t 21)),
     a_ (.store 1 (t 28) (t 27))] (some [[], [], [1], [0, 2, 1], [3, 0, 2, 1], [], [5], [6, 5], [4, 7, 6, 5, 3, 0, 2, 1], [0, 2, 0, 1, 2, 3, 4, 5, 6, 7, 8, 4, 7, 6, 5, 3, 0, 2, 1], [9, 8, 7, 0, 1, 2, 3, 4, 5, 6, 7, 8, 0, 2, 0, 1, 2, 3, 4, 5, 6, 7, 8, 4, 7, 6, 5, 3, 0, 2, 1]]))
   .skip)))
  (.region [a 13 (.mv (t 4)),
    a 14 (.bin .add (t 13) (i 1)),
    a 4 (.mv (t 14))] none))))))
 (.seq (.region [a 29 (.mv (t 3)),
   a 2 (.mv (t 29))] none)
 .ret)))), [.tmp 2]⟩
theorem t99 : FnAt Try.prog 99 a99 := .mk Try.func99 (by kernel_rfl) (by kernel_rfl)
/-- busbar/busbarref5.words -/
def a100 : AF := ⟨2, 20, (.seq (.region [a 4 (.mv (.k (.c (.t .nil))))] none)
 (.seq (.seq (.region [a 5 (.mv (i 0))] none)
 (.block 0 (.loop
  (.seq (.seq (.region [a 6 (.mv (t 5)),
    a 7 (.mv (t 1)),
    a 8 (.len false (t 7)),
    a 9 (.bin .lss (t 6) (t 8))] none)
  (.cond (t 9)
   .skip
   (.exit 0)))
  (.seq (.block 1 (.region [a 12 (.mv (t 0)),
    a 13 (.mv (t 1)),
    a 14 (.mv (t 5)),
    a 15 (.idxAddr 1 (t 13) (t 14)),
    a 16 (.load none (t 15)),
    a 17 (.conv .i64 (t 16)),
    a 18 (.call 101 [(t 12), (t 17)]),
    a 0 (.mv (t 18))] none))
  (.region [a 10 (.mv (t 5)),
    a 11 (.bin .add (t 10) (i 1)),
    a 5 (.mv (t 11))] none))))))
 (.seq (.region [a 19 (.mv (t 0)),
   a 4 (.mv (t 19))] none)
 .ret))), [.tmp 4]⟩
theorem t100 : FnAt Try.prog 100 a100 := .mk Try.func100 (by kernel_rfl) (by kernel_rfl)
/-- busbar/busbarref5.two -/
def a101 : AF := ⟨2, 9, (.seq (.region [a 4 (.mv (.k (.c (.t .nil))))] none)
 (.seq (.region [a 5 (.mv (t 0)),
   a 6 (.mv (t 1)),
   a 7 (.conv .u16 (t 6)),
   a 8 (.call 136 [(t 5), (t 7)]),
   a 4 (.mv (t 8))] none)
 .ret)), [.tmp 4]⟩
theorem t101 : FnAt Try.prog 101 a101 := .mk Try.func101 (by kernel_rfl) (by kernel_rfl)
/-- busbar/busbarref5.failing -/
def a109 : AF := ⟨1, 13, (.seq (.region [a 2 (.mv (bo false))] none)
 (.seq (.region [a 3 (.mv (t 0)),
   a 4 (.bin .geq (t 3) (i 1)),
   a 5 (.mv (t 4)),
   g 6 5 true (.mv (t 0)),
   g 7 5 true (.bin .leq (t 6) (i 4)),
   a 8 (.pick (t 5) (t 7) (bo false)),
   a 9 (.mv (t 8)),
   g 10 9 false (.mv (t 0)),
   g 11 9 false (.bin .eql (t 10) (i 6)),
   a 12 (.pick (t 9) (bo true) (t 11)),
   a 2 (.mv (t 12))] none)
 .ret)), [.tmp 2]⟩
theorem t109 : FnAt Try.prog 109 a109 := .mk Try.func109 (by kernel_rfl) (by kernel_rfl)
/-- busbar/busbarref5.place -/
def a110 : AF := ⟨1, 9, (.seq (.region [a 2 (.mv (bo false))] none)
 (.seq (.region [a 3 (.mv (t 0)),
   a 4 (.bin .geq (t 3) (i 0)),
   a 5 (.mv (t 4)),
   g 6 5 true (.mv (t 0)),
   g 7 5 true (.bin .leq (t 6) (i 65535)),
   a 8 (.pick (t 5) (t 7) (bo false)),
   a 2 (.mv (t 8))] none)
 .ret)), [.tmp 2]⟩
theorem t110 : FnAt Try.prog 110 a110 := .mk Try.func110 (by kernel_rfl) (by kernel_rfl)
/-- busbar/busbarref1.Bytes -/
def a120 : AF := ⟨1, 9, (.seq (.region [a 2 (.mv (i 0))] none)
 (.seq (.seq (.region [a 3 (.mv (t 0)),
   a 4 (.bin .lss (t 3) (i 1))] none)
 (.cond (t 4)
  (.seq (.region [a 2 (.mv (i 0))] none)
  .ret)
  .skip))
 (.seq (.region [a 5 (.mv (t 0)),
   a 6 (.bin .sub (t 5) (i 1)),
   a 7 (.bin .quo (t 6) (i 8)),
   a 8 (.bin .add (t 7) (i 1)),
   a 2 (.mv (t 8))] none)
 .ret))), [.tmp 2]⟩
theorem t120 : FnAt Try.prog 120 a120 := .mk Try.func120 (by kernel_rfl) (by kernel_rfl)
/-- (*busbar/ask.cursor).place -/
def a125 : AF := ⟨1, 6, (.seq (.region [a 2 (.mv (i 0))] none)
 (.seq (.region [a 3 (.mv (t 0)),
   a 4 (.call 127 [(t 3)]),
   a 5 (.conv .i64 (t 4)),
   a 2 (.mv (t 5))] none)
 .ret)), [.tmp 2]⟩
theorem t125 : FnAt Try.prog 125 a125 := .mk Try.func125 (by kernel_rfl) (by kernel_rfl)
/-- (*busbar/ask.cursor).coil -/
def a126 : AF := ⟨1, 17, (.seq (.region [a 2 (.mv (.k (.c (.t (.int .u16 0)))))] none)
 (.seq (.region [a 4 (.mv (t 0)),
   a 5 (.call 127 [(t 4)]),
   a 3 (.mv (t 5))] none)
 (.seq (.seq (.region [a 6 (.mv (t 3)),
   a 7 (.bin .neq (t 6) (.k (.c (.t (.int .u16 0))))),
   a 8 (.mv (t 7)),
   g 9 8 true (.mv (t 3)),
   g 10 8 true (.bin .neq (t 9) (.k (.c (.t (.int .u16 65280))))),
   a 11 (.pick (t 8) (t 10) (bo false))] none)
 (.cond (t 11)
  (.region [a 12 (.mv (t 0)),
    a 13 (.nilCheck (t 12)),
    a 14 (.fieldAddr 1 (t 13)),
    a_ (.store 1 (t 14) (bo true))] none)
  .skip))
 (.seq (.region [a 15 (.mv (t 3)),
   a 16 (.bin .quo (t 15) (.k (.c (.t (.int .u16 65280))))),
   a 2 (.mv (t 16))] none)
 .ret)))), [.tmp 2]⟩
theorem t126 : FnAt Try.prog 126 a126 := .mk Try.func126 (by kernel_rfl) (by kernel_rfl)
/-- (*busbar/ask.cursor).word -/
def a127 : AF := ⟨1, 27, (.seq (.region [a 2 (.mv (.k (.c (.t (.int .u16 0)))))] none)
 (.seq (.region [a 6 (.mv (t 0)),
   a 7 (.nilCheck (t 6)),
   a 8 (.fieldAddr 0 (t 7)),
   a 9 (.load none (t 8)),
   a 10 (.call 147 [(t 9), (i 0)]),
   a 5 (.mv (t 10)),
   a 11 (.extract (t 5) 0),
   a 12 (.extract (t 5) 1),
   a 3 (.mv (t 11)),
   a 4 (.mv (t 12))] none)
 (.seq (.seq (.region [a 13 (.mv (t 4)),
   a 14 (.un .not (t 13))] none)
 (.cond (t 14)
  (.seq (.region [a 15 (.mv (t 0)),
    a 16 (.nilCheck (t 15)),
    a 17 (.fieldAddr 1 (t 16)),
    a_ (.store 1 (t 17) (bo true))] none)
  (.seq (.region [a 2 (.mv (.k (.c (.t (.int .u16 0)))))] none)
  .ret))
  .skip))
 (.seq (.region [a 18 (.mv (t 0)),
   a 19 (.mv (t 0)),
   a 20 (.nilCheck (t 19)),
   a 21 (.fieldAddr 0 (t 20)),
   a 22 (.load none (t 21)),
   a 23 (.slice 1 (t 22) (some (i 2)) none),
   a 24 (.nilCheck (t 18)),
   a 25 (.fieldAddr 0 (t 24)),
   a_ (.store 1 (t 25) (t 23))] none)
 (.seq (.region [a 26 (.mv (t 3)),
   a 2 (.mv (t 26))] none)
 .ret))))), [.tmp 2]⟩
theorem t127 : FnAt Try.prog 127 a127 := .mk Try.func127 (by kernel_rfl) (by kernel_rfl)
/-- (*busbar/ask.cursor).coils -/
def a128 : AF := ⟨2, 44, (.seq (.region [a 4 (.mv (.k (.c (.t .nil))))] none)
 (.seq (.region [a 8 (.mv (t 0)),
   a 9 (.call 130 [(t 8)]),
   a 5 (.mv (t 9))] none)
 (.seq (.seq (.region [a 10 (.mv (t 5)),
   a 11 (.mv (t 0)),
   a 12 (.nilCheck (t 11)),
   a 13 (.fieldAddr 0 (t 12)),
   a 14 (.load none (t 13)),
   a 15 (.len false (t 14)),
   a 16 (.bin .neq (t 10) (t 15))] none)
 (.cond (t 16)
  (.seq (.region [a 17 (.mv (t 0)),
    a 18 (.nilCheck (t 17)),
    a 19 (.fieldAddr 1 (t 18)),
    a_ (.store 1 (t 19) (bo true))] none)
  (.seq (.region [a 4 (.mv (.k (.c (.t .nil))))] none)
  .ret))
  .skip))
 (.seq (.region [a 21 (.mv (t 0)),
   a 22 (.nilCheck (t 21)),
   a 23 (.fieldAddr 0 (t 22)),
   a 24 (.load none (t 23)),
   a 25 (.mv (t 1)),
   a 26 (.call 148 [(t 24), (t 25)]),
   a 20 (.mv (t 26)),
   a 27 (.extract (t 20) 0),
   a 28 (.extract (t 20) 1),
   a 6 (.mv (t 27)),
   a 7 (.mv (t 28))] none)
 (.seq (.region [a 29 (.mv (t 0)),
   a 30 (.mv (t 0)),
   a 31 (.mv (t 0)),
   a 32 (.nilCheck (t 31)),
   a 33 (.fieldAddr 1 (t 32)),
   a 34 (.load none (t 33)),
   a 35 (.mv (t 34)),
   g 36 35 false (.mv (t 7)),
   g 37 35 false (.un .not (t 36)),
   a 38 (.pick (t 35) (bo true) (t 37)),
   a 39 (.nilCheck (t 29)),
   a 40 (.fieldAddr 0 (t 39)),
   a_ (.store 1 (t 40) (.k (.c (.t .nil)))),
   a 41 (.nilCheck (t 30)),
   a 42 (.fieldAddr 1 (t 41)),
   a_ (.store 1 (t 42) (t 38))] none)
 (.seq (.region [a 43 (.mv (t 6)),
   a 4 (.mv (t 43))] none)
 .ret)))))), [.tmp 4]⟩
theorem t128 : FnAt Try.prog 128 a128 := .mk Try.func128 (by kernel_rfl) (by kernel_rfl)
/-- (*busbar/ask.cursor).words -/
def a129 : AF := ⟨2, 39, (.seq (.region [a 4 (.mv (.k (.c (.t .nil))))] none)
 (.seq (.seq (.region [a 7 (.mv (t 0)),
   a 8 (.call 130 [(t 7)]),
   a 9 (.mv (t 1)),
   a 10 (.bin .mul (i 2) (t 9)),
   a 11 (.bin .neq (t 8) (t 10)),
   a 12 (.mv (t 11)),
   g 13 12 false (.mv (t 0)),
   g 14 12 false (.nilCheck (t 13)),
   g 15 12 false (.fieldAddr 0 (t 14)),
   g 16 12 false (.load none (t 15)),
   g 17 12 false (.len false (t 16)),
   g 18 12 false (.mv (t 1)),
   g 19 12 false (.bin .mul (i 2) (t 18)),
   g 20 12 false (.bin .neq (t 17) (t 19)),
   a 21 (.pick (t 12) (bo true) (t 20))] none)
 (.cond (t 21)
  (.seq (.region [a 22 (.mv (t 0)),
    a 23 (.nilCheck (t 22)),
    a 24 (.fieldAddr 1 (t 23)),
    a_ (.store 1 (t 24) (bo true))] none)
  (.seq (.region [a 4 (.mv (.k (.c (.t .nil))))] none)
  .ret))
  .skip))
 (.seq (.region [a 25 (.mv (t 1)),
   a 26 (.mkSlice 1 2 [(.int .u16 0)] (t 25) (t 25)),
   a 5 (.mv (t 26))] none)
 (.seq (.seq (.region [a 27 (.mv (t 5)),
   a 28 (.len false (t 27)),
   a 29 (.mv (i 0))] none)
 (.block 0 (.loop
  (.seq (.region [a 30 (.bin .lss (t 29) (t 28))] none)
  (.seq (.cond (t 30)
   .skip
   (.exit 0))
  (.seq (.block 1 (.seq (.region [a 31 (.mv (t 29)),
    a 6 (.mv (t 31))] none)
  (.region [a 32 (.mv (t 5)),
    a 33 (.mv (t 6)),
    a 34 (.mv (t 0)),
    a 35 (.call 127 [(t 34)]),
    a 36 (.idxAddr 1 (t 32) (t 33)),
    a_ (.store 1 (t 36) (t 35))] none)))
  (.region [a 37 (.bin .add (t 29) (i 1)),
    a 29 (.mv (t 37))] none)))))))
 (.seq (.region [a 38 (.mv (t 5)),
   a 4 (.mv (t 38))] none)
 .ret))))), [.tmp 4]⟩
theorem t129 : FnAt Try.prog 129 a129 := .mk Try.func129 (by kernel_rfl) (by kernel_rfl)
/-- (*busbar/ask.cursor).byte -/
def a130 : AF := ⟨1, 29, (.seq (.region [a 2 (.mv (i 0))] none)
 (.seq (.seq (.region [a 4 (.mv (t 0)),
   a 5 (.nilCheck (t 4)),
   a 6 (.fieldAddr 0 (t 5)),
   a 7 (.load none (t 6)),
   a 8 (.len false (t 7)),
   a 9 (.bin .eql (t 8) (i 0))] none)
 (.cond (t 9)
  (.seq (.region [a 10 (.mv (t 0)),
    a 11 (.nilCheck (t 10)),
    a 12 (.fieldAddr 1 (t 11)),
    a_ (.store 1 (t 12) (bo true))] none)
  (.seq (.region [a 2 (.mv (i 0))] none)
  .ret))
  .skip))
 (.seq (.region [a 13 (.mv (t 0)),
   a 14 (.nilCheck (t 13)),
   a 15 (.fieldAddr 0 (t 14)),
   a 16 (.load none (t 15)),
   a 17 (.idxAddr 1 (t 16) (i 0)),
   a 18 (.load none (t 17)),
   a 19 (.conv .i64 (t 18)),
   a 3 (.mv (t 19))] none)
 (.seq (.region [a 20 (.mv (t 0)),
   a 21 (.mv (t 0)),
   a 22 (.nilCheck (t 21)),
   a 23 (.fieldAddr 0 (t 22)),
   a 24 (.load none (t 23)),
   a 25 (.slice 1 (t 24) (some (i 1)) none),
   a 26 (.nilCheck (t 20)),
   a 27 (.fieldAddr 0 (t 26)),
   a_ (.store 1 (t 27) (t 25))] none)
 (.seq (.region [a 28 (.mv (t 3)),
   a 2 (.mv (t 28))] none)
 .ret))))), [.tmp 2]⟩
theorem t130 : FnAt Try.prog 130 a130 := .mk Try.func130 (by kernel_rfl) (by kernel_rfl)
/-- busbar/busbarref5.word -/
def a131 : AF := ⟨2, 15, (.seq (.region [a 4 (.mv (i 0))] none)
 (.seq (.region [a 8 (.mv (t 0)),
   a 9 (.mv (t 1)),
   a 10 (.call 149 [(t 8), (t 9)]),
   a 7 (.mv (t 10)),
   a 11 (.extract (t 7) 0),
   a 12 (.extract (t 7) 1),
   a 5 (.mv (t 11)),
   a 6 (.mv (t 12))] none)
 (.seq (.region [a 13 (.mv (t 5)),
   a 14 (.conv .i64 (t 13)),
   a 4 (.mv (t 14))] none)
 .ret))), [.tmp 4]⟩
theorem t131 : FnAt Try.prog 131 a131 := .mk Try.func131 (by kernel_rfl) (by kernel_rfl)
/-- busbar/busbarref1.Unpack -/
def a132 : AF := ⟨2, 29, (.seq (.region [a 4 (.mv (.k (.c (.t .nil)))),
   a 5 (.mv (bo false))] none)
 (.seq (.seq (.region [a 8 (.mv (t 1)),
   a 9 (.bin .lss (t 8) (i 0)),
   a 10 (.mv (t 9)),
   g 11 10 false (.mv (t 0)),
   g 12 10 false (.len false (t 11)),
   g 13 10 false (.mv (t 1)),
   g 14 10 false (.call 120 [(t 13)]),
   g 15 10 false (.bin .neq (t 12) (t 14)),
   a 16 (.pick (t 10) (bo true) (t 15))] none)
 (.cond (t 16)
  (.seq (.region [a 4 (.mv (.k (.c (.t .nil)))),
    a 5 (.mv (bo false))] none)
  .ret)
  .skip))
 (.seq (.region [a 6 (.mv (.k (.c (.t .nil))))] none)
 (.seq (.seq (.region [a 7 (.mv (i 0))] none)
 (.block 0 (.loop
  (.seq (.seq (.region [a 17 (.mv (t 7)),
    a 18 (.mv (t 1)),
    a 19 (.bin .lss (t 17) (t 18))] none)
  (.cond (t 19)
   .skip
   (.exit 0)))
  (.seq (.block 1 (.region [a 22 (.mv (t 6)),
    a 23 (.mv (t 0)),
    a 24 (.mv (t 7)),
    a 25 (.call 94 [(t 23), (t 24)]),
    a 26 (.mkList false 1 1 [(.bool false)] [(0, (t 25))]),
    a 27 (.append 1 1 [(.bool false)] (t 22) (t 26)),
    a 6 (.mv (t 27))] none))
  (.region [a 20 (.mv (t 7)),
    a 21 (.bin .add (t 20) (i 1)),
    a 7 (.mv (t 21))] none))))))
 (.seq (.region [a 28 (.mv (t 6)),
   a 4 (.mv (t 28)),
   a 5 (.mv (bo true))] none)
 .ret))))), [.tmp 4, .tmp 5]⟩
theorem t132 : FnAt Try.prog 132 a132 := .mk Try.func132 (by kernel_rfl) (by kernel_rfl)
/-- busbar/busbarref5.list -/
def a133 : AF := ⟨3, 33, (.seq (.region [a 6 (.mv (.k (.c (.t .nil)))),
   a 7 (.mv (bo false))] none)
 (.seq (.seq (.region [a 10 (.mv (t 0)),
   a 11 (.len false (t 10)),
   a 12 (.mv (t 1)),
   a 13 (.mv (t 2)),
   a 14 (.bin .mul (i 2) (t 13)),
   a 15 (.bin .add (t 12) (t 14)),
   a 16 (.bin .neq (t 11) (t 15))] none)
 (.cond (t 16)
  (.seq (.region [a 6 (.mv (.k (.c (.t .nil)))),
    a 7 (.mv (bo false))] none)
  .ret)
  .skip))
 (.seq (.region [a 8 (.mv (.k (.c (.t .nil))))] none)
 (.seq (.seq (.region [a 9 (.mv (i 0))] none)
 (.block 0 (.loop
  (.seq (.seq (.region [a 17 (.mv (t 9)),
    a 18 (.mv (t 2)),
    a 19 (.bin .lss (t 17) (t 18))] none)
  (.cond (t 19)
   .skip
   (.exit 0)))
  (.seq (.block 1 (.region [a 22 (.mv (t 8)),
    a 23 (.mv (t 0)),
    a 24 (.mv (t 1)),
    a 25 (.mv (t 9)),
    a 26 (.bin .mul (i 2) (t 25)),
    a 27 (.bin .add (t 24) (t 26)),
    a 28 (.call 131 [(t 23), (t 27)]),
    a 29 (.conv .u16 (t 28)),
    a 30 (.mkList false 1 1 [(.int .u16 0)] [(0, (t 29))]),
    a 31 (.append 1 2 [(.int .u16 0)] (t 22) (t 30)),
    a 8 (.mv (t 31))] none))
  (.region [a 20 (.mv (t 9)),
    a 21 (.bin .add (t 20) (i 1)),
    a 9 (.mv (t 21))] none))))))
 (.seq (.region [a 32 (.mv (t 8)),
   a 6 (.mv (t 32)),
   a 7 (.mv (bo true))] none)
 .ret))))), [.tmp 6, .tmp 7]⟩
theorem t133 : FnAt Try.prog 133 a133 := .mk Try.func133 (by kernel_rfl) (by kernel_rfl)
/-- busbar/word.Put -/
def a134 : AF := ⟨2, 21, (.seq (.region [a 4 (.mv (.k (.c (.t .nil))))] none)
 (.seq (.region [a 6 (.mv (t 0)),
   a 7 (.len false (t 6)),
   a 8 (.bin .add (t 7) (i 2)),
   a 9 (.mkSlice 1 1 [(.int .u8 0)] (i 0) (t 8)),
   a 5 (.mv (t 9))] none)
 (.seq (.region [a 10 (.mv (t 5)),
   a 11 (.mv (t 0)),
   a 12 (.append 1 1 [(.int .u8 0)] (t 10) (t 11)),
   a 5 (.mv (t 12))] none)
 (.seq (.region [a 13 (.mv (t 5)),
   a 14 (.mv (t 1)),
   a 15 (.bin .shr (t 14) (.k (.c (.t (.int .u64 8))))),
   a 16 (.conv .u8 (t 15)),
   a 17 (.mv (t 1)),
   a 18 (.conv .u8 (t 17)),
   a 19 (.mkList false 1 2 [(.int .u8 0)] [(0, (t 16)), (1, (t 18))]),
   a 20 (.append 1 1 [(.int .u8 0)] (t 13) (t 19)),
   a 4 (.mv (t 20))] none)
 .ret)))), [.tmp 4]⟩
theorem t134 : FnAt Try.prog 134 a134 := .mk Try.func134 (by kernel_rfl) (by kernel_rfl)
/-- busbar/busbarref5.plain -/
def a135 : AF := ⟨1, 136, (.seq (.region [a 1 (.box (t 0)),
   a 2 (.mv (bo false))] none)
 (.seq (.region [a 7 (.fieldAddr 0 (t 1)),
   a 8 (.load none (t 7)),
   a 3 (.mv (t 8))] none)
 (.seq (.region [a 9 (.mv (t 3)),
   a 10 (.bin .geq (t 9) (i 1)),
   a 11 (.mv (t 10)),
   g 12 11 true (.mv (t 3)),
   g 13 11 true (.bin .leq (t 12) (i 4)),
   a 14 (.pick (t 11) (t 13) (bo false)),
   a 4 (.mv (t 14))] none)
 (.seq (.region [a 15 (.mv (t 3)),
   a 16 (.bin .eql (t 15) (i 15)),
   a 17 (.mv (t 16)),
   g 18 17 false (.mv (t 3)),
   g 19 17 false (.bin .eql (t 18) (i 16)),
   a 20 (.pick (t 17) (bo true) (t 19)),
   a 21 (.mv (t 20)),
   g 22 21 false (.mv (t 3)),
   g 23 21 false (.bin .eql (t 22) (i 23)),
   a 24 (.pick (t 21) (bo true) (t 23)),
   a 5 (.mv (t 24))] none)
 (.seq (.region [a 25 (.mv (t 3)),
   a 26 (.bin .eql (t 25) (i 5)),
   a 27 (.mv (t 26)),
   g 28 27 false (.mv (t 3)),
   g 29 27 false (.bin .eql (t 28) (i 6)),
   a 30 (.pick (t 27) (bo true) (t 29)),
   a 31 (.mv (t 30)),
   g 32 31 false (.mv (t 3)),
   g 33 31 false (.bin .eql (t 32) (i 22)),
   a 34 (.pick (t 31) (bo true) (t 33)),
   a 6 (.mv (t 34))] none)
 (.seq (.block 0 (.seq (.region [a 36 (.mv (t 4)),
   a 37 (.un .not (t 36)),
   a 38 (.mv (t 37)),
   g 39 38 true (.mv (t 5)),
   g 40 38 true (.un .not (t 39)),
   a 41 (.pick (t 38) (t 40) (bo false)),
   a 42 (.mv (t 41)),
   g 43 42 true (.mv (t 6)),
   g 44 42 true (.un .not (t 43)),
   a 45 (.pick (t 42) (t 44) (bo false)),
   a 46 (.mv (t 45)),
   g 47 46 true (.fieldAddr 1 (t 1)),
   g 48 46 true (.load none (t 47)),
   g 49 46 true (.bin .neq (t 48) (i 0)),
   a 50 (.pick (t 46) (t 49) (bo false)),
   a 35 (.mv (t 50))] none)
 (.cond (t 35)
  (.seq (.region [a 2 (.mv (bo false))] none)
  .ret)
  (.seq (.region [a 52 (.mv (t 4)),
    a 53 (.un .not (t 52)),
    a 54 (.mv (t 53)),
    g 55 54 true (.mv (t 5)),
    g 56 54 true (.un .not (t 55)),
    a 57 (.pick (t 54) (t 56) (bo false)),
    a 58 (.mv (t 57)),
    g 59 58 true (.fieldAddr 2 (t 1)),
    g 60 58 true (.load none (t 59)),
    g 61 58 true (.bin .neq (t 60) (i 0)),
    a 62 (.pick (t 58) (t 61) (bo false)),
    a 51 (.mv (t 62))] none)
  (.cond (t 51)
   (.seq (.region [a 2 (.mv (bo false))] none)
   .ret)
   (.seq (.region [a 64 (.mv (t 3)),
     a 65 (.bin .neq (t 64) (i 5)),
     a 66 (.mv (t 65)),
     g 67 66 true (.mv (t 3)),
     g 68 66 true (.bin .neq (t 67) (i 6)),
     a 69 (.pick (t 66) (t 68) (bo false)),
     a 70 (.mv (t 69)),
     g 71 70 true (.fieldAddr 3 (t 1)),
     g 72 70 true (.load none (t 71)),
     g 73 70 true (.bin .neq (t 72) (.k (.c (.t (.int .u16 0))))),
     a 74 (.pick (t 70) (t 73) (bo false)),
     a 63 (.mv (t 74))] none)
   (.cond (t 63)
    (.seq (.region [a 2 (.mv (bo false))] none)
    .ret)
    (.seq (.region [a 76 (.mv (t 3)),
      a 77 (.bin .neq (t 76) (i 22)),
      a 78 (.mv (t 77)),
      g 79 78 true (.fieldAddr 4 (t 1)),
      g 80 78 true (.load none (t 79)),
      g 81 78 true (.bin .neq (t 80) (.k (.c (.t (.int .u16 0))))),
      g 82 78 true (.mv (t 81)),
      g 83 82 false (.fieldAddr 5 (t 1)),
      g 84 82 false (.load none (t 83)),
      g 85 82 false (.bin .neq (t 84) (.k (.c (.t (.int .u16 0))))),
      g 86 78 true (.pick (t 82) (bo true) (t 85)),
      a 87 (.pick (t 78) (t 86) (bo false)),
      a 75 (.mv (t 87))] none)
    (.cond (t 75)
     (.seq (.region [a 2 (.mv (bo false))] none)
     .ret)
     (.seq (.region [a 89 (.mv (t 3)),
       a 90 (.bin .neq (t 89) (i 15)),
       a 91 (.mv (t 90)),
       g 92 91 true (.fieldAddr 6 (t 1)),
       g 93 91 true (.load none (t 92)),
       g 94 91 true (.len false (t 93)),
       g 95 91 true (.bin .gtr (t 94) (i 0)),
       a 96 (.pick (t 91) (t 95) (bo false)),
       a 88 (.mv (t 96))] none)
     (.cond (t 88)
      (.seq (.region [a 2 (.mv (bo false))] none)
      .ret)
      (.seq (.region [a 98 (.mv (t 3)),
        a 99 (.bin .neq (t 98) (i 16)),
        a 100 (.mv (t 99)),
        g 101 100 true (.mv (t 3)),
        g 102 100 true (.bin .neq (t 101) (i 23)),
        a 103 (.pick (t 100) (t 102) (bo false)),
        a 104 (.mv (t 103)),
        g 105 104 true (.fieldAddr 7 (t 1)),
        g 106 104 true (.load none (t 105)),
        g 107 104 true (.len false (t 106)),
        g 108 104 true (.bin .gtr (t 107) (i 0)),
        a 109 (.pick (t 104) (t 108) (bo false)),
        a 97 (.mv (t 109))] none)
      (.cond (t 97)
       (.seq (.region [a 2 (.mv (bo false))] none)
       .ret)
       (.seq (.region [a 111 (.mv (t 3)),
         a 112 (.bin .neq (t 111) (i 23)),
         a 113 (.mv (t 112)),
         g 114 113 true (.fieldAddr 8 (t 1)),
         g 115 113 true (.load none (t 114)),
         g 116 113 true (.bin .neq (t 115) (i 0)),
         g 117 113 true (.mv (t 116)),
         g 118 117 false (.fieldAddr 9 (t 1)),
         g 119 117 false (.load none (t 118)),
         g 120 117 false (.bin .neq (t 119) (i 0)),
         g 121 113 true (.pick (t 117) (bo true) (t 120)),
         a 122 (.pick (t 113) (t 121) (bo false)),
         a 110 (.mv (t 122))] none)
       (.cond (t 110)
        (.seq (.region [a 2 (.mv (bo false))] none)
        .ret)
        (.seq (.region [a 124 (.mv (t 3)),
          a 125 (.bin .neq (t 124) (i 43)),
          a 126 (.mv (t 125)),
          g 127 126 true (.fieldAddr 10 (t 1)),
          g 128 126 true (.load none (t 127)),
          g 129 126 true (.bin .neq (t 128) (i 0)),
          g 130 126 true (.mv (t 129)),
          g 131 130 false (.fieldAddr 11 (t 1)),
          g 132 130 false (.load none (t 131)),
          g 133 130 false (.bin .neq (t 132) (i 0)),
          g 134 126 true (.pick (t 130) (bo true) (t 133)),
          a 135 (.pick (t 126) (t 134) (bo false)),
          a 123 (.mv (t 135))] none)
        (.cond (t 123)
         (.seq (.region [a 2 (.mv (bo false))] none)
         .ret)
         .skip)))))))))))))))))
 (.seq (.region [a 2 (.mv (bo true))] none)
 .ret))))))), [.tmp 2]⟩
theorem t135 : FnAt Try.prog 135 a135 := .mk Try.func135 (by kernel_rfl) (by kernel_rfl)
/-- busbar/busbarref1.Put -/
def a136 : AF := ⟨2, 15, (.seq (.region [a 4 (.mv (.k (.c (.t .nil))))] none)
 (.seq (.region [a 5 (.mv (t 0)),
   a 6 (.append 1 1 [(.int .u8 0)] (.k (.c (.t .nil))) (t 5)),
   a 7 (.mv (t 1)),
   a 8 (.bin .quo (t 7) (.k (.c (.t (.int .u16 256))))),
   a 9 (.conv .u8 (t 8)),
   a 10 (.mv (t 1)),
   a 11 (.bin .rem (t 10) (.k (.c (.t (.int .u16 256))))),
   a 12 (.conv .u8 (t 11)),
   a 13 (.mkList false 1 2 [(.int .u8 0)] [(0, (t 9)), (1, (t 12))]),
   a 14 (.append 1 1 [(.int .u8 0)] (t 6) (t 13)),
   a 4 (.mv (t 14))] none)
 .ret)), [.tmp 4]⟩
theorem t136 : FnAt Try.prog 136 a136 := .mk Try.func136 (by kernel_rfl) (by kernel_rfl)
/-- busbar/word.Get -/
def a147 : AF := ⟨2, 28, (.seq (.region [a 4 (.mv (.k (.c (.t (.int .u16 0))))),
   a 5 (.mv (bo false))] none)
 (.seq (.seq (.region [a 6 (.mv (t 1)),
   a 7 (.bin .lss (t 6) (i 0)),
   a 8 (.mv (t 7)),
   g 9 8 false (.mv (t 0)),
   g 10 8 false (.len false (t 9)),
   g 11 8 false (.mv (t 1)),
   g 12 8 false (.bin .sub (t 10) (t 11)),
   g 13 8 false (.bin .lss (t 12) (i 2)),
   a 14 (.pick (t 8) (bo true) (t 13))] none)
 (.cond (t 14)
  (.seq (.region [a 4 (.mv (.k (.c (.t (.int .u16 0))))),
    a 5 (.mv (bo false))] none)
  .ret)
  .skip))
 (.seq (.region [a 15 (.mv (t 0)),
   a 16 (.mv (t 1)),
   a 17 (.idxAddr 1 (t 15) (t 16)),
   a 18 (.load none (t 17)),
   a 19 (.conv .u16 (t 18)),
   a 20 (.bin .shl (t 19) (.k (.c (.t (.int .u64 8))))),
   a 21 (.mv (t 0)),
   a 22 (.mv (t 1)),
   a 23 (.bin .add (t 22) (i 1)),
   a 24 (.idxAddr 1 (t 21) (t 23)),
   a 25 (.load none (t 24)),
   a 26 (.conv .u16 (t 25)),
   a 27 (.bin .or (t 20) (t 26)),
   a 4 (.mv (t 27)),
   a 5 (.mv (bo true))] (some [[], [], [0, 1], [2, 0, 1], [3, 2, 0, 1], [4, 3, 2, 0, 1], [], [], [7], [6, 8, 7], [9, 6, 8, 7], [10, 9, 6, 8, 7], [5, 11, 10, 9, 6, 8, 7, 4, 3, 2, 0, 1], [12, 0, 1, 2, 3, 4, 5, 6, 7, 8, 9, 10, 11, 12, 5, 11, 10, 9, 6, 8, 7, 4, 3, 2, 0, 1], [13, 0, 1, 2, 3, 4, 5, 6, 7, 8, 9, 10, 11, 12, 13, 12, 0, 1, 2, 3, 4, 5, 6, 7, 8, 9, 10, 11, 12, 5, 11, 10, 9, 6, 8, 7, 4, 3, 2, 0, 1]]))
 .ret))), [.tmp 4, .tmp 5]⟩
theorem t147 : FnAt Try.prog 147 a147 := .mk Try.func147 (by kernel_rfl) (by kernel_rfl)
/-- busbar/bits.Unpack -/
def a148 : AF := ⟨2, 32, (.seq (.region [a 4 (.mv (.k (.c (.t .nil)))),
   a 5 (.mv (bo false))] none)
 (.seq (.seq (.region [a 8 (.mv (t 1)),
   a 9 (.bin .lss (t 8) (i 0)),
   a 10 (.mv (t 9)),
   g 11 10 false (.mv (t 0)),
   g 12 10 false (.len false (t 11)),
   g 13 10 false (.mv (t 1)),
   g 14 10 false (.call 88 [(t 13)]),
   g 15 10 false (.bin .neq (t 12) (t 14)),
   a 16 (.pick (t 10) (bo true) (t 15))] none)
 (.cond (t 16)
  (.seq (.region [a 4 (.mv (.k (.c (.t .nil)))),
    a 5 (.mv (bo false))] none)
  .ret)
  .skip))
 (.seq (.region [a 17 (.mv (t 1)),
   a 18 (.mkSlice 1 1 [(.bool false)] (t 17) (t 17)),
   a 6 (.mv (t 18))] none)
 (.seq (.seq (.region [a 19 (.mv (t 6)),
   a 20 (.len false (t 19)),
   a 21 (.mv (i 0))] none)
 (.block 0 (.loop
  (.seq (.region [a 22 (.bin .lss (t 21) (t 20))] none)
  (.seq (.cond (t 22)
   .skip
   (.exit 0))
  (.seq (.block 1 (.seq (.region [a 23 (.mv (t 21)),
    a 7 (.mv (t 23))] none)
  (.region [a 24 (.mv (t 6)),
    a 25 (.mv (t 7)),
    a 26 (.mv (t 0)),
    a 27 (.mv (t 7)),
    a 28 (.call 154 [(t 26), (t 27)]),
    a 29 (.idxAddr 1 (t 24) (t 25)),
    a_ (.store 1 (t 29) (t 28))] none)))
  (.region [a 30 (.bin .add (t 21) (i 1)),
    a 21 (.mv (t 30))] none)))))))
 (.seq (.region [a 31 (.mv (t 6)),
   a 4 (.mv (t 31)),
   a 5 (.mv (bo true))] none)
 .ret))))), [.tmp 4, .tmp 5]⟩
theorem t148 : FnAt Try.prog 148 a148 := .mk Try.func148 (by kernel_rfl) (by kernel_rfl)
/-- busbar/busbarref1.Get -/
def a149 : AF := ⟨2, 28, (.seq (.region [a 4 (.mv (.k (.c (.t (.int .u16 0))))),
   a 5 (.mv (bo false))] none)
 (.seq (.seq (.region [a 6 (.mv (t 1)),
   a 7 (.bin .lss (t 6) (i 0)),
   a 8 (.mv (t 7)),
   g 9 8 false (.mv (t 1)),
   g 10 8 false (.mv (t 0)),
   g 11 8 false (.len false (t 10)),
   g 12 8 false (.bin .sub (t 11) (i 2)),
   g 13 8 false (.bin .gtr (t 9) (t 12)),
   a 14 (.pick (t 8) (bo true) (t 13))] none)
 (.cond (t 14)
  (.seq (.region [a 4 (.mv (.k (.c (.t (.int .u16 0))))),
    a 5 (.mv (bo false))] none)
  .ret)
  .skip))
 (.seq (.region [a 15 (.mv (t 0)),
   a 16 (.mv (t 1)),
   a 17 (.idxAddr 1 (t 15) (t 16)),
   a 18 (.load none (t 17)),
   a 19 (.conv .u16 (t 18)),
   a 20 (.bin .mul (t 19) (.k (.c (.t (.int .u16 256))))),
   a 21 (.mv (t 0)),
   a 22 (.mv (t 1)),
   a 23 (.bin .add (t 22) (i 1)),
   a 24 (.idxAddr 1 (t 21) (t 23)),
   a 25 (.load none (t 24)),
   a 26 (.conv .u16 (t 25)),
   a 27 (.bin .add (t 20) (t 26)),
   a 4 (.mv (t 27)),
   a 5 (.mv (bo true))] (some [[], [], [0, 1], [2, 0, 1], [3, 2, 0, 1], [4, 3, 2, 0, 1], [], [], [7], [6, 8, 7], [9, 6, 8, 7], [10, 9, 6, 8, 7], [5, 11, 10, 9, 6, 8, 7, 4, 3, 2, 0, 1], [12, 0, 1, 2, 3, 4, 5, 6, 7, 8, 9, 10, 11, 12, 5, 11, 10, 9, 6, 8, 7, 4, 3, 2, 0, 1], [13, 0, 1, 2, 3, 4, 5, 6, 7, 8, 9, 10, 11, 12, 13, 12, 0, 1, 2, 3, 4, 5, 6, 7, 8, 9, 10, 11, 12, 5, 11, 10, 9, 6, 8, 7, 4, 3, 2, 0, 1]]))
 .ret))), [.tmp 4, .tmp 5]⟩
theorem t149 : FnAt Try.prog 149 a149 := .mk Try.func149 (by kernel_rfl) (by kernel_rfl)
/-- busbar/bits.Get -/
def a154 : AF := ⟨2, 27, (.seq (.region [a 4 (.mv (bo false))] none)
 (.seq (.region [a 5 (.mv (t 1)),
   a 6 (.bin .geq (t 5) (i 0)),
   a 7 (.mv (t 6)),
   g 8 7 true (.mv (t 1)),
   g 9 7 true (.bin .shr (t 8) (.k (.c (.t (.int .u64 3))))),
   g 10 7 true (.mv (t 0)),
   g 11 7 true (.len false (t 10)),
   g 12 7 true (.bin .lss (t 9) (t 11)),
   a 13 (.pick (t 7) (t 12) (bo false)),
   a 14 (.mv (t 13)),
   g 15 14 true (.mv (t 0)),
   g 16 14 true (.mv (t 1)),
   g 17 14 true (.bin .shr (t 16) (.k (.c (.t (.int .u64 3))))),
   g 18 14 true (.idxAddr 1 (t 15) (t 17)),
   g 19 14 true (.load none (t 18)),
   g 20 14 true (.mv (t 1)),
   g 21 14 true (.bin .and (t 20) (i 7)),
   g 22 14 true (.conv .u64 (t 21)),
   g 23 14 true (.bin .shr (t 19) (t 22)),
   g 24 14 true (.bin .and (t 23) (.k (.c (.t (.int .u8 1))))),
   g 25 14 true (.bin .eql (t 24) (.k (.c (.t (.int .u8 1))))),
   a 26 (.pick (t 14) (t 25) (bo false)),
   a 4 (.mv (t 26))] none)
 .ret)), [.tmp 4]⟩
theorem t154 : FnAt Try.prog 154 a154 := .mk Try.func154 (by kernel_rfl) (by kernel_rfl)
end Go.Proofs.Ytheaeddojcebjaa
