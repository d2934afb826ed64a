/-
  A request as it comes in.
-/
import Derived.Test.YthddlkhfkncgpaaGreatM7a
import Derived.Test.YthddlkhfkncgpaaGreatO
set_option linter.unusedVariables false
set_option maxRecDepth 100000
namespace Go.Proofs.YthddlkhfkncgpaaGreat
open Go.RowKit

/-- A request that came in. -/
theorem ask_came {w : World} {v : Value} (h : Came Tryz.prog w 26 v) : ∃ a : Ask, RV w (gAll w) v a.v ∧ (a.bits.length ≤ 1000000000000 ∧ a.words.length ≤ 1000000000000 → a.Fit) := by
  obtain ⟨arr, rfl, hs, H, enc, hf⟩ := h.struct Tryz.underlying26
  have hs : arr.size = 12 := hs.trans (by kernel_rfl)
  obtain ⟨_, _, u0, a0, t0⟩ := hf 0 _ rfl (by kernel_rfl) (by rw [hs]; decide)
  obtain ⟨_, _, u1, a1, t1⟩ := hf 1 _ rfl (by kernel_rfl) (by rw [hs]; decide)
  obtain ⟨_, _, u2, a2, t2⟩ := hf 2 _ rfl (by kernel_rfl) (by rw [hs]; decide)
  obtain ⟨_, _, u3, a3, t3⟩ := hf 3 _ rfl (by kernel_rfl) (by rw [hs]; decide)
  obtain ⟨_, _, u4, a4, t4⟩ := hf 4 _ rfl (by kernel_rfl) (by rw [hs]; decide)
  obtain ⟨_, _, u5, a5, t5⟩ := hf 5 _ rfl (by kernel_rfl) (by rw [hs]; decide)
  obtain ⟨_, _, u6, a6, t6⟩ := hf 6 _ rfl (by kernel_rfl) (by rw [hs]; decide)
  obtain ⟨_, _, u7, a7, t7⟩ := hf 7 _ rfl (by kernel_rfl) (by rw [hs]; decide)
  obtain ⟨_, _, u8, a8, t8⟩ := hf 8 _ rfl (by kernel_rfl) (by rw [hs]; decide)
  obtain ⟨_, _, u9, a9, t9⟩ := hf 9 _ rfl (by kernel_rfl) (by rw [hs]; decide)
  obtain ⟨_, _, u10, a10, t10⟩ := hf 10 _ rfl (by kernel_rfl) (by rw [hs]; decide)
  obtain ⟨_, _, u11, a11, t11⟩ := hf 11 _ rfl (by kernel_rfl) (by rw [hs]; decide)
  obtain ⟨x0, e0, _, w0⟩ := DataW.trod_int (k := .i64) Tryz.underlying3 t0
  obtain ⟨x1, e1, _, w1⟩ := DataW.trod_int (k := .i64) Tryz.underlying3 t1
  obtain ⟨x2, e2, _, w2⟩ := DataW.trod_int (k := .i64) Tryz.underlying3 t2
  obtain ⟨x3, e3, _, w3⟩ := DataW.trod_int (k := .u16) Tryz.underlying22 t3
  obtain ⟨x4, e4, _, w4⟩ := DataW.trod_int (k := .u16) Tryz.underlying22 t4
  obtain ⟨x5, e5, _, w5⟩ := DataW.trod_int (k := .u16) Tryz.underlying22 t5
  obtain ⟨l6, r6, m6⟩ := rd_bools Tryz.underlying23 Tryz.underlying4 (by kernel_rfl) t6
  obtain ⟨l7, r7, m7, w7⟩ := rd_ints (k := .u16) Tryz.underlying24 Tryz.underlying22 (by kernel_rfl) t7
  obtain ⟨x8, e8, _, w8⟩ := DataW.trod_int (k := .i64) Tryz.underlying3 t8
  obtain ⟨x9, e9, _, w9⟩ := DataW.trod_int (k := .i64) Tryz.underlying3 t9
  obtain ⟨x10, e10, _, w10⟩ := DataW.trod_int (k := .i64) Tryz.underlying3 t10
  obtain ⟨x11, e11, _, w11⟩ := DataW.trod_int (k := .i64) Tryz.underlying3 t11
  simp only [List.cons.injEq, and_true] at e0 e1 e2 e3 e4 e5 e8 e9 e10 e11
  subst e0 e1 e2 e3 e4 e5 e8 e9 e10 e11
  refine ⟨⟨x0, x1, x2, x3, x4, x5, l6, l7, x8, x9, x10, x11⟩, .e (.agg arr _ hs fun j c hj => ?_), fun hl => fitA (wf_i64 w0) (wf_i64 w1) (wf_i64 w2) (wf_u16 w3) (wf_u16 w4) (wf_u16 w5) hl.1 hl.2 (fun x hx => wf_u16 (w7 x hx)) (wf_i64 w8) (wf_i64 w9) (wf_i64 w10) (wf_i64 w11)⟩
  match j, hj with
  | 0, hj => cases hj; exact ⟨_, a0, .t (.int _ _)⟩
  | 1, hj => cases hj; exact ⟨_, a1, .t (.int _ _)⟩
  | 2, hj => cases hj; exact ⟨_, a2, .t (.int _ _)⟩
  | 3, hj => cases hj; exact ⟨_, a3, .t (.int _ _)⟩
  | 4, hj => cases hj; exact ⟨_, a4, .t (.int _ _)⟩
  | 5, hj => cases hj; exact ⟨_, a5, .t (.int _ _)⟩
  | 6, hj => cases hj; exact ⟨_, a6, .t r6⟩
  | 7, hj => cases hj; exact ⟨_, a7, .t r7⟩
  | 8, hj => cases hj; exact ⟨_, a8, .t (.int _ _)⟩
  | 9, hj => cases hj; exact ⟨_, a9, .t (.int _ _)⟩
  | 10, hj => cases hj; exact ⟨_, a10, .t (.int _ _)⟩
  | 11, hj => cases hj; exact ⟨_, a11, .t (.int _ _)⟩
end Go.Proofs.YthddlkhfkncgpaaGreat
