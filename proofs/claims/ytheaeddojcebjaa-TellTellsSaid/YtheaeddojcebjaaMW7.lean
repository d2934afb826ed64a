/-
  TellTells, as its row asks for it.
-/
import Derived.Test.YtheaeddojcebjaaM45
import Derived.Test.YtheaeddojcebjaaO
set_option linter.unusedVariables false
set_option maxRecDepth 100000
namespace Go.Proofs.Ytheaeddojcebjaa
open Go.RowKit

theorem rd_objs {H : Type} {enc : TypeId × Value → H} {w : World} {n : Nat} {v : Value} {x : DataW H × List MemPlace} (h : DataW.trod enc Try.prog w 0 (fun _ => true) true n 24 [v] = some x) :
    ∃ l : List Obj, Rd w (gAll w).I v (lO l) ∧ l.length ≤ maxLen ∧ ∀ o ∈ l, b64 o.1 := by
  obtain ⟨rows, h1, h2, h3⟩ := rd_slice (sz := 2) Try.underlying24 (by kernel_rfl) (by omega) (fun r => ∃ o : Obj, r = [.int .i64 o.1, .str o.2] ∧ b64 o.1) (fun n cs y hy hl => by
    obtain ⟨_, hf⟩ := trod_field Try.underlying36 hy
    obtain ⟨_, _, u0, a0, t0⟩ := hf 0 _ rfl (by kernel_rfl) (by rw [hl]; decide)
    obtain ⟨_, _, u1, a1, t1⟩ := hf 1 _ rfl (by kernel_rfl) (by rw [hl]; decide)
    obtain ⟨x0, e0, _, w0⟩ := DataW.trod_int (k := .i64) Try.underlying3 t0
    obtain ⟨s, e1, _, _⟩ := DataW.trod_string Try.underlying9 t1
    simp only [List.cons.injEq, and_true] at e0 e1
    subst e0 e1
    refine ⟨[.int .i64 x0, .str s], rfl, ⟨(x0, s), rfl, wf_i64 w0⟩, fun j u t hu ht => ?_⟩
    match j, hu, ht with
    | 0, hu, ht => cases ht; cases hu.symm.trans a0; exact .int _ _
    | 1, hu, ht => cases ht; cases hu.symm.trans a1; exact .str _) h
  have : ∃ l : List Obj, rows = oRows l ∧ ∀ o ∈ l, b64 o.1 := by
    clear h1 h2
    induction rows with
    | nil => exact ⟨[], rfl, by simp⟩
    | cons r rows ih =>
      obtain ⟨l, hl, hw⟩ := ih (fun r hr => h3 r (List.mem_cons_of_mem _ hr))
      obtain ⟨_, o, ho, hb⟩ := h3 r (by simp)
      refine ⟨o :: l, by rw [ho, hl]; rfl, fun p hp => ?_⟩
      rcases List.mem_cons.1 hp with rfl | hp
      · exact hb
      · exact hw p hp
  obtain ⟨l, rfl, hw⟩ := this
  rw [oRows_len] at h1 h2
  exact ⟨l, h1, h2, hw⟩
/-- A reply that came in. -/
theorem tell_came {w : World} {v : Value} (h : Came Try.prog w 32 v) : ∃ a : Tell, RV w (gAll w) v a.v ∧ a.objs.length ≤ 9223372036854775807 ∧ (a.bits.length ≤ 2100 → a.words.length ≤ 200 → a.objs.length ≤ 130 → few6B a.objs = true → a.Fit) := by
  obtain ⟨arr, rfl, hs, H, enc, hf⟩ := h.struct Try.underlying32
  have hs : arr.size = 14 := hs.trans (by kernel_rfl)
  obtain ⟨_, _, u0, a0, t0⟩ := hf 0 _ rfl (by kernel_rfl) (by rw [hs]; decide)
  obtain ⟨_, _, u1, a1, t1⟩ := hf 1 _ rfl (by kernel_rfl) (by rw [hs]; decide)
  obtain ⟨_, _, u2, a2, t2⟩ := hf 2 _ rfl (by kernel_rfl) (by rw [hs]; decide)
  obtain ⟨_, _, u3, a3, t3⟩ := hf 3 _ rfl (by kernel_rfl) (by rw [hs]; decide)
  obtain ⟨_, _, u4, a4, t4⟩ := hf 4 _ rfl (by kernel_rfl) (by rw [hs]; decide)
  obtain ⟨_, _, u5, a5, t5⟩ := hf 5 _ rfl (by kernel_rfl) (by rw [hs]; decide)
  obtain ⟨_, _, u6, a6, t6⟩ := hf 6 _ rfl (by kernel_rfl) (by rw [hs]; decide)
  obtain ⟨_, _, u7, a7, t7⟩ := hf 7 _ rfl (by kernel_rfl) (by rw [hs]; decide)
  obtain ⟨_, _, u8, a8, t8⟩ := hf 8 _ rfl (by kernel_rfl) (by rw [hs]; decide)
  obtain ⟨_, _, u9, a9, t9⟩ := hf 9 _ rfl (by kernel_rfl) (by rw [hs]; decide)
  obtain ⟨_, _, u10, a10, t10⟩ := hf 10 _ rfl (by kernel_rfl) (by rw [hs]; decide)
  obtain ⟨_, _, u11, a11, t11⟩ := hf 11 _ rfl (by kernel_rfl) (by rw [hs]; decide)
  obtain ⟨_, _, u12, a12, t12⟩ := hf 12 _ rfl (by kernel_rfl) (by rw [hs]; decide)
  obtain ⟨_, _, u13, a13, t13⟩ := hf 13 _ rfl (by kernel_rfl) (by rw [hs]; decide)
  obtain ⟨x0, e0, _, w0⟩ := DataW.trod_int (k := .i64) Try.underlying3 t0
  obtain ⟨x1, e1, _, w1⟩ := DataW.trod_int (k := .i64) Try.underlying3 t1
  obtain ⟨x2, r2, m2⟩ := rd_bools Try.underlying28 Try.underlying4 (by kernel_rfl) t2
  obtain ⟨x3, r3, m3, w3⟩ := rd_ints (k := .u16) Try.underlying29 Try.underlying30 (by kernel_rfl) t3
  obtain ⟨x4, e4, _, w4⟩ := DataW.trod_int (k := .i64) Try.underlying3 t4
  obtain ⟨x5, e5, _, w5⟩ := DataW.trod_int (k := .i64) Try.underlying3 t5
  obtain ⟨x6, e6, _, w6⟩ := DataW.trod_int (k := .u16) Try.underlying30 t6
  obtain ⟨x7, e7, _, w7⟩ := DataW.trod_int (k := .u16) Try.underlying30 t7
  obtain ⟨x8, e8, _, w8⟩ := DataW.trod_int (k := .u16) Try.underlying30 t8
  obtain ⟨x9, e9, _, w9⟩ := DataW.trod_int (k := .i64) Try.underlying3 t9
  obtain ⟨x10, e10, _, w10⟩ := DataW.trod_int (k := .i64) Try.underlying3 t10
  obtain ⟨x11, e11, _⟩ := DataW.trod_bool Try.underlying4 t11
  obtain ⟨x12, e12, _, w12⟩ := DataW.trod_int (k := .i64) Try.underlying3 t12
  obtain ⟨x13, r13, m13, w13⟩ := rd_objs t13
  simp only [List.cons.injEq, and_true] at e0 e1 e4 e5 e6 e7 e8 e9 e10 e11 e12
  subst e0 e1 e4 e5 e6 e7 e8 e9 e10 e11 e12
  have hmx : maxLen = 9223372036854775807 := rfl
  refine ⟨⟨x0, x1, x2, x3, x4, x5, x6, x7, x8, x9, x10, x11, x12, x13⟩, .e (.agg arr _ hs fun j c hj => ?_), by simp only; omega, fun b1 b2 b3 b4 => ⟨wf_i64 w0, wf_i64 w1, by simp only at b1 ⊢; omega, by simp only at b2 ⊢; omega, fun x hx => wf_u16 (w3 x hx), wf_i64 w4, wf_i64 w5, wf_u16 w6, wf_u16 w7, wf_u16 w8, wf_i64 w9, wf_i64 w10, wf_i64 w12, by simp only at b3 ⊢; omega, fun o ho => ⟨w13 o ho, ?_⟩⟩⟩
  · match j, hj with
    | 0, hj => cases hj; exact ⟨_, a0, .t (.int _ _)⟩
    | 1, hj => cases hj; exact ⟨_, a1, .t (.int _ _)⟩
    | 2, hj => cases hj; exact ⟨_, a2, .t r2⟩
    | 3, hj => cases hj; exact ⟨_, a3, .t r3⟩
    | 4, hj => cases hj; exact ⟨_, a4, .t (.int _ _)⟩
    | 5, hj => cases hj; exact ⟨_, a5, .t (.int _ _)⟩
    | 6, hj => cases hj; exact ⟨_, a6, .t (.int _ _)⟩
    | 7, hj => cases hj; exact ⟨_, a7, .t (.int _ _)⟩
    | 8, hj => cases hj; exact ⟨_, a8, .t (.int _ _)⟩
    | 9, hj => cases hj; exact ⟨_, a9, .t (.int _ _)⟩
    | 10, hj => cases hj; exact ⟨_, a10, .t (.int _ _)⟩
    | 11, hj => cases hj; exact ⟨_, a11, .t (.bool _)⟩
    | 12, hj => cases hj; exact ⟨_, a12, .t (.int _ _)⟩
    | 13, hj => cases hj; exact ⟨_, a13, .t r13⟩
  · simp only [few6B, List.all_eq_true, decide_eq_true_eq] at b4
    have := b4 o ho
    omega
theorem tellTells_walk (v0 : Value) (w : World) (h0 : Came Try.prog w 32 v0) :
    Calls Try.prog 14 #[v0] w fun e w' => e = .returned (.bool true) ∧ Keeps Nope w w' := by
  obtain ⟨a, hv, hm, hf⟩ := tell_came h0
  exact (tellTells_ok hm hf).law' (l := [v0]) (.cons hv .nil)
end Go.Proofs.Ytheaeddojcebjaa
