/-
  IdenChecks, as its row asks for it.
-/
import Derived.Test.YtheaeddojcebjaaI7
import Derived.Test.YtheaeddojcebjaaO
set_option linter.unusedVariables false
set_option maxRecDepth 100000
set_option maxHeartbeats 4000000
namespace Go.Proofs.Ytheaeddojcebjaa
open Go.RowKit

theorem rd_objs7 {H : Type} {enc : TypeId × Value → H} {w : World} {n : Nat} {v : Value} {x : DataW H × List MemPlace} (h : DataW.trod enc Try.prog w 0 (fun _ => true) true n 24 [v] = some x) :
    ∃ l : List Obj, Rd w (gAll w).I v (lO l) ∧ l.length ≤ maxLen ∧ ∀ o ∈ l, b64 o.1 := by
  obtain ⟨rows, h1, h2, h3⟩ := rd_slice (sz := 2) Try.underlying24 (by kernel_rfl) (by omega) (fun r => ∃ o : Obj, r = [.int .i64 o.1, .str o.2] ∧ b64 o.1) (fun n cs y hy hl => by
    obtain ⟨_, hf⟩ := trod_field Try.underlying36 hy
    obtain ⟨_, _, u0, a0, t0⟩ := hf 0 _ rfl (by kernel_rfl) (by rw [hl]; decide)
    obtain ⟨_, _, u1, a1, t1⟩ := hf 1 _ rfl (by kernel_rfl) (by rw [hl]; decide)
    obtain ⟨x0, e0, _, w0⟩ := DataW.trod_int (k := .i64) Try.underlying3 t0
    obtain ⟨s, e1, _, _⟩ := DataW.trod_string Try.underlying9 t1
    simp only [List.cons.injEq, and_true] at e0 e1
    subst e0 e1
    refine ⟨[.int .i64 x0, .str s], rfl, ⟨(x0, s), rfl, wf_i64 w0⟩, fun j u t hu ht => ?_⟩
    match j, hu, ht with
    | 0, hu, ht => cases ht; cases hu.symm.trans a0; exact .int _ _
    | 1, hu, ht => cases ht; cases hu.symm.trans a1; exact .str _) h
  have : ∃ l : List Obj, rows = oRows l ∧ ∀ o ∈ l, b64 o.1 := by
    clear h1 h2
    induction rows with
    | nil => exact ⟨[], rfl, by simp⟩
    | cons r rows ih =>
      obtain ⟨l, hl, hw⟩ := ih (fun r hr => h3 r (List.mem_cons_of_mem _ hr))
      obtain ⟨_, o, ho, hb⟩ := h3 r (by simp)
      refine ⟨o :: l, by rw [ho, hl]; rfl, fun p hp => ?_⟩
      rcases List.mem_cons.1 hp with rfl | hp
      · exact hb
      · exact hw p hp
  obtain ⟨l, rfl, hw⟩ := this
  rw [oRows_len] at h1 h2
  exact ⟨l, h1, h2, hw⟩
theorem idenChecks_walk (v0 : Value) (a1 : Option Addr) (len1 cap1 : Nat) (z1 : List Int) (a2 a3 : Int) (w : World) (h0 : Came Try.prog w 24 v0) (h1 : IsRow .i64 w a1 len1 cap1 z1) (h2 : (Lit.int .i64 a2).wf = true) (h3 : (Lit.int .i64 a3).wf = true) :
    Calls Try.prog 5 #[v0, .slice a1 len1 cap1, .int .i64 a2, .int .i64 a3] w fun e w' => e = .returned (.bool true) ∧ Keeps Nope w w' := by
  obtain ⟨H, enc, d, ps, b, ⟨fuel, hf⟩, hok⟩ := h0
  obtain ⟨a, len, cap, rfl⟩ := Go.WideShapes.okWide_slice Try.underlying24 hok
  obtain ⟨l, r1, r2, r3⟩ := rd_objs7 (v := .slice a len cap) (by simpa [Value.cells] using hf)
  obtain ⟨hr, hl, hm, hw⟩ := h1.rd
  have h := idenChecks_ok (l := l) (by have : maxLen = 9223372036854775807 := rfl; omega) r3 (ks := z1.take len1) (fun x hx => wf_i64 (hw x hx)) (by rw [hl]; exact hm) (wf_i64 h2) (wf_i64 h3)
  exact h.law' (l := [.slice a len cap, .slice a1 len1 cap1, .int .i64 a2, .int .i64 a3]) (.cons (.e (.c (.t r1))) (.cons (.e (.c (.t hr))) (.cons (.int _ _) (.cons (.int _ _) .nil))))
end Go.Proofs.Ytheaeddojcebjaa
