/-
  What was shown of a law, as its row asks for it.
-/
import Derived.Test.YtheaeddojcebjaaK25
set_option linter.unusedVariables false
set_option linter.unusedSimpArgs false
namespace Go.Proofs.Ytheaeddojcebjaa
open Go.RowKit

/-- A slice of whole numbers that came in. -/
def IsRow (k : IntKind) (w : World) (a : Option Addr) (len cap : Nat) (zs : List Int) : Prop :=
  (a = none ∧ len = 0 ∧ cap = 0 ∧ zs = []) ∨
  ∃ x, a = some x ∧ len ≤ cap ∧ cap ≤ maxLen ∧ zs.length = cap ∧ (∀ i, i < zs.length → w.cell? (x.add i) = some (.int k (zs.getD i 0))) ∧ ∀ n ∈ zs, (Lit.int k n).wf = true
/-- All that is there does not change. -/
def gAll (w : World) : Gh := ⟨fun b => b < w.heap.size, fun _ => none, fun _ _ => False⟩
theorem Rl.all (w : World) : Rl w (gAll w) (hx []) :=
  ⟨fun i hi => by simp [hx, Ob.live] at hi, fun i j b hi => by simp [hx, Ob.live] at hi, fun i b hi => by simp [hx, Ob.live] at hi, fun b (hb : b < w.heap.size) => hb⟩
theorem FnOk.law {P : Program} {f : FuncId} {vs : List V} {hs' : List Ob} (h : FnOk P f vs [] (vB true) hs') {w : World} (args : Array Value) (hn : args.size = vs.length) (hv : ∀ (j : Nat) v x, args[j]? = some v → vs[j]? = some x → RV w (gAll w) v x) :
    Calls P f args w fun e w' => e = .returned (.bool true) ∧ Keeps Nope w w' := by
  refine (h.2 w (gAll w) args (Rl.all w) (fun _ _ => rfl) hn hv).mono fun e w' ⟨v, g', he, hr, _, hF⟩ => ?_
  refine ⟨?_, hF.keeps.mono fun b _ hb => ?_⟩
  · subst he
    cases hr with
    | e h =>
    cases h with
    | c h =>
    cases h with
    | t h =>
    cases h with
    | bool b => rfl
  · obtain ⟨i, hi, hb⟩ := hb
    exact hb
/-- Arguments, one by one. -/
inductive Args (w : World) : List Value → List V → Prop
  | nil : Args w [] []
  | cons {v : Value} {x : V} {l : List Value} {m : List V} (h : RV w (gAll w) v x) (k : Args w l m) : Args w (v :: l) (x :: m)
theorem Args.at {w : World} : ∀ {l : List Value} {m : List V}, Args w l m → l.length = m.length ∧ ∀ (j : Nat) v x, l[j]? = some v → m[j]? = some x → RV w (gAll w) v x
  | _, _, .nil => ⟨rfl, fun j v x h => by simp at h⟩
  | _, _, .cons h k => by
    obtain ⟨e1, e2⟩ := k.at
    refine ⟨by simp [e1], fun j v x hj hx => ?_⟩
    cases j with
    | zero => simp at hj hx; subst hj; subst hx; exact h
    | succ j => exact e2 j v x (by simpa using hj) (by simpa using hx)
theorem FnOk.law' {P : Program} {f : FuncId} {l : List Value} {vs : List V} {hs' : List Ob} (h : FnOk P f vs [] (vB true) hs') {w : World} (ha : Args w l vs) :
    Calls P f l.toArray w fun e w' => e = .returned (.bool true) ∧ Keeps Nope w w' :=
  h.law _ (by simpa using ha.at.1) (fun j v x hj hx => ha.at.2 j v x (by simpa using hj) hx)
theorem RV.int {w : World} {g : Gh} (k : IntKind) (n : Int) : RV w g (.int k n) (vI k n) := .e (.c (.t (.int k n)))
theorem RV.bool {w : World} {g : Gh} (b : Bool) : RV w g (.bool b) (vB b) := .e (.c (.t (.bool b)))
theorem RV.str {w : World} {g : Gh} (b : ByteArray) : RV w g (.string b) (vD (.str b)) := .e (.c (.t (.str b)))
theorem addr_eta (x : Addr) (h : x.spot = none) : x = ⟨x.block, x.off, none⟩ := by cases x; simp at h; rw [h]
/-- A slice of whole numbers that came in: its numbers, and their kinds' bounds. -/
theorem IsRow.rd {k : IntKind} {w : World} {a : Option Addr} {len cap : Nat} {zs : List Int} (h : IsRow k w a len cap zs) :
    Rd w (gAll w).I (.slice a len cap) (lI k (zs.take len)) ∧ (zs.take len).length = len ∧ len ≤ maxLen ∧ ∀ n ∈ zs.take len, (Lit.int k n).wf = true := by
  rcases h with ⟨rfl, rfl, rfl, rfl⟩ | ⟨x, rfl, h1, h2, h3, h4, h5⟩
  · exact ⟨.lsn none 1, rfl, by decide, fun n hn => by simp at hn⟩
  · have hl : (zs.take len).length = len := by simp; omega
    refine ⟨?_, hl, by omega, fun n hn => h5 n (List.mem_of_mem_take hn)⟩
    cases hz : zs with
    | nil =>
      subst hz
      simp at h3
      subst h3
      have : len = 0 := by omega
      subst this
      exact .lsn _ 1
    | cons z zs' =>
      have hs : x.spot = none := by
        have := h4 0 (by rw [hz]; simp)
        simp only [Addr.add, if_true, World.cell?] at this
        split at this
        · split at this
          · cases this
          · rename_i hs; simpa using hs
        · cases this
      rw [← hz]
      have hr : Rd w (gAll w).I (.slice (some x) len cap) (.ls 1 len (rI k zs)) := by
        rw [addr_eta x hs]
        refine .ls x.block x.off 1 len cap (rI k zs) (fun i _ => .int k (zs.getD i 0)) ?_ (by simp; omega) (by simp; omega) h2 (by omega) ?_ ?_ ?_
        · have := h4 0 (by rw [hz]; simp)
          have h' := World.block_lt_of_cell? w _ this
          simp [Addr.add] at h'
          exact h'
        · intro i r hr
          rw [rI, List.getElem?_map] at hr
          obtain ⟨y, _, rfl⟩ := Option.map_eq_some_iff.1 hr
          rfl
        · intro i r j t hr hj
          have hi : i < zs.length := by have := (List.getElem?_eq_some_iff.1 hr).1; simpa using this
          rw [rI_get hi] at hr
          cases hr
          cases j with
          | succ j => simp at hj
          | zero =>
            have e : (⟨x.block, x.off + (i * 1 + 0), none⟩ : Addr) = x.add i := by
              unfold Addr.add
              split
              · rename_i h; subst h; rw [addr_eta x hs]; simp
              · simp [hs]
            rw [e]
            exact h4 i hi
        · intro i r j t hr hj
          have hi : i < zs.length := by have := (List.getElem?_eq_some_iff.1 hr).1; simpa using this
          rw [rI_get hi] at hr
          cases hr
          cases j with
          | succ j => simp at hj
          | zero => simp at hj; subst hj; exact .int k _
      have := hr.le (d' := lI k (zs.take len)) (.cut hl.symm (by rw [rI_take]))
      exact this
theorem wf_u8 {n : Int} (h : (Lit.int .u8 n).wf = true) : 0 ≤ n ∧ n ≤ 255 := by simpa [Lit.wf, IntKind.min, IntKind.max, IntKind.signed, IntKind.bits] using h
theorem wf_u16 {n : Int} (h : (Lit.int .u16 n).wf = true) : 0 ≤ n ∧ n ≤ 65535 := by simpa [Lit.wf, IntKind.min, IntKind.max, IntKind.signed, IntKind.bits] using h
theorem wf_i64 {n : Int} (h : (Lit.int .i64 n).wf = true) : -9223372036854775808 ≤ n ∧ n ≤ 9223372036854775807 := by simpa [Lit.wf, IntKind.min, IntKind.max, IntKind.signed, IntKind.bits] using h
end Go.Proofs.Ytheaeddojcebjaa
