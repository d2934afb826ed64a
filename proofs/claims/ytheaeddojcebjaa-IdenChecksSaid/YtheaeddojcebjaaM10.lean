/-
  The document's words among bytes.
-/
import Derived.Test.YtheaeddojcebjaaM9
set_option maxRecDepth 100000
set_option maxHeartbeats 4000000
set_option linter.unusedVariables false
set_option linter.unusedSimpArgs false
namespace Go.Proofs.Ytheaeddojcebjaa
open Go.RowKit

theorem rGet_ok {l : List Int} {k : Int} (hb : Byt l) (hl : l.length ≤ 100000000000000) (hk : b64 k) : FnOk Try.prog 149 [vBy l, vI .i64 k] [] (.tup [.c (.t (.int .u16 (if has2 l k then wAt l k.toNat else 0))), .c (.t (.bool (has2 l k)))]) [] := by
  by_cases h1 : k < 0
  · exact FnOk.go t149 [.b 8 true] [] [] rfl rfl rfl rfl rfl rfl rfl (by simp [*]) trivial (.of (by simp [has2]; omega))
  · by_cases h2 : (l.length : Int) - 2 < k
    · exact FnOk.go t149 [.b 8 false, .b 14 true] [] [] rfl rfl rfl rfl rfl rfl rfl ⟨decide_eq_false h1, by omega, decide_eq_true (by omega), trivial⟩ trivial (.of (by simp [has2]; omega))
    · have e : has2 l k = true := by simp [has2]; omega
      rw [e]
      have e3 : (k + 1).toNat = k.toNat + 1 := by omega
      have a0 := at_byt hb k.toNat
      have a1 := at_byt hb (k.toNat + 1)
      refine FnOk.go t149 [.b 8 false, .b 14 false, .at [.int .u8 (l.getD k.toNat 0)], .at [.int .u8 (l.getD (k.toNat + 1) 0)]] [] [] rfl rfl rfl rfl rfl rfl rfl ?_ trivial (.of ?_)
      · have e1 := rI_get (k := .u8) (l := l) (i := k.toNat) (by omega)
        have e2 := rI_get (k := .u8) (l := l) (i := k.toNat + 1) (by omega)
        simp [e1, e2, e3]
        omega
      · rw [wu16, wu16, wu16, wu16, if_pos rfl]
        have : ((l.getD k.toNat 0 % 65536 * 256) % 65536 + l.getD (k.toNat + 1) 0 % 65536) % 65536 = wAt l k.toNat := by unfold wAt; omega
        rw [this]
/-- The word at a place, none is 0. -/
def wOr (l : List Int) (k : Nat) : Int := if k + 2 ≤ l.length then wAt l k else 0
theorem wOr_rng {l : List Int} (h : Byt l) (k : Nat) : 0 ≤ wOr l k ∧ wOr l k ≤ 65535 := by
  have := wAt_rng h k
  unfold wOr; split <;> omega
theorem word_ok {l : List Int} {k : Nat} (hb : Byt l) (hl : l.length ≤ 100000000000000) (hk : k ≤ 100000000000000) : FnOk Try.prog 131 [vBy l, vI .i64 k] [] (vI .i64 (wOr l k)) [] := by
  have hg := rGet_ok hb hl (k := k) (by omega)
  have hr := wOr_rng hb k
  have e : (if has2 l k then wAt l (k : Int).toNat else 0) = wOr l k := by
    unfold wOr has2
    by_cases h : k + 2 ≤ l.length
    · rw [if_pos h, if_pos (decide_eq_true (by omega))]; rfl
    · rw [if_neg h, if_neg (by simp; omega)]
  rw [e] at hg
  exact FnOk.go t131 [.lend [] (.tup [.c (.t (.int .u16 (wOr l k))), .c (.t (.bool (has2 l k)))])] [] [] rfl rfl rfl rfl rfl rfl rfl ⟨trivial, hg, by omega, trivial⟩ trivial (.refl _)
/-- Words from a place on. -/
def wsAt (b : List Int) (at_ n : Nat) : List Int := (List.range n).map fun i => wOr b (at_ + 2 * i)
theorem wsAt_succ (b : List Int) (k n : Nat) : wsAt b k (n + 1) = wsAt b k n ++ [wOr b (k + 2 * n)] := by simp [wsAt, List.range_succ]
theorem wsAt_len (b : List Int) (k n : Nat) : (wsAt b k n).length = n := by simp [wsAt]
def listOk (b : List Int) (k : Nat) (n : Int) : Bool := decide ((b.length : Int) = k + 2 * n)
theorem list_ok {b : List Int} {k : Nat} {n : Int} (hb : Byt b) (hl : b.length ≤ 1000000) (hk : k ≤ 1000) (hn : 0 ≤ n ∧ n ≤ 65535) : FnOk Try.prog 133 [vBy b, vI .i64 k, vI .i64 n] [] (.tup [.c (.t (lI .u16 (if listOk b k n then wsAt b k n.toNat else []))), .c (.t (.bool (listOk b k n)))]) [] := by
  obtain ⟨m, rfl⟩ := Int.eq_ofNat_of_zero_le hn.1
  by_cases h : (b.length : Int) = k + 2 * m
  · have e : listOk b k m = true := decide_eq_true h
    rw [e]
    refine FnOk.start t133 rfl rfl rfl ?_
    refine Tri.seq (Tri.go [] rfl trivial ?_)
    refine Tri.seq (Tri.go [.b 16 false] rfl ⟨by omega, by omega, by rw [bne_eq_false_iff_eq]; exact h, trivial⟩ ?_)
    refine Tri.seq (Tri.go [] rfl trivial ?_)
    refine Tri.seq (Tri.seq (Tri.go [] rfl trivial ?_))
    refine Tri.block ?_
    refine Tri.own 8 1 (by omega) rfl ?_
    refine Tri.lp (fun q ρ hl => ∃ i, q = m - i ∧ i ≤ m ∧ hl = [.arr 1 (rI .u16 (wsAt b k i))] ∧ keepE ρ [0, 1, 2, 8, 9] = some [(0, vBy b), (1, vI .i64 k), (2, vI .i64 m), (8, vC (.sl 0 0 i)), (9, vI .i64 i)]) m ⟨0, by omega, by omega, by simp [wsAt, rI], keep_of rfl (by simp)⟩ ?_
    rintro q ρ hl' ⟨i, rfl, hi, rfl, hkk⟩
    refine Tri.keep _ hkk ?_
    by_cases h2 : i < m
    · have hu := wsAt_len b k i
      have hr := wOr_rng hb (k + 2 * i)
      have hw := word_ok hb (by omega) (k := k + 2 * i) (by omega)
      refine Tri.seq (Tri.go [.b 19 true] rfl ⟨decide_eq_true (by omega), trivial⟩ ?_)
      refine Tri.seq (Tri.block (Tri.go [.lend [] (vI .i64 (wOr b (k + 2 * i)))] rfl ?_ ?_))
      · simp only [true_and, and_true]
        refine ⟨by omega, by omega, hw.cast (by simp) rfl, ⟨rfl, by simp⟩, ?_⟩
        simp [hu]
        omega
      · refine Tri.let [1] [] [0, 1, 2, 8, 9] rfl trivial ?_
        refine Tri.go [] rfl ⟨by omega, trivial⟩ (again (m - (i + 1)) (by omega) ⟨i + 1, rfl, by omega, ?_, keep_of rfl (by simp)⟩)
        rw [wsAt_succ, ← rI_app, wu16, Int.emod_eq_of_lt hr.1 (by omega)]
        rfl
    · refine Tri.go [.b 19 false] rfl ⟨decide_eq_false (by omega), trivial⟩ (outQ ?_)
      refine Tri.go [] rfl trivial (RetQ.of [] [0] rfl ?_ (.tup (.cons (.c (.t (.cut ?_ ?_))) (.cons (.refl _) .nil))) rfl)
      · simp [wsAt_len]
      · simp [wsAt_len]; omega
      · rw [show i = m by omega]; simp [rI_take, wsAt_len, List.take_of_length_le]
  · have e : listOk b k m = false := decide_eq_false h
    rw [e]
    exact FnOk.go t133 [.b 16 true] [] [] rfl rfl rfl rfl rfl rfl rfl ⟨by omega, by omega, by rw [bne_iff_ne]; exact h, trivial⟩ trivial (.tup (.cons (.c (.t (.nil 1))) (.cons (.refl _) .nil)))
end Go.Proofs.Ytheaeddojcebjaa
