/-
  The law AskReads.
-/
import Derived.Test.YtheaeddojcebjaaM15
set_option maxRecDepth 100000
set_option maxHeartbeats 4000000
set_option linter.unusedVariables false
set_option linter.unusedSimpArgs false
namespace Go.Proofs.Ytheaeddojcebjaa
open Go.RowKit

theorem awake5_ok : FnOk Try.prog 32 [] [] (vB true) [] := by
  have h1 := askParse_ok (b := [1, 0, 19, 0, 37]) (by simp [Byt]) (by simp)
  have h2 := askParse_ok (b := [3, 0, 0, 0, 126]) (by simp [Byt]) (by simp)
  have h3 := askParse_ok (b := [7]) (by simp [Byt]) (by simp)
  have e1 : pAsk [1, 0, 19, 0, 37] = ({ fn := 1, at_ := 19, n := 37 }, 0) := by rfl
  have e2 : pAsk [3, 0, 0, 0, 126] = ({ fn := 3 }, 3) := by rfl
  have e3 : pAsk [7] = ({ fn := 7 }, 1) := by rfl
  rw [e1] at h1
  rw [e2] at h2
  rw [e3] at h3
  exact FnOk.tree t32 (.f [] h1 (.f [] h2 (.f [] h3 .nil))) rfl rfl rfl rfl (by simp [leVs, leP, leE, leC, rI])
theorem byt_set {l : List Int} (h : Byt l) (i : Nat) {x : Int} (hx : 0 ≤ x ∧ x ≤ 255) : Byt (l.set i x) := by
  intro y hy
  rcases List.mem_or_eq_of_mem_set hy with h' | rfl
  · exact h y h'
  · exact hx
theorem ask0_fit {fn : Int} (h : b64 fn) : Ask.Fit { fn := fn } := fitA h (by simp [b64]) (by simp [b64]) (by simp) (by simp) (by simp) (by simp) (by simp) wrd_nil (by simp [b64]) (by simp [b64]) (by simp [b64]) (by simp [b64])
theorem pAsk_fit {b : List Int} (hb : Byt b) : (pAsk b).1.Fit := by
  have hx := at_byt hb 0
  unfold pAsk
  split
  · exact ask0_fit (by simp [b64])
  rename_i h0
  split
  · exact ask0_fit (by omega)
  rename_i hk
  split
  · exact ask0_fit (by omega)
  split
  · exact ask0_fit (by omega)
  split
  · rename_i h
    obtain ⟨a, ys, bad, hfit, hgood, hof, hfn⟩ := fields_ok (fn := b.getD 0 0) (by simpa using hk) (xs := b.drop 1) (fun x hx => hb x (List.mem_of_mem_drop hx)) (by simp; omega)
    simp only [Bool.and_eq_true] at h
    exact hof h.1 ▸ hfit
  · exact ask0_fit (by omega)
theorem askReads_ok {b : List Int} (hb : Byt b) (hm : b.length ≤ 9223372036854775807) {fn : Int} (hf : b64 fn) (ahead : Bool) : FnOk Try.prog 6 [vBy b, vI .i64 fn, vB ahead] [] (vB true) [] := by
  have haw := awake5_ok
  by_cases h3 : 300 < b.length
  · exact FnOk.tree t6 (.a (.b 16 true) (.f [] haw .nil)) rfl rfl rfl rfl (by simp [leVs, leP, leE, leC]; omega)
  refine FnOk.start t6 rfl rfl rfl ?_
  refine Tri.seq (Tri.go [] rfl trivial ?_)
  refine Tri.seq (Tri.tree (.a (.b 16 false) (.f [] haw .nil)) rfl ⟨decide_eq_false (by omega), trivial, trivial, ?_⟩)
  refine Tri.seq (Tri.go [] rfl ?_ ?_)
  · simp; omega
  have hw := within_ok (k := fn) (n := 46) hf (by omega)
  refine Tri.mid (fun ρ hl => ∃ x, Byt x ∧ x.length ≤ 300 ∧ hl = [.arr 1 (rI .u8 x)] ∧ keepE ρ [7] = some [(7, vC (.sl 0 0 x.length))]) ?_ ?_
  · refine Tri.tree (.br 24 (.br 28 (.f [] hw .nil) .nil) .nil) rfl ?_
    simp only [leVs, leP, leE, leC, thenQ]
    have ht : (rI .u8 b).take b.length = rI .u8 b := by rw [rI_take]; simp
    rw [ht]
    have hm46 := Int.emod_nonneg fn (show (46 : Int) ≠ 0 by omega)
    refine ⟨fun h1 => ⟨fun h2 => ⟨trivial, by simp, trivial, ?_, ?_, b.set 0 (IntKind.u8.wrap (fn % 46)), byt_set hb 0 (by rw [wu8]; omega), by simp; omega, ?_, keep_of rfl (by simp)⟩, fun h2 => ⟨b, hb, by omega, rfl, keep_of rfl rfl⟩⟩, fun h1 => ⟨b, hb, by omega, rfl, keep_of rfl rfl⟩⟩
    · have h2 := of_decide_eq_true h2
      exact ⟨by omega, by omega, trivial⟩
    · have h2 := of_decide_eq_true h2
      exact ⟨rfl, by simp; omega, by omega⟩
    · rw [show 0 + Int.toNat 0 = 0 from rfl, rI_mod]
  · rintro ρ hl' ⟨x, hx, hxl, rfl, hk⟩
    refine Tri.keep _ hk ?_
    refine Tri.let [] [0] [7] rfl ?_ ?_
    · simp
    have hle := lentBytes_ok (l := x) (by omega)
    have hpa := askParse_ok (b := x) hx (by omega)
    have hrp := rParse_ok (b := x) hx (by omega)
    have hsa := sameAsk_ok (a := (pAsk x).1) (pAsk_fit hx)
    have hst := staysBytes_ok (l := x) (by omega)
    refine Tri.treeR (.f [] hle (.f [] hpa (.f [] hrp (.a (.b 49 true) (.f [] hsa (.f [] hst .nil)))))) rfl ?_
    have e1 : (rI .u8 (lent 165 x 3)).take x.length = rI .u8 x := by rw [rI_take]; simp [lent]
    simp [leVs, leP, leE, leC, e1]
end Go.Proofs.Ytheaeddojcebjaa
