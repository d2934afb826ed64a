/-
  The law AskCuts.
-/
import Derived.Test.YtheaeddojcebjaaM22
set_option maxRecDepth 100000
set_option maxHeartbeats 4000000
set_option linter.unusedVariables false
set_option linter.unusedSimpArgs false
namespace Go.Proofs.Ytheaeddojcebjaa
open Go.RowKit

theorem rI_snoc {k : IntKind} {l : List Int} {x : Int} : rI k l ++ [[.int k x]] = rI k (l ++ [x]) := by simp [rI]
theorem askCuts_ok {k v : Int} (hk : b64 k) (hv : b64 v) {x : Int} (hx : 0 ≤ x ∧ x ≤ 255) : FnOk Try.prog 10 [vI .i64 k, vI .i64 v, vI .u8 x] [] (vB true) [] := by
  have haw := awake5_ok
  have hg := askG_ok hk hv
  obtain ⟨hf, hr⟩ := askG_fit k v
  have hb := askBytes_ok hf hr
  have hbt := askB_byt hf hr
  have hcut := @cut_ok _ hf hr
  have hmore := more_ok hf hr x
  obtain ⟨_, _, hle, _⟩ := askB_ok hf hr
  obtain ⟨_, hge⟩ := askB_fn (askG k v)
  generalize askG k v = a at *
  generalize askB a = b at *
  refine FnOk.start t10 rfl rfl rfl ?_
  refine Tri.seq (Tri.go [] rfl trivial ?_)
  refine Tri.seq (Tri.tree (.f [] haw .nil) rfl ⟨trivial, trivial, ?_⟩)
  refine Tri.seq (Tri.tree (.f [] hg (.f [] hb .nil)) rfl ⟨trivial, by simp [leVs, leP, leE, leC], trivial, by simp [leVs], ?_⟩)
  refine Tri.seq (Tri.tree (.a (.b 27 false) (.a (.b 31 false) .nil)) rfl ⟨by simp, decide_eq_false (by omega), ?_⟩)
  refine Tri.seq (Tri.seq (Tri.go [] rfl trivial ?_))
  refine Tri.block ?_
  refine Tri.lp (fun q ρ hl => ∃ i, q = b.length - i ∧ 1 ≤ i ∧ i ≤ b.length ∧ hl = [] ∧ keepE ρ [2, 7, 9] = some [(2, vI .u8 x), (7, vBy b), (9, vI .i64 i)]) (b.length - 1) ⟨1, by omega, by omega, by omega, rfl, keep_of rfl (by simp)⟩ ?_
  rintro q ρ hl' ⟨i, rfl, hi1, hi, rfl, hkk⟩
  refine Tri.keep _ hkk ?_
  by_cases h : i < b.length
  · have hp := askParse_ok (b := b.take i) (fun y hy => hbt y (List.mem_of_mem_take hy)) (by simp; omega)
    have hc := hcut hi1 h
    refine Tri.seq (Tri.go [.b 35 true] rfl ⟨by simp; omega, trivial⟩ ?_)
    refine Tri.seq (Tri.block (Tri.tree (.f [] hp (.a (.b 46 false) .nil)) rfl ⟨?_, trivial, ?_, ?_, ?_⟩))
    · simp; omega
    · simp [leVs, leP, leE, leC, rI_take]; omega
    · simp [hc]
    refine Tri.let [] [] [2, 7, 9] rfl trivial ?_
    refine Tri.go [] rfl ⟨by omega, trivial⟩ (again (b.length - (i + 1)) (by omega) ⟨i + 1, rfl, by omega, by omega, rfl, keep_of rfl (by simp)⟩)
  · have hp := askParse_ok (b := b ++ [x]) (fun y hy => (List.mem_append.1 hy).elim (hbt y) (fun h => by simp at h; subst h; exact hx)) (by simp; omega)
    have hn := askParse_ok (b := []) (fun y hy => (nomatch hy)) (by simp)
    have hn' : (pAsk []).2 = 1 := rfl
    refine Tri.go [.b 35 false] rfl ⟨by simp; omega, trivial⟩ (outQ ?_)
    refine Tri.treeR (.f [1] hp (.f [] hn (.a (.b 62 true) .nil))) rfl ?_
    simp [leVs, leP, leE, leC, rI_take, rI_snoc, hmore, hn']
    omega
end Go.Proofs.Ytheaeddojcebjaa
