/-
  The law AskBack.
-/
import Derived.Test.YtheaeddojcebjaaM27
set_option maxRecDepth 100000
set_option maxHeartbeats 4000000
set_option linter.unusedVariables false
set_option linter.unusedSimpArgs false
namespace Go.Proofs.Ytheaeddojcebjaa
open Go.RowKit

theorem askBack_ok {k v : Int} (hk : b64 k) (hv : b64 v) {at_ : Int} (ha : b64 at_) {x : Int} (hx : 0 ≤ x ∧ x ≤ 255) {n : Int} (hn : b64 n) : FnOk Try.prog 9 [vI .i64 k, vI .i64 v, vI .i64 at_, vI .u8 x, vI .i64 n] [] (vB true) [] := by
  have haw := awake5_ok
  have hg := askG_ok hk hv
  obtain ⟨hf, hr0⟩ := askG_fit k v
  have hr := askRight_ok hf
  have hb := askBytes_ok hf hr0
  have hbt := askB_byt hf hr0
  have hpa := askParse_ok hbt (by have := (askB_ok hf hr0).2.2.1; omega)
  rw [pAsk_askB hf hr0] at hpa
  rw [hr0] at hr
  have hsm := sameAsk_ok hf
  obtain ⟨_, _, hle, _⟩ := askB_ok hf hr0
  obtain ⟨_, hge⟩ := askB_fn (askG k v)
  generalize askG k v = a at *
  generalize askB a = b at *
  refine FnOk.start t9 rfl rfl rfl ?_
  refine Tri.seq (Tri.go [] rfl trivial ?_)
  refine Tri.seq (Tri.tree (.f [] haw .nil) rfl ⟨trivial, trivial, ?_⟩)
  refine Tri.seq (Tri.tree (.f [] hg .nil) rfl ⟨trivial, by simp [leVs, leP, leE, leC], ?_⟩)
  refine Tri.seq (Tri.tree (.f [] hb .nil) rfl ⟨trivial, by simp [leVs], ?_⟩)
  refine Tri.seq (Tri.tree (.f [] hpa .nil) rfl ⟨trivial, by simp [leVs], ?_⟩)
  refine Tri.seq (Tri.tree (.f [] hr (.a (.b 43 false) (.a (.b 47 false) (.f [] hsm .nil)))) rfl ⟨trivial, by simp [leVs], by simp, by simp, trivial, by simp [leVs], ?_⟩)
  refine Tri.seq (Tri.go [] rfl ?_ ?_)
  · simp; omega
  refine Tri.let [2] [] [2, 3, 4, 16] rfl trivial ?_
  have ht : (rI .u8 b).take b.length = rI .u8 b := by rw [rI_take]; simp
  rw [ht]
  have hw1 := within_ok (k := at_) (n := b.length) ha (by omega)
  have m1 := mod_rng at_ (n := b.length) (by omega)
  obtain ⟨i, hi⟩ := Int.eq_ofNat_of_zero_le m1.1
  rw [hi] at hw1 m1
  have hgi := rI_get (k := .u8) (l := b) (i := i) (by omega)
  have hy := at_byt hbt i
  refine Tri.seq (Tri.tree (.f [] hw1 (.a (.at [.int .u8 (b.getD i 0)]) .nil)) rfl ?_)
  refine ⟨trivial, by simp [leVs, leP, leE, leC], ⟨by omega, by omega, rfl⟩, by simp [hgi], trivial, ⟨by omega, by omega, rfl⟩, ⟨rfl, by simp; omega, by omega⟩, ?_⟩
  have e1 : (rI .u8 b).modify (0 + (i : Int).toNat) (fun r => putAt r 0 [.int .u8 (IntKind.u8.wrap (b.getD i 0 + x))]) = rI .u8 (b.set i ((b.getD i 0 + x) % 256)) := by
    rw [Nat.zero_add, Int.toNat_natCast, wu8, rI_mod]
  rw [e1]
  have hcb : Byt (b.set i ((b.getD i 0 + x) % 256)) := byt_set hbt i (by omega)
  have hcl : (b.set i ((b.getD i 0 + x) % 256)).length = b.length := by simp
  generalize b.set i ((b.getD i 0 + x) % 256) = c at *
  have hw2 := within_ok (k := n) (n := b.length + 4) hn (by omega)
  have m2 := mod_rng n (n := b.length + 4) (by omega)
  generalize n % (b.length + 4) = q at *
  obtain ⟨q, rfl⟩ := Int.eq_ofNat_of_zero_le m2.1
  refine Tri.seq (Tri.tree (.f [] hw2 .nil) rfl ⟨by omega, trivial, by simp [leVs, leP, leE, leC], ?_⟩)
  refine Tri.mid (fun ρ hl => ∃ y j rows, Byt y ∧ y.length ≤ 300 ∧ y.length ≤ rows.length ∧ rows.take y.length = rI .u8 y ∧ (j = 0 ∧ hl = [.arr 1 rows] ∨ j = 1 ∧ hl = [.dead, .arr 1 rows]) ∧ keepE ρ [16] = some [(16, vC (.sl j 0 y.length))]) ?_ ?_
  · refine Tri.tree (.br 73 .nil .nil) rfl ⟨fun h => ?_, fun h => ?_⟩
    · have h := of_decide_eq_true h
      refine ⟨⟨by simp, by simp, by simp; omega, rfl⟩, c.take q, 0, rI .u8 c, fun z hz => hcb z (List.mem_of_mem_take hz), by simp; omega, by simp; omega, ?_, .inl ⟨rfl, rfl⟩, keep_of rfl ?_⟩
      · rw [rI_take, show (c.take q).length = q by simp; omega]
      · rw [show (c.take q).length = q by simp; omega]; simp
    · have h := of_decide_eq_false h
      obtain ⟨d, hd⟩ : ∃ d : Nat, (q : Int) - b.length = d := ⟨q - b.length, by omega⟩
      rw [hd]
      refine ⟨by omega, ⟨by omega, rfl, by simp [hcl], by simp; omega, by simp; omega⟩, c ++ List.replicate d 0, 1, rI .u8 c ++ List.replicate d [.int .u8 0], fun z hz => ?_, by simp; omega, by simp, ?_, .inr ⟨rfl, by simp⟩, keep_of rfl ?_⟩
      · rcases List.mem_append.1 hz with h | h
        · exact hcb z h
        · have := List.eq_of_mem_replicate h; omega
      · rw [rI_rep, rI_app, rI_take, List.take_of_length_le (Nat.le_refl _)]
      · simp [hcl]
  rintro ρ hl' ⟨y, j, rows, hyb, hyl, hyr, hyt, hcase, hkk⟩
  refine Tri.keep _ hkk ?_
  have hp1 := askParse_ok hyb (by omega)
  have hp2 := rParse_ok hyb (by omega)
  have hs := sameAsk_ok (pAsk_fit hyb)
  have tail : ∀ {D : List (List D)}, D.take y.length = rI .u8 y → y.length ≤ D.length → True := fun _ _ => trivial
  rcases hcase with ⟨rfl, rfl⟩ | ⟨rfl, rfl⟩
  · refine Tri.let [] [0] [16] rfl ⟨by omega, trivial⟩ ?_
    refine Tri.treeR (.f [] hp1 (.f [] hp2 (.a (.b 96 true) (.f [] hs .nil)))) rfl ?_
    simp [leVs, leP, leE, leC, hyt]
  · refine Tri.let [] [1] [16] rfl ⟨by omega, trivial⟩ ?_
    refine Tri.treeR (.f [] hp1 (.f [] hp2 (.a (.b 96 true) (.f [] hs .nil)))) rfl ?_
    simp [leVs, leP, leE, leC, hyt]
end Go.Proofs.Ytheaeddojcebjaa
