/-
  The law AskFree.
-/
import Derived.Test.YtheaeddojcebjaaM28
set_option maxRecDepth 100000
set_option maxHeartbeats 4000000
set_option linter.unusedVariables false
set_option linter.unusedSimpArgs false
namespace Go.Proofs.Ytheaeddojcebjaa
open Go.RowKit

/-- The bit of a byte, as the law asks for it. -/
def bitX (x : Int) (i : Int) : Bool := IntKind.u8.wrap (BitVec.ofInt IntKind.u8.bits (x.fdiv (2 ^ min (IntKind.u64.wrap i).toNat IntKind.u8.bits)) &&& BitVec.ofInt IntKind.u8.bits 1).toNat == 1
theorem askFree_ok {l : List Bool} {at_ : Int} (ha : b64 at_) {x : Int} (hx : 0 ≤ x ∧ x ≤ 255) (hlm : l.length ≤ 9223372036854775807) : FnOk Try.prog 11 [vFs l, vI .i64 at_, vI .u8 x] [] (vB true) [] := by
  have haw := awake5_ok
  by_cases h1 : l.length < 1
  · exact FnOk.tree t11 (.a (.b 17 true) (.f [] haw .nil)) rfl rfl rfl rfl (by simp [leVs, leP, leE, leC]; omega)
  by_cases h2 : 100 < l.length
  · exact FnOk.tree t11 (.a (.b 17 false) (.a (.b 22 true) (.f [] haw .nil))) rfl rfl rfl rfl (by simp [leVs, leP, leE, leC]; omega)
  have hwa := within_ok (k := at_) (n := 65536) ha (by omega)
  have m1 := mod_rng at_ (n := 65536) (by omega)
  generalize at_ % 65536 = q at *
  have hq : 0 ≤ q ∧ q ≤ 65535 := by omega
  obtain ⟨hf, hr⟩ := coilsA_ok hq (l := l) (by omega) (by omega)
  have hb := askBytes_ok hf hr
  have hbt := askB_byt hf hr
  have hfree := @free_parse q hq l (by omega) (by omega)
  obtain ⟨_, _, hle, _⟩ := askB_ok hf hr
  have hsm := sameAsk_ok hf
  have hge : 7 ≤ (askB (coilsA q l)).length := by
    have e : (packL l).length = (l.length + 7) / 8 := packN_length _ _
    simp [askB, w2, e]
    omega
  generalize askB (coilsA q l) = b at *
  refine FnOk.start t11 rfl rfl rfl ?_
  refine Tri.seq (Tri.go [] rfl trivial ?_)
  refine Tri.seq (Tri.tree (.a (.b 17 false) (.a (.b 22 false) (.f [] haw .nil))) rfl ⟨decide_eq_false (by omega), by simp; omega, trivial, trivial, ?_⟩)
  refine Tri.seq (Tri.tree (.f [] hwa .nil) rfl ⟨trivial, by simp [leVs, leP, leE, leC], ?_⟩)
  refine Tri.seq (Tri.tree (.f [] hb .nil) rfl ⟨trivial, by simp [leVs, leP, leE, leL, leC], ?_⟩)
  refine Tri.seq (Tri.tree (.a (.b 40 false) (.a (.b 44 false) .nil)) rfl ⟨by simp, by simp; omega, ?_⟩)
  refine Tri.seq (Tri.go [] rfl ?_ ?_)
  · simp; omega
  have ht : (rI .u8 b).take b.length = rI .u8 b := by rw [rI_take]; simp
  rw [ht]
  have hmod : (l.length : Int).tmod 8 = ((l.length % 8 : Nat) : Int) := by rw [Int.tmod_eq_emod_of_nonneg (by omega)]; omega
  refine Tri.seq (Tri.seq (Tri.go [] rfl ⟨by omega, trivial⟩ ?_))
  rw [hmod]
  have hr8 : l.length % 8 < 8 := Nat.mod_lt _ (by omega)
  generalize hrr : l.length % 8 = r at *
  refine Tri.block ?_
  have hy0 := at_byt hbt (b.length - 1)
  refine Tri.lp (fun q' ρ hl => ∃ i y, q' = 8 - i ∧ r ≤ i ∧ i ≤ 8 ∧ (0 ≤ y ∧ y ≤ 255) ∧ y % 2 ^ r = b.getD (b.length - 1) 0 % 2 ^ r ∧ (r = 0 → i = 0 ∧ y = b.getD (b.length - 1) 0) ∧
    hl = [.box [.t (.int .i64 15), .t (.int .i64 q), .t (.int .i64 l.length), .t (.int .u16 0), .t (.int .u16 0), .t (.int .u16 0), .t (.ls 1 l.length (rF l)), .t .nil, .t (.int .i64 0), .t (.int .i64 0), .t (.int .i64 0), .t (.int .i64 0)], oI .u8 (b.set (b.length - 1) y)] ∧
    keepE ρ [2, 7, 10, 11] = some [(2, vI .u8 x), (7, vC (.ptr 0 0)), (10, vC (.sl 1 0 b.length)), (11, vI .i64 i)]) (8 - r) ⟨r, b.getD (b.length - 1) 0, rfl, by omega, by omega, hy0, rfl, fun h => ⟨h, rfl⟩, by rw [set_same], keep_of rfl (by simp)⟩ ?_
  rintro q' ρ hl' ⟨i, y, rfl, hi1, hi2, hy, hyr, hyz, rfl, hkk⟩
  refine Tri.keep _ hkk ?_
  by_cases hc : 0 < i ∧ i < 8
  · have hcl : (b.set (b.length - 1) y).length = b.length := by simp
    have hcb := byt_set hbt (b.length - 1) hy
    have hse := setO_ok (c := b.set (b.length - 1) y) (k := 8 * (b.length - 1) + i) hcb (by omega) (by omega) (bitX x i)
    rw [show (8 * (b.length - 1) + i) / 8 = b.length - 1 by omega, show (8 * (b.length - 1) + i) % 8 = i by omega, getD_set_eq (by omega), List.set_set, hcl] at hse
    have hyn := setY_rng hy (i := i) (by omega) (bitX x i)
    have hyl := setY_low (y := y) hi1 (bitX x i)
    generalize setY y i (bitX x i) = y' at *
    have hg : (rI .u8 (b.set (b.length - 1) y'))[b.length - 1]? = some [.int .u8 y'] := by rw [rI_get (by simp; omega), getD_set_eq (by omega)]
    have hL : ((b.length : Int) - 1).toNat = b.length - 1 := by omega
    refine Tri.seq (Tri.tree (.a (.b 52 true) (.a (.b 55 true) .nil)) rfl ⟨by simp; omega, by simp; omega, ?_⟩)
    refine Tri.seq (Tri.block (Tri.tree (.o [1] [] hse (.a (.at [.int .u8 y']) .nil)) rfl ⟨by omega, by omega, by omega, by omega, trivial, by rw [wu64]; omega, trivial, trivial, ⟨leP_refl _, ⟨rfl, by omega⟩, Iff.rfl, trivial⟩, rfl, by omega, ⟨by omega, by omega, rfl⟩, ?_, ⟨by omega, by omega, rfl⟩, ⟨rfl, by simp; omega, by omega⟩, ?_⟩))
    · rw [Nat.zero_add, hL]; exact hg
    refine Tri.let [0, 1] [] [2, 7, 10, 11] rfl trivial ?_
    refine Tri.go [] rfl ⟨by omega, trivial⟩ (again (8 - (i + 1)) (by omega) ⟨i + 1, y', rfl, by omega, by omega, hyn, hyl.trans hyr, fun h => by have := (hyz h).1; omega, ?_, keep_of rfl (by simp)⟩)
    rw [Nat.zero_add, hL, rI_mod, List.set_set]
  · have hz : r = 0 ∨ i = 8 := by
      rcases Nat.eq_zero_or_pos i with h | h
      · left; omega
      · right; omega
    have hpa := hfree hy hyr (fun h => (hyz h).2)
    have hp := askParse_ok (b := b.set (b.length - 1) y) (byt_set hbt _ hy) (by simp; omega)
    rw [hpa] at hp
    by_cases hi0 : i = 0
    · subst hi0
      refine Tri.go [.b 52 false] rfl ⟨by simp, trivial⟩ (outQ ?_)
      refine Tri.treeR (.f [1] hp (.a (.b 89 true) (.f [] hsm .nil))) rfl ?_
      simp [leVs, leP, leE, leL, leC]
    · have : i = 8 := by omega
      subst this
      refine Tri.go [.b 52 true, .b 55 false] rfl ⟨by simp, by simp, trivial⟩ (outQ ?_)
      refine Tri.treeR (.f [1] hp (.a (.b 89 true) (.f [] hsm .nil))) rfl ?_
      simp [leVs, leP, leE, leL, leC]
end Go.Proofs.Ytheaeddojcebjaa
