/-
  ExecCells.
-/
import Derived.Test.YthddlkhfkncgpaaGreatE10
set_option maxRecDepth 100000
set_option maxHeartbeats 4000000
set_option linter.unusedVariables false
set_option linter.unusedSimpArgs false
namespace Go.Proofs.YthddlkhfkncgpaaGreat
open Go.RowKit

theorem sameCells_ok {l : List Cel} (hl : l.length ≤ 1000000) : FnOk Tryz.prog 14 [vCl l, vCl l] [] (vB true) [] := by
  refine FnOk.start t14 rfl rfl rfl ?_
  refine Tri.seq (Tri.go [] rfl trivial ?_)
  refine Tri.seq (Tri.tree (.a (.b 10 false) .nil) rfl ⟨by simp, ?_⟩)
  refine Tri.mid (fun ρ hl => hl = [] ∧ keepE ρ [0] = some [(0, vCl l)]) ?_ ?_
  · refine Tri.seq (Tri.go [] rfl trivial ?_)
    refine Tri.block ?_
    refine Tri.lp (fun q ρ hl => ∃ i, q = l.length - i ∧ i ≤ l.length ∧ hl = [] ∧ keepE ρ [0, 1, 5] = some [(0, vCl l), (1, vCl l), (5, vI .i64 i)]) l.length ⟨0, by omega, by omega, rfl, keep_of rfl rfl⟩ ?_
    rintro q ρ hl' ⟨i, rfl, hi, rfl, hkk⟩
    refine Tri.keep _ hkk ?_
    by_cases h : i < l.length
    · have hg := rwC_get h
      generalize l[i] = o at *
      refine Tri.seq (Tri.go [.b 14 true] rfl ⟨decide_eq_true (by omega), trivial⟩ ?_)
      refine Tri.seq (Tri.block (Tri.tree (.a (.at [.int .i64 o.1, .int .i64 o.2.1, .int .u16 o.2.2]) (.a (.at [.int .i64 o.1, .int .i64 o.2.1, .int .u16 o.2.2]) (.a (.b 25 false) .nil))) rfl ?_))
      refine ⟨⟨by omega, rfl, hg⟩, by simp, ⟨by omega, rfl, hg⟩, by simp, by simp, by simp, ?_⟩
      exact Tri.go [] rfl ⟨by omega, trivial⟩ (again (l.length - (i + 1)) (by omega) ⟨i + 1, rfl, by omega, rfl, keep_of rfl (by simp)⟩)
    · exact Tri.go [.b 14 false] rfl ⟨decide_eq_false (by omega), trivial⟩ (outQ ⟨rfl, keep_of rfl rfl⟩)
  rintro ρ hl' ⟨rfl, hkk⟩
  refine Tri.keep _ hkk ?_
  exact Tri.treeR .nil rfl (by simp [leP, leE, leC])
theorem tab_same {a : Ask} (h : a.right = true) : (rTab a.fn).1 = (kTab a.fn).1 := by
  have hk := of_decide_eq_true (right_known h)
  rcases hk with e | e | e | e | e | e | e | e | e | e | e <;> rw [e] <;> rfl
theorem rCells_ok {a : Ask} (hf : a.Fit) {was : Int} (hw : 0 ≤ was ∧ was ≤ 65535) : FnOk Tryz.prog 15 [a.v, vI .u16 was] [] (vCl (cellsT a was)) [] := by
  unfold cellsT
  cases h : a.right with
  | false =>
    have hr := rRight_ok hf
    rw [h] at hr
    exact FnOk.tree t15 (.f [] hr .nil) rfl rfl rfl rfl (by simp [leVs, leP, leE, leL, leC, rwC])
  | true =>
    obtain ⟨ws, e, _, _, _, h4⟩ := cells21e_ok hf h hw
    subst e
    rw [if_pos rfl, ← tab_same h]
    exact h4
/-- A bit of a word. -/
def bitW' (x : Int) (i : Nat) : Int := IntKind.u16.wrap (BitVec.ofInt IntKind.u16.bits (x.fdiv (2 ^ (min (IntKind.u64.wrap (i : Int)).toNat IntKind.u16.bits))) &&& BitVec.ofInt IntKind.u16.bits 1).toNat
theorem bitW_eq {x : Int} (hx : 0 ≤ x ∧ x ≤ 65535) {i : Nat} (hi : i < 16) : bitW' x i = if x.toNat.testBit i then 1 else 0 := by
  obtain ⟨n, rfl⟩ := Int.eq_ofNat_of_zero_le hx.1
  have hn : n < 65536 := by omega
  have e1 : (IntKind.u64.wrap (i : Int)).toNat = i := by rw [wu64]; omega
  have e2 : min i IntKind.u16.bits = i := by show min i 16 = i; omega
  unfold bitW'
  rw [e1, e2, Int.fdiv_eq_ediv_of_nonneg _ (Int.le_of_lt (Int.pow_pos (by decide)))]
  have e3 : ((n : Int) / 2 ^ i) = ((n / 2 ^ i : Nat) : Int) := by simp
  rw [e3, wu16]
  have hq : n / 2 ^ i < 65536 := Nat.lt_of_le_of_lt (Nat.div_le_self _ _) hn
  show (((BitVec.ofInt 16 ((n / 2 ^ i : Nat) : Int) &&& BitVec.ofInt 16 1).toNat : Nat) : Int) % 65536 = _
  rw [BitVec.toNat_and, BitVec.toNat_ofInt, BitVec.toNat_ofInt]
  have h1 : (((n / 2 ^ i : Nat) : Int) % ((2 ^ 16 : Nat) : Int)).toNat = n / 2 ^ i := by
    generalize n / 2 ^ i = q at hq
    show ((q : Int) % 65536).toNat = q
    omega
  have h2 : ((1 : Int) % ((2 ^ 16 : Nat) : Int)).toNat = 1 := by rfl
  rw [h1, h2, Nat.and_one_is_mod]
  simp only [Int.toNat_natCast, Nat.testBit_eq_decide_div_mod_eq]
  by_cases h : n / 2 ^ i % 2 = 1
  · simp [h]
  · have : n / 2 ^ i % 2 = 0 := by omega
    simp [this]
theorem maskE_nat {w a g : Nat} (hw : w < 65536) (ha : a < 65536) (hg : g < 65536) : maskE w a g = (((w &&& a) ||| (g &&& (65535 - a)) : Nat) : Int) := by
  have hm : ∀ n : Nat, n < 65536 → ((n : Int) % ((2 ^ 16 : Nat) : Int)).toNat = n := fun n hn => by
    show ((n : Int) % 65536).toNat = n
    omega
  unfold maskE
  have e1 : IntKind.u16.wrap (65535 - (a : Int)) = ((65535 - a : Nat) : Int) := by rw [wu16]; omega
  rw [e1]
  show IntKind.u16.wrap (BitVec.ofInt 16 (IntKind.u16.wrap (BitVec.ofInt 16 w &&& BitVec.ofInt 16 a).toNat) ||| BitVec.ofInt 16 (IntKind.u16.wrap (BitVec.ofInt 16 g &&& BitVec.ofInt 16 ((65535 - a : Nat) : Int)).toNat)).toNat = _
  have h1 : (BitVec.ofInt 16 (w : Int) &&& BitVec.ofInt 16 (a : Int)).toNat = w &&& a := by rw [BitVec.toNat_and, BitVec.toNat_ofInt, BitVec.toNat_ofInt, hm w hw, hm a ha]
  have h2 : (BitVec.ofInt 16 (g : Int) &&& BitVec.ofInt 16 ((65535 - a : Nat) : Int)).toNat = g &&& (65535 - a) := by rw [BitVec.toNat_and, BitVec.toNat_ofInt, BitVec.toNat_ofInt, hm g hg, hm _ (by omega)]
  have b1 : w &&& a < 65536 := Nat.lt_of_le_of_lt Nat.and_le_left hw
  have b2 : g &&& (65535 - a) < 65536 := Nat.lt_of_le_of_lt Nat.and_le_left hg
  rw [h1, h2, wu16, wu16, wu16]
  have c1 : (((w &&& a : Nat) : Int) % 65536) = ((w &&& a : Nat) : Int) := by omega
  have c2 : (((g &&& (65535 - a) : Nat) : Int) % 65536) = ((g &&& (65535 - a) : Nat) : Int) := by omega
  rw [c1, c2, BitVec.toNat_or, BitVec.toNat_ofInt, BitVec.toNat_ofInt, hm _ b1, hm _ b2]
  have b3 : (w &&& a) ||| (g &&& (65535 - a)) < 65536 := Nat.or_lt_two_pow (n := 16) b1 b2
  omega
theorem maskE_bit {was an og : Int} (hw : 0 ≤ was ∧ was ≤ 65535) (ha : 0 ≤ an ∧ an ≤ 65535) (hg : 0 ≤ og ∧ og ≤ 65535) {i : Nat} (hi : i < 16) : bitW' (maskE was an og) i = if bitW' an i = 1 then bitW' was i else bitW' og i := by
  rw [bitW_eq (maskE_rng was an og) hi, bitW_eq hw hi, bitW_eq ha hi, bitW_eq hg hi]
  obtain ⟨w, rfl⟩ := Int.eq_ofNat_of_zero_le hw.1
  obtain ⟨a, rfl⟩ := Int.eq_ofNat_of_zero_le ha.1
  obtain ⟨g, rfl⟩ := Int.eq_ofNat_of_zero_le hg.1
  have e := maskE_nat (w := w) (a := a) (g := g) (by omega) (by omega) (by omega)
  have e2 : 65535 - a = 2 ^ 16 - (a + 1) := by omega
  simp only [e, Int.toNat_natCast, Nat.testBit_or, Nat.testBit_and]
  rw [e2, Nat.testBit_two_pow_sub_succ (by omega)]
  have hb : ∀ p q r : Bool, (if (p && q || r && (true && !q)) = true then (1 : Int) else 0) = if (if q = true then (1 : Int) else 0) = 1 then (if p = true then 1 else 0) else if r = true then 1 else 0 := by decide
  rw [decide_eq_true hi]
  exact hb _ _ _
/-- A register's cells, masked: one word. -/
def mskA (an og : Int) : Ask := { fn := 22, at_ := 9, and_ := an, or_ := og }
theorem mskA_cells (was an og : Int) : cellsT (mskA an og) was = [(2, 9, maskE was an og)] := by
  have hr : (mskA an og).right = true := by simp [mskA, Ask.right, Ask.same, Ask.only, Ask.rest, known, countsB, kMost, placeB]
  unfold cellsT
  rw [if_pos hr]
  simp [mskA, wsC, layL, kTab]
theorem execCells_ok {a : Ask} (hfit : a.bits.length ≤ 1000000000000 ∧ a.words.length ≤ 1000000000000 → a.Fit) {was k v an og : Int} (hw : 0 ≤ was ∧ was ≤ 65535) (hk : b64 k) (hv : b64 v) (han : 0 ≤ an ∧ an ≤ 65535) (hog : 0 ≤ og ∧ og ≤ 65535) :
    FnOk Tryz.prog 3 [a.v, vI .u16 was, vI .i64 k, vI .i64 v, vI .u16 an, vI .u16 og] [] (vB true) [] := by
  have ha := awake25_ok
  by_cases hn : 200 < a.words.length
  · refine FnOk.tree t3 (.a (.b 21 true) (.a (.b 27 true) (.f [] ha .nil))) rfl rfl rfl rfl ?_
    repeat' (with_reducible apply And.intro)
    all_goals first | trivial | rfl | (exact decide_eq_true (by omega)) | (simp [leVs, leP, leE, leL, leC]; done)
  by_cases hn2 : 2100 < a.bits.length
  · refine FnOk.tree t3 (.a (.b 21 false) (.a (.b 27 true) (.f [] ha .nil))) rfl rfl rfl rfl ?_
    repeat' (with_reducible apply And.intro)
    all_goals first | trivial | rfl | (exact decide_eq_true (by omega)) | (exact decide_eq_false (by omega)) | (simp [leVs, leP, leE, leL, leC]; done)
  have hf := hfit ⟨by omega, by omega⟩
  have hg := askG_ok hk hv
  have gf := (askG_fit k v).1
  have hmf : (mskA an og).Fit := fitA (by simp [mskA, b64]) (by simp [mskA, b64]) (by simp [mskA, b64]) (by simp [mskA]) han hog (by simp [mskA]) (by simp [mskA]) wrd_nil (by simp [mskA, b64]) (by simp [mskA, b64]) (by simp [mskA, b64]) (by simp [mskA, b64])
  have hm := eCells_ok hmf (was := was)
  rw [mskA_cells] at hm
  have h1 := eCells_ok hf (was := was)
  have h2 := rCells_ok hf hw
  have l1 := cellsT_len hf was hw
  have h3 := eCells_ok gf (was := was)
  have h4 := rCells_ok gf hw
  have l2 := cellsT_len gf was hw
  generalize cellsT a was = la at *
  generalize hgg : askG k v = g at *
  generalize cellsT g was = lb at *
  have s1 := sameCells_ok (l := la) (by omega)
  have s2 := sameCells_ok (l := lb) (by omega)
  have hmr := maskE_rng was an og
  have hbit : ∀ i : Nat, i < 16 → bitW' (maskE was an og) i = if bitW' an i = 1 then bitW' was i else bitW' og i := fun i hi => maskE_bit hw han hog hi
  generalize maskE was an og = q at *
  refine FnOk.start t3 rfl rfl rfl ?_
  refine Tri.seq (Tri.go [] rfl trivial ?_)
  refine Tri.seq (Tri.tree (.a (.b 21 false) (.a (.b 27 false) (.f [] ha .nil))) rfl ⟨decide_eq_false (by omega), decide_eq_false (by omega), trivial, by simp [leVs], ?_⟩)
  refine Tri.seq (Tri.tree (.f [] hg .nil) rfl ⟨trivial, by simp [leVs], ?_⟩)
  refine Tri.seq (Tri.tree (.f [] hm .nil) rfl ⟨trivial, by simp [leVs, leP, leE, leL, leC, mskA], ?_⟩)
  refine Tri.seq (Tri.tree (.f [] h1 (.f [] h2 (.f [] s1 (.f [] h3 (.f [] h4 (.f [] s2 .nil)))))) rfl ?_)
  refine ⟨trivial, by simp [leVs], trivial, by simp [leVs], trivial, by simp [leVs], trivial, by simp [leVs], trivial, by simp [leVs], trivial, by simp [leVs], ?_⟩
  refine Tri.mid (fun ρ hl => hl = [.box a.cs, .box g.cs] ∧ keepE ρ [14] = some [(14, vCl [((2 : Int), (9 : Int), q)])]) ?_ ?_
  · refine Tri.seq (Tri.go [] rfl trivial ?_)
    refine Tri.block ?_
    refine Tri.lp (fun z ρ hl => ∃ i : Nat, z = 16 - i ∧ i ≤ 16 ∧ hl = [.box a.cs, .box g.cs] ∧
      keepE ρ [1, 4, 5, 14, 15] = some [(1, vI .u16 was), (4, vI .u16 an), (5, vI .u16 og), (14, vCl [((2 : Int), (9 : Int), q)]), (15, vI .i64 i)]) 16 ⟨0, by omega, by omega, rfl, keep_of rfl (by simp)⟩ ?_
    rintro z ρ hl' ⟨i, rfl, hi, rfl, hkk⟩
    refine Tri.keep _ hkk ?_
    by_cases hA' : 16 ≤ i
    · exact Tri.go [.b 64 false] rfl ⟨decide_eq_false (by omega), trivial⟩ (outQ ⟨rfl, keep_of rfl rfl⟩)
    have hi2 : i < 16 := by omega
    have hbi := hbit i hi2
    refine Tri.seq (Tri.go [.b 64 true] rfl ⟨decide_eq_true (by omega), trivial⟩ ?_)
    refine Tri.seq (Tri.block ?_)
    have hs : 0 ≤ IntKind.u64.wrap (i : Int) := by rw [wu64]; omega
    have hz : (0 ≤ (0 : Int) ∧ (0 : Int) < ((rwC [((2 : Int), (9 : Int), q)]).length : Nat)) := by simp
    refine Tri.seq (Tri.go [] rfl ⟨trivial, hs, trivial, trivial⟩ ?_)
    by_cases hb : bitW' an i = 1
    · rw [if_pos hb] at hbi
      refine Tri.seq (Tri.go [.b 77 true] rfl ⟨trivial, hs, trivial, beq_iff_eq.2 hb, trivial, hs, trivial, trivial⟩ ?_)
      refine Tri.tree (.a (.at [.int .i64 2, .int .i64 9, .int .u16 q]) (.a (.b 92 false) .nil)) rfl ?_
      refine ⟨⟨by simp, rfl, rfl⟩, by simp, hs, trivial, by exact bne_eq_false_iff_eq.2 hbi, ?_⟩
      exact Tri.go [] rfl ⟨by omega, trivial⟩ (again (16 - (i + 1)) (by omega) ⟨i + 1, rfl, by omega, rfl, keep_of rfl (by simp)⟩)
    · rw [if_neg hb] at hbi
      refine Tri.seq (Tri.go [.b 77 false] rfl ⟨trivial, hs, trivial, beq_eq_false_iff_ne.2 hb, trivial⟩ ?_)
      refine Tri.tree (.a (.at [.int .i64 2, .int .i64 9, .int .u16 q]) (.a (.b 92 false) .nil)) rfl ?_
      refine ⟨⟨by simp, rfl, rfl⟩, by simp, hs, trivial, by exact bne_eq_false_iff_eq.2 hbi, ?_⟩
      exact Tri.go [] rfl ⟨by omega, trivial⟩ (again (16 - (i + 1)) (by omega) ⟨i + 1, rfl, by omega, rfl, keep_of rfl (by simp)⟩)
  rintro ρ hl' ⟨rfl, hkk⟩
  refine Tri.keep _ hkk ?_
  refine Tri.treeR (.a (.at [.int .i64 2, .int .i64 9, .int .u16 q]) .nil) rfl ?_
  exact ⟨⟨by simp, rfl, rfl⟩, by simp, trivial, trivial, rfl, by simp [leP, leE, leC]⟩
end Go.Proofs.YthddlkhfkncgpaaGreat
