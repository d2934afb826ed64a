/-
  The document's Set; the law AskFree.
-/
import Derived.Test.YtheaeddojcebjaaM27
set_option maxRecDepth 100000
set_option maxHeartbeats 4000000
set_option linter.unusedVariables false
set_option linter.unusedSimpArgs false
namespace Go.Proofs.Ytheaeddojcebjaa
open Go.RowKit

/-- A byte with one bit as it is wanted. -/
def setY (y : Int) (i : Nat) (v : Bool) : Int := if decide (y / 2 ^ i % 2 = 1) = v then y else if v then y + 2 ^ i else y - 2 ^ i
theorem setY_rng {y : Int} (h : 0 ≤ y ∧ y ≤ 255) {i : Nat} (hi : i < 8) (v : Bool) : 0 ≤ setY y i v ∧ setY y i v ≤ 255 := by
  unfold setY
  have : i = 0 ∨ i = 1 ∨ i = 2 ∨ i = 3 ∨ i = 4 ∨ i = 5 ∨ i = 6 ∨ i = 7 := by omega
  rcases this with rfl | rfl | rfl | rfl | rfl | rfl | rfl | rfl
  all_goals
    cases v <;> simp <;> split <;> omega
theorem setY_low {y : Int} {i r : Nat} (hr : r ≤ i) (v : Bool) : setY y i v % 2 ^ r = y % 2 ^ r := by
  obtain ⟨d, rfl⟩ := Nat.exists_eq_add_of_le hr
  unfold setY
  have e : (2 : Int) ^ (r + d) = 2 ^ r * 2 ^ d := Int.pow_add _ _ _
  split
  · rfl
  · split
    · rw [e, Int.add_mul_emod_self_left]
    · rw [e, Int.sub_eq_add_neg, ← Int.mul_neg, Int.add_mul_emod_self_left]
theorem set_same {c : List Int} {k : Nat} : c.set k (c.getD k 0) = c := by
  rcases Nat.lt_or_ge k c.length with h | h
  · rw [List.getD_eq_getElem?_getD, List.getElem?_eq_getElem h]
    simp
  · exact List.set_eq_of_length_le h
@[simp] theorem leOs_cons_arr {sz : Nat} {r r' : List (List D)} {l l' : List Ob} : LeOs (.arr sz r :: l) (.arr sz r' :: l') ↔ r = r' ∧ LeOs l l' :=
  ⟨fun h => by cases h with | cons h k => cases h; exact ⟨rfl, k⟩, fun h => .cons (h.1 ▸ .refl _) h.2⟩
theorem setO_ok {c : List Int} {k : Nat} (hb : Byt c) (hl : c.length ≤ 1000000) (hk : k / 8 < c.length) (v : Bool) :
    FnOk Try.prog 46 [vC (.sl 0 0 c.length), vI .i64 k, vB v] [oI .u8 c] (vC (.sl 1 0 c.length)) [oI .u8 c, oI .u8 (c.set (k / 8) (setY (c.getD (k / 8) 0) (k % 8) v))] := by
  have hbit := rBit_ok hb (by omega) hk
  have hy := at_byt hb (k / 8)
  have hp := power_ok (k := k % 8) (by omega)
  have hr := setY_rng hy (i := k % 8) (by omega) v
  have hg := rI_get (k := .u8) hk
  have hq : IntKind.i64.wrap ((k : Int).tdiv 8) = ((k / 8 : Nat) : Int) := by
    rw [Int.tdiv_eq_ediv_of_nonneg (by omega), IntWalk.i64_in _ (by omega)]
    rfl
  have hm : ((k : Int).tmod 8) = ((k % 8 : Nat) : Int) := by rw [Int.tmod_eq_emod_of_nonneg (by omega)]; rfl
  have hk' : ((k / 8 : Nat) : Int) < c.length := by omega
  have hs := set_same (c := c) (k := k / 8)
  have ht : (rI .u8 c).take c.length = rI .u8 c := by rw [rI_take]; simp
  unfold bitL at hbit
  unfold setY at hr ⊢
  generalize c.getD (k / 8) 0 = y at *
  have hmod : ∀ z : Int, (rI .u8 c).modify (k / 8) (fun r => putAt r 0 [.int .u8 z]) = rI .u8 (c.set (k / 8) z) := fun z => rI_mod
  cases hbv : decide (y / 2 ^ (k % 8) % 2 = 1) == v with
  | true =>
    have hbv := eq_of_beq hbv
    rw [if_pos hbv, hs]
    refine FnOk.tree t46 (.a (.b 12 false) (.a (.b 19 false) (.f [0] hbit (.a (.b 25 true) (.a (.call [0, 1] [] .u []) .nil))))) rfl rfl rfl rfl ?_
    rw [hq]
    simp [leVs, leP, leE, leC, ht, hbv]
    omega
  | false =>
    have hbv := ne_of_beq_false hbv
    rw [if_neg hbv] at hr ⊢
    cases v with
    | true =>
      simp only [if_true] at hr ⊢
      refine FnOk.tree t46 (.a (.b 12 false) (.a (.b 19 false) (.f [0] hbit (.a (.b 25 false) (.a (.at [.int .u8 y]) (.f [] hp (.a (.call [0, 1] [] .u []) .nil))))))) rfl rfl rfl rfl ?_
      rw [hq]
      simp only [List.drop_zero, ht, Nat.zero_add, Int.toNat_natCast]
      rw [wu8, Int.emod_eq_of_lt hr.1 (by omega), hmod, hm]
      simp at hbv
      simp [leVs, leP, leE, leC, ht, hbv, hg]
      omega
    | false =>
      simp only [Bool.false_eq_true, if_false] at hr ⊢
      refine FnOk.tree t46 (.a (.b 12 false) (.a (.b 19 false) (.f [0] hbit (.a (.b 25 false) (.a (.at [.int .u8 y]) (.f [] hp (.a (.call [0, 1] [] .u []) .nil))))))) rfl rfl rfl rfl ?_
      rw [hq]
      simp only [List.drop_zero, ht, Nat.zero_add, Int.toNat_natCast]
      rw [wu8, Int.emod_eq_of_lt hr.1 (by omega), hmod, hm]
      simp at hbv
      simp [leVs, leP, leE, leC, ht, hbv, hg]
      omega
theorem low_bit {y z : Nat} {r s : Nat} (h : s < r) (he : y % 2 ^ r = z % 2 ^ r) : y / 2 ^ s % 2 = z / 2 ^ s % 2 := by
  have e : 2 ^ r = 2 ^ s * (2 * 2 ^ (r - s - 1)) := by
    rw [← Nat.pow_succ', ← Nat.pow_add]; congr 1; omega
  rw [e] at he
  have h1 := congrArg (fun t => t / 2 ^ s % 2) he
  simp only [Nat.mod_mul_right_div_self, Nat.mod_mul_right_mod] at h1
  exact h1
theorem bitL_same {p : List Int} (hp : Byt p) {m : Nat} (hm : m < p.length) {y : Int} (hy : 0 ≤ y ∧ y ≤ 255) {r n : Nat} (hn : n = 8 * m + r ∨ r = 0 ∧ n = 8 * (m + 1)) (hr : r < 8) (h : y % 2 ^ r = p.getD m 0 % 2 ^ r) (h0 : r = 0 → y = p.getD m 0) {j : Nat} (hj : j < n) : bitL (p.set m y) j = bitL p j := by
  unfold bitL
  by_cases hq : j / 8 = m
  · rw [hq, getD_set_eq hm]
    by_cases hz : r = 0
    · rw [h0 hz]
    · have hb := at_byt hp m
      obtain ⟨a, ha⟩ := Int.eq_ofNat_of_zero_le hy.1
      obtain ⟨b, hb'⟩ := Int.eq_ofNat_of_zero_le hb.1
      rw [ha, hb'] at h ⊢
      have h' : a % 2 ^ r = b % 2 ^ r := by
        have e1 : ((a % 2 ^ r : Nat) : Int) = (a : Int) % 2 ^ r := by simp
        have e2 : ((b % 2 ^ r : Nat) : Int) = (b : Int) % 2 ^ r := by simp
        rw [← e1, ← e2] at h
        exact Int.ofNat.inj h
      have hs := low_bit (s := j % 8) (by omega) h'
      have f1 : ((a / 2 ^ (j % 8) % 2 : Nat) : Int) = (a : Int) / 2 ^ (j % 8) % 2 := by simp
      have f2 : ((b / 2 ^ (j % 8) % 2 : Nat) : Int) = (b : Int) / 2 ^ (j % 8) % 2 := by simp
      rw [← f1, ← f2, hs]
  · rw [getD_set_ne (fun e => hq e.symm)]
theorem unpack_free {l : List Bool} (h1 : 1 ≤ l.length) {y : Int} (hy : 0 ≤ y ∧ y ≤ 255) (h : y % 2 ^ (l.length % 8) = (packL l).getD ((packL l).length - 1) 0 % 2 ^ (l.length % 8)) (h0 : l.length % 8 = 0 → y = (packL l).getD ((packL l).length - 1) 0) :
    unpackL ((packL l).set ((packL l).length - 1) y) l.length = l := by
  have e : (packL l).length = (l.length + 7) / 8 := packN_length _ _
  have hp : Byt (packL l) := fun z hz => by
    simp only [packL, packN, List.mem_map] at hz
    obtain ⟨j, _, rfl⟩ := hz
    have := byteAt_lt l j
    omega
  conv => rhs; rw [← unpack_pack l]
  unfold unpackL
  refine List.map_congr_left fun j hj => ?_
  exact bitL_same hp (by omega) hy (n := l.length) (r := l.length % 8) (by omega) (by omega) h h0 (List.mem_range.1 hj)
/-- The request that writes coils. -/
abbrev coilsA (q : Int) (l : List Bool) : Ask := { fn := 15, at_ := q, n := l.length, bits := l }
theorem coilsA_ok {q : Int} (hq : 0 ≤ q ∧ q ≤ 65535) {l : List Bool} (h1 : 1 ≤ l.length) (h2 : l.length ≤ 100) : (coilsA q l).Fit ∧ (coilsA q l).right = true := by
  refine ⟨?_, ?_⟩
  · refine fitA ?_ ?_ ?_ ?_ ?_ ?_ ?_ ?_ ?_ ?_ ?_ ?_ ?_ <;> simp [b64, Wrd] <;> omega
  · simp [Ask.right, Ask.same, Ask.only, Ask.rest, known, placeB, countsB, kMost]
    omega
theorem free_parse {q : Int} (hq : 0 ≤ q ∧ q ≤ 65535) {l : List Bool} (h1 : 1 ≤ l.length) (h2 : l.length ≤ 100) {y : Int} (hy : 0 ≤ y ∧ y ≤ 255)
    (h : y % 2 ^ (l.length % 8) = (askB (coilsA q l)).getD ((askB (coilsA q l)).length - 1) 0 % 2 ^ (l.length % 8)) (h0 : l.length % 8 = 0 → y = (askB (coilsA q l)).getD ((askB (coilsA q l)).length - 1) 0) :
    pAsk ((askB (coilsA q l)).set ((askB (coilsA q l)).length - 1) y) = (coilsA q l, 0) := by
  obtain ⟨hf, hr⟩ := coilsA_ok hq h1 h2
  have e : (packL l).length = (l.length + 7) / 8 := packN_length _ _
  have hb : askB (coilsA q l) = [15, q / 256, q % 256, (l.length : Int) / 256, (l.length : Int) % 256, nBytes l.length] ++ packL l := by simp [askB, w2]
  have hlen : (askB (coilsA q l)).length = 6 + (packL l).length := by rw [hb]; simp; omega
  have hg : (askB (coilsA q l)).getD ((askB (coilsA q l)).length - 1) 0 = (packL l).getD ((packL l).length - 1) 0 := by
    rw [hlen, hb, List.getD_eq_getElem?_getD, List.getElem?_append_right (by simp; omega), List.getD_eq_getElem?_getD]
    congr 2
    simp; omega
  rw [hg] at h h0
  have hu := unpack_free h1 hy h h0
  have hs : (askB (coilsA q l)).set ((askB (coilsA q l)).length - 1) y = [15, q / 256, q % 256, (l.length : Int) / 256, (l.length : Int) % 256, nBytes l.length] ++ (packL l).set ((packL l).length - 1) y := by
    rw [hlen, hb, List.set_append_right _ _ (by simp; omega)]
    congr 2
    simp; omega
  rw [hs]
  have hfp := fit_pack (bs := l) rfl (by omega)
  have hnb : nBytes l.length = (packL l).length := (of_decide_eq_true hfp).2.symm
  have hfp' : fit ((packL l).set ((packL l).length - 1) y) l.length = true := decide_eq_true ⟨by omega, by rw [List.length_set, hnb]⟩
  generalize (packL l).set ((packL l).length - 1) y = P at *
  have hPl : P.length = (packL l).length := by
    have := (of_decide_eq_true hfp').2
    omega
  have ok1 : askOk 15 (([15, q / 256, q % 256, (l.length : Int) / 256, (l.length : Int) % 256, nBytes l.length] ++ P).drop 1) = true := by
    simp [askOk, coilsOk, wAt, w2_at, hfp', hnb, hPl]
  have ok2 : askOf 15 (([15, q / 256, q % 256, (l.length : Int) / 256, (l.length : Int) % 256, nBytes l.length] ++ P).drop 1) = coilsA q l := by
    simp [askOf, wAt, w2_at, hu]
  unfold pAsk
  have hlen' : ([15, q / 256, q % 256, (l.length : Int) / 256, (l.length : Int) % 256, nBytes l.length] ++ P).length = 6 + P.length := by simp; omega
  have g0 : ([15, q / 256, q % 256, (l.length : Int) / 256, (l.length : Int) % 256, nBytes l.length] ++ P).getD 0 0 = 15 := rfl
  rw [if_neg (by omega), g0, if_neg (by simp [known]), if_neg (by omega), if_neg (by omega), ok1, ok2, hr]
  rfl
end Go.Proofs.Ytheaeddojcebjaa
