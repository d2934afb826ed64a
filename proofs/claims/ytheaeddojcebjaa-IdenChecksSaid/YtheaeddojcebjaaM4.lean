/-
  The document's Pack; bits taken out of bytes; lists of words.
-/
import Derived.Test.YtheaeddojcebjaaM3
set_option maxRecDepth 100000
set_option linter.unusedVariables false
set_option linter.unusedSimpArgs false
namespace Go.Proofs.Ytheaeddojcebjaa
open Go.RowKit

theorem packN_same {l : List Bool} {i n : Nat} (hq : i / 8 < n) (hb : ¬ l.getD i false = true) : packN (l.take (i + 1)) n = packN (l.take i) n := by
  have h0 : bitW l i = 0 := if_neg hb
  have hg : ((byteAt (l.take i) (i / 8) : Nat) : Int) = (packN (l.take i) n)[i / 8]'(by rw [packN_length]; exact hq) := by
    have := packN_get (l := l.take i) hq
    rw [List.getElem?_eq_getElem (by rw [packN_length]; exact hq)] at this
    exact (Option.some.inj this).symm
  rw [packN_succ, h0, show ((byteAt (l.take i) (i / 8) + 0 : Nat) : Int) = ((byteAt (l.take i) (i / 8) : Nat) : Int) from rfl, hg, List.set_getElem_self]
theorem rPack_ok {l : List Bool} (hl : l.length ≤ 10000000000000) : FnOk Try.prog 99 [vFs l] [] (vBy (packL l)) [] := by
  have hnb := nBytes_nat l.length
  refine FnOk.start t99 rfl rfl rfl ?_
  refine Tri.seq (Tri.go [] rfl trivial ?_)
  refine Tri.seq (Tri.go [.lend [] (vI .i64 (nBytes l.length))] rfl ⟨trivial, rBytes_ok _ (by omega), by omega, trivial⟩ ?_)
  refine Tri.seq (Tri.seq (Tri.go [] rfl trivial ?_))
  refine Tri.block ?_
  rw [hnb, Int.toNat_natCast, rI_rep]
  refine Tri.lp (fun m ρ hl => ∃ i, m = l.length - i ∧ i ≤ l.length ∧ hl = [.arr 1 (rI .u8 (packN (l.take i) ((l.length + 7) / 8)))] ∧ keepE ρ [0, 3, 4] = some [(0, vFs l), (3, vC (.sl 0 0 ((l.length + 7) / 8))), (4, vI .i64 i)]) l.length ⟨0, by omega, by omega, by simp [packN_nil], keep_of rfl (by simp)⟩ ?_
  rintro m ρ hl' ⟨i, rfl, hi, rfl, hkk⟩
  refine Tri.keep _ hkk ?_
  by_cases h : i < l.length
  · have e8 : IntKind.i64.wrap ((i : Int).tdiv 8) = ((i / 8 : Nat) : Int) := by
      rw [Int.tdiv_eq_ediv_of_nonneg (by omega), IntWalk.i64_in _ (by omega)]
      omega
    have e9 : (i : Int).tmod 8 = ((i % 8 : Nat) : Int) := by
      rw [Int.tmod_eq_emod_of_nonneg (by omega)]
      omega
    have hq : i / 8 < (l.length + 7) / 8 := by omega
    have hs := packN_succ l i ((l.length + 7) / 8)
    by_cases hb : l.getD i false = true
    · have hlow := byte_low l i
      have h2 : 2 ^ (i % 8) ≤ 2 ^ 7 := Nat.pow_le_pow_right (by omega) (by omega)
      have ep : (2 : Int) ^ (i % 8) = ((2 ^ (i % 8) : Nat) : Int) := by simp
      have ew : IntKind.u8.wrap (((byteAt (l.take i) (i / 8) : Nat) : Int) + 2 ^ (i % 8)) = ((byteAt (l.take i) (i / 8) + 2 ^ (i % 8) : Nat) : Int) := by
        rw [ep, wu8]; omega
      refine Tri.go [.b 12 true, .at [.bool (l.getD i false)], .b 18 true, .at [.int .u8 ((byteAt (l.take i) (i / 8) : Nat) : Int)], .lend [] (vI .u8 (2 ^ (i % 8)))] rfl ?_ (again (l.length - (i + 1)) (by omega) ⟨i + 1, rfl, by omega, ?_, keep_of rfl (by simp)⟩)
      · simp only [true_and, and_true, e8, e9, Nat.zero_add, Int.toNat_natCast]
        refine ⟨by simp; omega, ⟨by omega, rF_get h⟩, hb, by omega, ⟨by omega, by omega⟩, ?_, by omega, power_ok (by omega), ⟨by omega, by omega⟩, ?_, by omega⟩
        · rw [rI, List.getElem?_map, packN_get hq]; rfl
        · simp [packN_length]; omega
      · rw [e8, Nat.zero_add, Int.toNat_natCast, ew, rI_mod, hs, show bitW l i = 2 ^ (i % 8) from if_pos hb]
    · refine Tri.go [.b 12 true, .at [.bool (l.getD i false)], .b 18 false] rfl ?_ (again (l.length - (i + 1)) (by omega) ⟨i + 1, rfl, by omega, ?_, keep_of rfl (by simp)⟩)
      · simp only [true_and, and_true]
        exact ⟨by simp; omega, ⟨by omega, rF_get h⟩, by simpa using hb, by omega⟩
      · rw [packN_same hq hb]
  · refine Tri.go [.b 12 false] rfl ⟨by simp; omega, trivial⟩ (outQ ?_)
    refine Tri.go [] rfl trivial (RetQ.of [] [1 - 1] rfl ?_ (.ls ?_ ?_) rfl)
    · simp [packN_length]
    · simp [packL, packN_length]
    · simp [packL, rI_take, packN_length, List.take_of_length_le, show l.length ≤ i by omega]
/-- May bytes be so many bits? -/
def fit (b : List Int) (n : Int) : Bool := decide (0 ≤ n ∧ (b.length : Int) = nBytes n)
theorem unpackL_succ (b : List Int) (n : Nat) : unpackL b (n + 1) = unpackL b n ++ [bitL b n] := by simp [unpackL, List.range_succ]
theorem unpackL_len (b : List Int) (n : Nat) : (unpackL b n).length = n := by simp [unpackL]
theorem fit_lt {b : List Int} {n : Int} (h : fit b n = true) {i : Nat} (hi : (i : Int) < n) : i / 8 < b.length := by
  have h2 := (of_decide_eq_true h).2
  unfold nBytes at h2
  split at h2 <;> omega
/-- A list that a loop fills. -/
def fillF (b : List Int) (i n : Nat) : List Bool := unpackL b i ++ List.replicate (n - i) false
theorem fillF_set {b : List Int} {i n : Nat} (h : i < n) : (fillF b i n).set i (bitL b i) = fillF b (i + 1) n := by
  unfold fillF
  rw [List.set_append_right _ _ (by rw [unpackL_len]; omega), unpackL_len, Nat.sub_self, unpackL_succ, List.append_assoc]
  congr 1
  obtain ⟨m, hm⟩ : ∃ m, n - i = m + 1 := ⟨n - i - 1, by omega⟩
  rw [hm, show n - (i + 1) = m by omega]
  rfl
theorem unpack_ok {b : List Int} {n : Int} (hb : Byt b) (hl : b.length ≤ 10000000000) (hn : b64 n) : FnOk Try.prog 148 [vBy b, vI .i64 n] [] (.tup [.c (.t (lF (if fit b n then unpackL b n.toNat else []))), .c (.t (.bool (fit b n)))]) [] := by
  by_cases h1 : n < 0
  · have e : fit b n = false := by simp [fit]; omega
    rw [e]
    exact FnOk.go t148 [.b 10 true] [] [] rfl rfl rfl rfl rfl rfl rfl (by simp [*]) trivial (.tup (.cons (.c (.t (.nil 1))) (.cons (.refl _) .nil)))
  · by_cases h2 : (b.length : Int) = nBytes n
    · have e : fit b n = true := by simp [fit]; omega
      rw [e]
      obtain ⟨k, rfl⟩ := Int.eq_ofNat_of_zero_le (show 0 ≤ n by omega)
      have hk : k ≤ 100000000000 := by
        unfold nBytes at h2
        split at h2 <;> omega
      refine FnOk.start t148 rfl rfl rfl ?_
      refine Tri.seq (Tri.go [] rfl trivial ?_)
      refine Tri.seq (Tri.go [.b 10 false, .lend [] (vI .i64 (nBytes k)), .b 16 false] rfl ⟨by simp, trivial, bytes_ok _ (by omega), by simp [h2], trivial⟩ ?_)
      refine Tri.seq (Tri.go [] rfl ⟨by omega, trivial⟩ ?_)
      refine Tri.seq (Tri.seq (Tri.go [] rfl trivial ?_))
      refine Tri.block ?_
      rw [Int.toNat_natCast, rF_rep]
      refine Tri.lp (fun m ρ hl => ∃ i, m = k - i ∧ i ≤ k ∧ hl = [.arr 1 (rF (fillF b i k))] ∧ keepE ρ [0, 6, 20, 21] = some [(0, vBy b), (6, vC (.sl 0 0 k)), (20, vI .i64 k), (21, vI .i64 i)]) k ⟨0, by omega, by omega, by simp [fillF, unpackL], keep_of rfl (by simp)⟩ ?_
      rintro m ρ hl' ⟨i, rfl, hi, rfl, hkk⟩
      refine Tri.keep _ hkk ?_
      by_cases h : i < k
      · refine Tri.go [.b 22 true, .lend [] (vB (bitL b i))] rfl ?_ (again (k - (i + 1)) (by omega) ⟨i + 1, rfl, by omega, ?_, keep_of rfl (by simp)⟩)
        · simp only [true_and, and_true, Nat.zero_add, Int.toNat_natCast]
          exact ⟨by simp; omega, bit_ok hb (by omega) (fit_lt e (by omega)), ⟨by omega, by omega⟩, by simp [fillF, unpackL_len]; omega, by omega⟩
        · rw [Nat.zero_add, Int.toNat_natCast, rF_mod, fillF_set h]
      · refine Tri.go [.b 22 false] rfl ⟨by simp; omega, trivial⟩ (outQ ?_)
        refine Tri.go [] rfl trivial (RetQ.of [] [0] rfl ?_ (.tup (.cons (.c (.t (.cut ?_ ?_))) (.cons (.refl _) .nil))) rfl)
        · simp [fillF, unpackL_len]; omega
        · simp [unpackL_len]
        · rw [show i = k by omega]; simp [fillF, rF_take, unpackL_len, List.take_of_length_le]
    · have e : fit b n = false := by simp [fit]; omega
      rw [e]
      exact FnOk.go t148 [.b 10 false, .lend [] (vI .i64 (nBytes n)), .b 16 true] [] [] rfl rfl rfl rfl rfl rfl rfl ⟨by simp; omega, trivial, bytes_ok _ hn, by simp [h2], trivial⟩ trivial (.tup (.cons (.c (.t (.nil 1))) (.cons (.refl _) .nil)))
theorem rUnpack_ok {b : List Int} {n : Int} (hb : Byt b) (hl : b.length ≤ 10000000000) (hn : b64 n) : FnOk Try.prog 132 [vBy b, vI .i64 n] [] (.tup [.c (.t (lF (if fit b n then unpackL b n.toNat else []))), .c (.t (.bool (fit b n)))]) [] := by
  by_cases h1 : n < 0
  · have e : fit b n = false := by simp [fit]; omega
    rw [e]
    exact FnOk.go t132 [.b 10 true] [] [] rfl rfl rfl rfl rfl rfl rfl (by simp [*]) trivial (.tup (.cons (.c (.t (.nil 1))) (.cons (.refl _) .nil)))
  · by_cases h2 : (b.length : Int) = nBytes n
    · have e : fit b n = true := by simp [fit]; omega
      rw [e]
      obtain ⟨k, rfl⟩ := Int.eq_ofNat_of_zero_le (show 0 ≤ n by omega)
      have hk : k ≤ 100000000000 := by
        unfold nBytes at h2
        split at h2 <;> omega
      refine FnOk.start t132 rfl rfl rfl ?_
      refine Tri.seq (Tri.go [] rfl trivial ?_)
      refine Tri.seq (Tri.go [.b 10 false, .lend [] (vI .i64 (nBytes k)), .b 16 false] rfl ⟨by simp, trivial, rBytes_ok _ (by omega), by simp [h2], trivial⟩ ?_)
      refine Tri.seq (Tri.go [] rfl trivial ?_)
      refine Tri.seq (Tri.seq (Tri.go [] rfl trivial ?_))
      refine Tri.block ?_
      refine Tri.own 6 1 (by omega) rfl ?_
      refine Tri.lp (fun m ρ hl => ∃ i, m = k - i ∧ i ≤ k ∧ hl = [.arr 1 (rF (unpackL b i))] ∧ keepE ρ [0, 1, 6, 7] = some [(0, vBy b), (1, vI .i64 k), (6, vC (.sl 0 0 i)), (7, vI .i64 i)]) k ⟨0, by omega, by omega, by simp [unpackL, rF], keep_of rfl (by simp)⟩ ?_
      rintro m ρ hl' ⟨i, rfl, hi, rfl, hkk⟩
      refine Tri.keep _ hkk ?_
      by_cases h : i < k
      · have hu := unpackL_len b i
        refine Tri.seq (Tri.go [.b 19 true] rfl ⟨by simp; omega, trivial⟩ ?_)
        refine Tri.seq (Tri.block (Tri.go [.lend [] (vB (bitL b i))] rfl ?_ ?_))
        · simp only [true_and, and_true]
          refine ⟨rBit_ok hb (by omega) (fit_lt e (by omega)), ⟨rfl, by simp⟩, ?_⟩
          simp [hu]
          omega
        · refine Tri.let [1] [] [0, 1, 6, 7] rfl trivial ?_
          refine Tri.go [] rfl ⟨by omega, trivial⟩ (again (k - (i + 1)) (by omega) ⟨i + 1, rfl, by omega, ?_, keep_of rfl (by simp)⟩)
          rw [unpackL_succ, ← rF_app]
          rfl
      · refine Tri.go [.b 19 false] rfl ⟨by simp; omega, trivial⟩ (outQ ?_)
        refine Tri.go [] rfl trivial (RetQ.of [] [0] rfl ?_ (.tup (.cons (.c (.t (.cut ?_ ?_))) (.cons (.refl _) .nil))) rfl)
        · simp [unpackL_len]
        · simp [unpackL_len]; omega
        · rw [show i = k by omega]; simp [rF_take, unpackL_len, List.take_of_length_le]
    · have e : fit b n = false := by simp [fit]; omega
      rw [e]
      exact FnOk.go t132 [.b 10 false, .lend [] (vI .i64 (nBytes n)), .b 16 true] [] [] rfl rfl rfl rfl rfl rfl rfl ⟨by simp; omega, trivial, rBytes_ok _ hn, by simp [h2], trivial⟩ trivial (.tup (.cons (.c (.t (.nil 1))) (.cons (.refl _) .nil)))
end Go.Proofs.Ytheaeddojcebjaa
