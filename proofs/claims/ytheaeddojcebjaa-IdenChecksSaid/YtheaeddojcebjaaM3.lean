/-
  Words put one behind the other; bits in bytes: put in, and taken out.
-/
import Derived.Test.YtheaeddojcebjaaP1
set_option maxRecDepth 100000
set_option linter.unusedVariables false
set_option linter.unusedSimpArgs false
namespace Go.Proofs.Ytheaeddojcebjaa
open Go.RowKit

theorem bytes_ok (n : Int) (hn : b64 n) : FnOk Try.prog 88 [vI .i64 n] [] (vI .i64 (nBytes n)) [] := by
  by_cases h : n < 1
  · exact FnOk.go t88 [.b 4 true] [] [] rfl rfl rfl rfl rfl rfl rfl (by simp [*]) trivial (.of (by simp [nBytes, *]))
  · refine FnOk.go t88 [.b 4 false] [] [] rfl rfl rfl rfl rfl rfl rfl ?_ trivial (.of ?_)
    · simp [IntKind.bits, fdiv8]; omega
    · simp [nBytes, *, IntKind.bits, fdiv8]
theorem rBytes_ok (n : Int) (hn : b64 n) : FnOk Try.prog 120 [vI .i64 n] [] (vI .i64 (nBytes n)) [] := by
  by_cases h : n < 1
  · exact FnOk.go t120 [.b 4 true] [] [] rfl rfl rfl rfl rfl rfl rfl (by simp [*]) trivial (.of (by simp [nBytes, *]))
  · have e : (n - 1).tdiv 8 = (n - 1) / 8 := Int.tdiv_eq_ediv_of_nonneg (by omega)
    have e2 : IntKind.i64.wrap ((n - 1) / 8) = (n - 1) / 8 := IntWalk.i64_in _ (by omega)
    refine FnOk.go t120 [.b 4 false] [] [] rfl rfl rfl rfl rfl rfl rfl ?_ trivial (.of ?_)
    · simp [e, e2]; omega
    · simp [nBytes, *]
theorem askPut_ok {l ws : List Int} (hl : l.length ≤ 10000000000000) (hw : Wrd ws) (hn : ws.length ≤ 10000000000000) : FnOk Try.prog 87 [vBy l, vWd ws] [] (vBy (l ++ ws2 ws)) [] := by
  refine FnOk.start t87 rfl rfl rfl ?_
  refine Tri.seq (Tri.go [] rfl trivial ?_)
  refine Tri.seq (Tri.seq (Tri.go [] rfl trivial ?_))
  refine Tri.block ?_
  refine Tri.lp (fun m ρ hl => ∃ i, m = ws.length - i ∧ i ≤ ws.length ∧ hl = [] ∧ keepE ρ [0, 7, 8, 9] = some [(0, vBy (l ++ ws2 (ws.take i))), (7, vWd ws), (8, vI .i64 ws.length), (9, vI .i64 i)]) ws.length ⟨0, by omega, by omega, rfl, keep_of rfl (by simp [ws2])⟩ ?_
  rintro m ρ hl' ⟨i, rfl, hi, rfl, hk⟩
  refine Tri.keep _ hk ?_
  by_cases h : i < ws.length
  · have hx := at_wrd hw i
    refine Tri.go [.b 10 true, .at [.int .u16 (ws.getD i 0)], .call [] [] (vBy (l ++ ws2 (ws.take (i + 1)))) []] rfl ?_ (again (ws.length - (i + 1)) (by omega) ⟨i + 1, rfl, by omega, rfl, keep_of rfl (by simp)⟩)
    simp only [true_and, and_true]
    refine ⟨by simp; omega, ⟨by omega, rI_get h⟩, ?_, by omega⟩
    rw [ws2_take h, ← List.append_assoc]
    exact put_ok (by simp [ws2_len]; omega) hx
  · refine Tri.go [.b 10 false] rfl ⟨by simp; omega, trivial⟩ (outQ ?_)
    refine Tri.go [] rfl trivial (RetQ.of [] [] rfl trivial (.of ?_) rfl)
    rw [List.take_of_length_le (by omega)]
theorem tellPut_ok {l ws : List Int} (hl : l.length ≤ 10000000000000) (hw : Wrd ws) (hn : ws.length ≤ 10000000000000) : FnOk Try.prog 85 [vBy l, vWd ws] [] (vBy (l ++ ws2 ws)) [] := by
  refine FnOk.start t85 rfl rfl rfl ?_
  refine Tri.seq (Tri.go [] rfl trivial ?_)
  refine Tri.seq (Tri.seq (Tri.go [] rfl trivial ?_))
  refine Tri.block ?_
  refine Tri.lp (fun m ρ hl => ∃ i, m = ws.length - i ∧ i ≤ ws.length ∧ hl = [] ∧ keepE ρ [0, 7, 8, 9] = some [(0, vBy (l ++ ws2 (ws.take i))), (7, vWd ws), (8, vI .i64 ws.length), (9, vI .i64 i)]) ws.length ⟨0, by omega, by omega, rfl, keep_of rfl (by simp [ws2])⟩ ?_
  rintro m ρ hl' ⟨i, rfl, hi, rfl, hk⟩
  refine Tri.keep _ hk ?_
  by_cases h : i < ws.length
  · have hx := at_wrd hw i
    refine Tri.go [.b 10 true, .at [.int .u16 (ws.getD i 0)], .call [] [] (vBy (l ++ ws2 (ws.take (i + 1)))) []] rfl ?_ (again (ws.length - (i + 1)) (by omega) ⟨i + 1, rfl, by omega, rfl, keep_of rfl (by simp)⟩)
    simp only [true_and, and_true]
    refine ⟨by simp; omega, ⟨by omega, rI_get h⟩, ?_, by omega⟩
    rw [ws2_take h, ← List.append_assoc]
    exact put_ok (by simp [ws2_len]; omega) hx
  · refine Tri.go [.b 10 false] rfl ⟨by simp; omega, trivial⟩ (outQ ?_)
    refine Tri.go [] rfl trivial (RetQ.of [] [] rfl trivial (.of ?_) rfl)
    rw [List.take_of_length_le (by omega)]
/-- Two to the k-th. -/
theorem power_ok {k : Nat} (hk : k < 8) : FnOk Try.prog 95 [vI .i64 k] [] (vI .u8 (2 ^ k)) [] := by
  have hk' : k = 0 ∨ k = 1 ∨ k = 2 ∨ k = 3 ∨ k = 4 ∨ k = 5 ∨ k = 6 ∨ k = 7 := by omega
  refine FnOk.start t95 rfl rfl rfl ?_
  refine Tri.seq (Tri.go [] rfl trivial ?_)
  refine Tri.seq (Tri.go [] rfl trivial ?_)
  refine Tri.seq (Tri.seq (Tri.go [] rfl trivial ?_))
  refine Tri.block ?_
  refine Tri.lp (fun m ρ hl => ∃ i, m = k - i ∧ i ≤ k ∧ hl = [] ∧ keepE ρ [0, 3, 4] = some [(0, vI .i64 k), (3, vI .u8 (2 ^ i)), (4, vI .i64 i)]) k ⟨0, by omega, by omega, rfl, keep_of rfl (by simp)⟩ ?_
  rintro m ρ hl' ⟨i, rfl, hi, rfl, hkk⟩
  refine Tri.keep _ hkk ?_
  by_cases h : i < k
  · have e : (2 : Int) ^ i * 2 = 2 ^ (i + 1) := by rw [Int.pow_succ]
    have e2 : (2 : Int) ^ (i + 1) ≤ 128 := by
      have : (2 : Int) ^ (i + 1) = ((2 ^ (i + 1) : Nat) : Int) := by simp
      rw [this]
      have : 2 ^ (i + 1) ≤ 2 ^ 7 := Nat.pow_le_pow_right (by omega) (by omega)
      omega
    have e3 : (0 : Int) ≤ 2 ^ (i + 1) := by
      have : (2 : Int) ^ (i + 1) = ((2 ^ (i + 1) : Nat) : Int) := by simp
      rw [this]; exact Int.natCast_nonneg _
    refine Tri.go [.b 7 true] rfl ?_ (again (k - (i + 1)) (by omega) ⟨i + 1, rfl, by omega, rfl, keep_of rfl (by rw [wu8, e, Int.emod_eq_of_lt e3 (by omega)]; simp)⟩)
    simp only [true_and, and_true]
    exact ⟨by simp; omega, by omega⟩
  · refine Tri.go [.b 7 false] rfl ⟨by simp; omega, trivial⟩ (outQ ?_)
    refine Tri.go [] rfl trivial (RetQ.of [] [] rfl trivial (.of ?_) rfl)
    rw [show i = k by omega]
theorem and7 {k : Nat} (hk : k < 4611686018427387904) : IntKind.i64.wrap (BitVec.ofInt IntKind.i64.bits (k : Int) &&& BitVec.ofInt IntKind.i64.bits 7).toNat = ((k % 8 : Nat) : Int) := by
  have e1 : (BitVec.ofInt 64 (k : Int)).toNat = k := by simp only [BitVec.toNat_ofInt]; omega
  have e2 : (BitVec.ofInt 64 (7 : Int)).toNat = 7 := rfl
  show IntKind.i64.wrap (BitVec.ofInt 64 (k : Int) &&& BitVec.ofInt 64 7).toNat = _
  rw [BitVec.toNat_and, e1, e2, Nat.and_two_pow_sub_one_eq_mod k 3, IntWalk.i64_in _ (by omega)]
theorem and1 {x : Int} (hx : 0 ≤ x ∧ x ≤ 255) : IntKind.u8.wrap (BitVec.ofInt IntKind.u8.bits x &&& BitVec.ofInt IntKind.u8.bits 1).toNat = x % 2 := by
  obtain ⟨k, rfl⟩ := Int.eq_ofNat_of_zero_le hx.1
  have e1 : (BitVec.ofInt 8 (k : Int)).toNat = k := by simp only [BitVec.toNat_ofInt]; omega
  have e2 : (BitVec.ofInt 8 (1 : Int)).toNat = 1 := rfl
  show IntKind.u8.wrap (BitVec.ofInt 8 (k : Int) &&& BitVec.ofInt 8 1).toNat = _
  rw [BitVec.toNat_and, e1, e2, Nat.and_two_pow_sub_one_eq_mod k 1, wu8]
  omega
/-- A bit of bytes, false where there is none. -/
theorem bit_div {x : Int} (hx : 0 ≤ x ∧ x ≤ 255) (r : Nat) : 0 ≤ x / 2 ^ r ∧ x / 2 ^ r ≤ 255 := by
  have h2 : (2 : Int) ^ r = ((2 ^ r : Nat) : Int) := by simp
  have hp : 0 < 2 ^ r := Nat.pow_pos (by omega)
  rw [h2]
  refine ⟨Int.ediv_nonneg hx.1 (by omega), ?_⟩
  exact Int.le_trans (Int.ediv_le_self _ hx.1) hx.2
theorem bit_ok {b : List Int} {k : Nat} (hb : Byt b) (hl : b.length ≤ 10000000000000) (hk : k / 8 < b.length) : FnOk Try.prog 154 [vBy b, vI .i64 k] [] (vB (bitL b k)) [] := by
  have e8 : ((k : Int).fdiv (2 ^ min (Int.toNat 3) IntKind.i64.bits)) = ((k / 8 : Nat) : Int) := by
    rw [Int.fdiv_eq_ediv_of_nonneg _ (by decide)]
    show (k : Int) / 8 = _
    omega
  have hx := at_byt hb (k / 8)
  have hd := bit_div hx (k % 8)
  refine FnOk.go t154 [.b 7 true, .b 14 true, .at [.int .u8 (b.getD (k / 8) 0)]] [] [] rfl rfl rfl rfl rfl rfl rfl ?_ trivial (.vB ?_)
  · simp only [true_and, and_true, e8]
    exact ⟨by simp, by omega, by simp; omega, by omega, ⟨by omega, rI_get hk⟩, by rw [and7 (by omega), wu64]; omega⟩
  · rw [and7 (by omega), wu64, show (((k % 8 : Nat) : Int) % 18446744073709551616).toNat = k % 8 by omega, Nat.min_eq_left (by simp [IntKind.bits]; omega), Int.fdiv_eq_ediv_of_nonneg _ (by rw [show (2 : Int) ^ (k % 8) = ((2 ^ (k % 8) : Nat) : Int) by simp]; exact Int.natCast_nonneg _), and1 hd]
    simp [bitL]
theorem rBit_ok {b : List Int} {k : Nat} (hb : Byt b) (hl : b.length ≤ 10000000000000) (hk : k / 8 < b.length) : FnOk Try.prog 94 [vBy b, vI .i64 k] [] (vB (bitL b k)) [] := by
  have e8 : IntKind.i64.wrap ((k : Int).tdiv 8) = ((k / 8 : Nat) : Int) := by
    rw [Int.tdiv_eq_ediv_of_nonneg (by omega), IntWalk.i64_in _ (by omega)]
    omega
  have e9 : IntKind.i64.wrap ((k : Int).tmod 8) = ((k % 8 : Nat) : Int) := by
    rw [Int.tmod_eq_emod_of_nonneg (by omega), IntWalk.i64_in _ (by omega)]
    omega
  have hx := at_byt hb (k / 8)
  have hd := bit_div hx (k % 8)
  refine FnOk.go t94 [.b 7 false, .b 13 false, .at [.int .u8 (b.getD (k / 8) 0)], .lend [] (vI .u8 (2 ^ (k % 8)))] [] [] rfl rfl rfl rfl rfl rfl rfl ?_ trivial (.vB ?_)
  · simp only [true_and, and_true, e8]
    have h2 : (2 : Int) ^ (k % 8) = ((2 ^ (k % 8) : Nat) : Int) := by simp
    have hp : 0 < 2 ^ (k % 8) := Nat.pow_pos (by omega)
    rw [Int.tmod_eq_emod_of_nonneg (by omega), show (k : Int) % 8 = ((k % 8 : Nat) : Int) by omega]
    exact ⟨by simp, by omega, by simp; omega, by omega, ⟨by omega, rI_get hk⟩, by omega, power_ok (by omega), by rw [h2]; omega, by omega⟩
  · have h2 : (0 : Int) ≤ 2 ^ (k % 8) := by rw [show (2 : Int) ^ (k % 8) = ((2 ^ (k % 8) : Nat) : Int) by simp]; exact Int.natCast_nonneg _
    rw [Int.tdiv_eq_ediv_of_nonneg hx.1, wu8, Int.emod_eq_of_lt hd.1 (by omega), Int.tmod_eq_emod_of_nonneg hd.1]
    simp [bitL]
theorem pack_or {y k : Nat} (hy : y < 2 ^ (k % 8)) (hk : k < 4611686018427387904) :
    IntKind.u8.wrap (BitVec.ofInt IntKind.u8.bits (y : Int) ||| BitVec.ofInt IntKind.u8.bits (IntKind.u8.wrap (1 * 2 ^ min (IntKind.u64.wrap (IntKind.i64.wrap (BitVec.ofInt IntKind.i64.bits (k : Int) &&& BitVec.ofInt IntKind.i64.bits 7).toNat)).toNat IntKind.u8.bits))).toNat = ((y + 2 ^ (k % 8) : Nat) : Int) := by
  have h2 : 2 ^ (k % 8) ≤ 2 ^ 7 := Nat.pow_le_pow_right (by omega) (by omega)
  rw [and7 hk, wu64, show (((k % 8 : Nat) : Int) % 18446744073709551616).toNat = k % 8 by omega, Nat.min_eq_left (by simp [IntKind.bits]; omega), Int.one_mul,
    show (2 : Int) ^ (k % 8) = ((2 ^ (k % 8) : Nat) : Int) by simp, wu8]
  generalize hz : 2 ^ (k % 8) = z at *
  have e0 : ((z : Int) % 256) = z := by omega
  have e1 : (BitVec.ofInt 8 (y : Int)).toNat = y := by simp only [BitVec.toNat_ofInt]; omega
  have e2 : (BitVec.ofInt 8 (z : Int)).toNat = z := by simp only [BitVec.toNat_ofInt]; omega
  show IntKind.u8.wrap (BitVec.ofInt 8 (y : Int) ||| BitVec.ofInt 8 ((z : Int) % 256)).toNat = _
  have h3 := Nat.two_pow_add_eq_or_of_lt (i := k % 8) (b := y) (by omega) 1
  rw [Nat.mul_one, hz] at h3
  rw [e0, BitVec.toNat_or, e1, e2, Nat.or_comm, ← h3, wu8]
  omega
/-- All bits put in, up to the i-th. -/
theorem pack_ok {l : List Bool} (hl : l.length ≤ 10000000000000) : FnOk Try.prog 84 [vFs l] [] (vBy (packL l)) [] := by
  have hnb := nBytes_nat l.length
  refine FnOk.start t84 rfl rfl rfl ?_
  refine Tri.seq (Tri.go [] rfl trivial ?_)
  refine Tri.seq (Tri.go [.lend [] (vI .i64 (nBytes l.length))] rfl ⟨trivial, bytes_ok _ (by omega), by omega, trivial⟩ ?_)
  refine Tri.seq (Tri.seq (Tri.go [] rfl trivial ?_))
  refine Tri.block ?_
  rw [hnb, Int.toNat_natCast, rI_rep]
  refine Tri.lp (fun m ρ hl => ∃ i, m = l.length - i ∧ i ≤ l.length ∧ hl = [.arr 1 (rI .u8 (packN (l.take i) ((l.length + 7) / 8)))] ∧ keepE ρ [3, 10, 11, 12] = some [(3, vC (.sl 0 0 ((l.length + 7) / 8))), (10, vFs l), (11, vI .i64 l.length), (12, vI .i64 i)]) l.length ⟨0, by omega, by omega, by simp [packN_nil], keep_of rfl (by simp)⟩ ?_
  rintro m ρ hl' ⟨i, rfl, hi, rfl, hkk⟩
  refine Tri.keep _ hkk ?_
  by_cases h : i < l.length
  · have e8 : ((i : Int).fdiv (2 ^ min (Int.toNat 3) IntKind.i64.bits)) = ((i / 8 : Nat) : Int) := by
      rw [Int.fdiv_eq_ediv_of_nonneg _ (by decide)]
      show (i : Int) / 8 = _
      omega
    have hq : i / 8 < (l.length + 7) / 8 := by omega
    have hs := packN_succ l i ((l.length + 7) / 8)
    by_cases hb : l.getD i false = true
    · refine Tri.go [.b 13 true, .at [.bool (l.getD i false)], .b 17 true, .at [.int .u8 ((byteAt (l.take i) (i / 8) : Nat) : Int)]] rfl ?_ (again (l.length - (i + 1)) (by omega) ⟨i + 1, rfl, by omega, ?_, keep_of rfl (by simp)⟩)
      · simp only [true_and, and_true, e8, Nat.zero_add, Int.toNat_natCast]
        refine ⟨by simp; omega, ⟨by omega, rF_get h⟩, hb, by omega, ⟨by omega, by omega⟩, ?_, ?_, ⟨by omega, by omega⟩, ?_, by omega⟩
        · rw [rI, List.getElem?_map, packN_get hq]; rfl
        · rw [and7 (by omega), wu64]; omega
        · simp [packN_length]; omega
      · rw [e8, Nat.zero_add, Int.toNat_natCast, pack_or (byte_low l i) (by omega), rI_mod, hs, show bitW l i = 2 ^ (i % 8) from if_pos hb]
    · have hb' : l.getD i false = false := by simpa using hb
      refine Tri.go [.b 13 true, .at [.bool (l.getD i false)], .b 17 false] rfl ?_ (again (l.length - (i + 1)) (by omega) ⟨i + 1, rfl, by omega, ?_, keep_of rfl (by simp)⟩)
      · simp only [true_and, and_true]
        exact ⟨by simp; omega, ⟨by omega, rF_get h⟩, hb', by omega⟩
      · have h0 : bitW l i = 0 := if_neg hb
        have hg : ((byteAt (l.take i) (i / 8) : Nat) : Int) = (packN (l.take i) ((l.length + 7) / 8))[i / 8]'(by rw [packN_length]; exact hq) := by
          have := packN_get (l := l.take i) hq
          rw [List.getElem?_eq_getElem (by rw [packN_length]; exact hq)] at this
          exact (Option.some.inj this).symm
        rw [hs, h0, show ((byteAt (l.take i) (i / 8) + 0 : Nat) : Int) = ((byteAt (l.take i) (i / 8) : Nat) : Int) from rfl, hg, List.set_getElem_self]
  · refine Tri.go [.b 13 false] rfl ⟨by simp; omega, trivial⟩ (outQ ?_)
    refine Tri.go [] rfl trivial (RetQ.of [] [0] rfl ?_ (.ls ?_ ?_) rfl)
    · simp [packN_length]
    · simp [packL, packN_length]
    · simp [packL, rI_take, packN_length, List.take_of_length_le, show l.length ≤ i by omega]
end Go.Proofs.Ytheaeddojcebjaa
