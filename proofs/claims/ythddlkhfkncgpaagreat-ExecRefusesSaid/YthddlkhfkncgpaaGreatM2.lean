/-
  Words in bytes: put and got.
-/
import Derived.Test.YthddlkhfkncgpaaGreatM1
set_option maxRecDepth 100000
set_option linter.unusedVariables false
set_option linter.unusedSimpArgs false
namespace Go.Proofs.YthddlkhfkncgpaaGreat
open Go.RowKit

theorem or16 {x y : Int} (hx : 0 ≤ x ∧ x ≤ 255) (hy : 0 ≤ y ∧ y ≤ 255) : IntKind.u16.wrap (BitVec.ofInt 16 (x * 256 % 65536) ||| BitVec.ofInt 16 y).toNat = x * 256 + y := by
  obtain ⟨a, rfl⟩ := Int.eq_ofNat_of_zero_le hx.1
  obtain ⟨b, rfl⟩ := Int.eq_ofNat_of_zero_le hy.1
  have e1 : (BitVec.ofInt 16 ((a : Int) * 256 % 65536)).toNat = a * 256 := by
    simp only [BitVec.toNat_ofInt]; omega
  have e2 : (BitVec.ofInt 16 (b : Int)).toNat = b := by
    simp only [BitVec.toNat_ofInt]; omega
  rw [BitVec.toNat_or, e1, e2]
  have := Nat.two_pow_add_eq_or_of_lt (i := 8) (b := b) (by omega) a
  rw [show a * 256 = 2 ^ 8 * a by omega, ← this, wu16]
  omega
theorem or16' {x y : Int} (hx : 0 ≤ x ∧ x ≤ 255) (hy : 0 ≤ y ∧ y ≤ 255) : IntKind.u16.wrap (BitVec.ofInt IntKind.u16.bits (IntKind.u16.wrap (IntKind.u16.wrap x * 2 ^ min (Int.toNat 8) IntKind.u16.bits)) ||| BitVec.ofInt IntKind.u16.bits (IntKind.u16.wrap y)).toNat = x * 256 + y := by
  have h := or16 hx hy
  simp only [wu16] at h ⊢
  rw [Int.emod_eq_of_lt hx.1 (by omega), Int.emod_eq_of_lt hy.1 (by omega : y < 65536)]
  exact h
abbrev Byt (l : List Int) : Prop := ∀ x ∈ l, 0 ≤ x ∧ x ≤ 255
abbrev Wrd (l : List Int) : Prop := ∀ x ∈ l, 0 ≤ x ∧ x ≤ 65535
theorem at_byt {l : List Int} (h : Byt l) (i : Nat) : 0 ≤ l.getD i 0 ∧ l.getD i 0 ≤ 255 := by
  by_cases hi : i < l.length
  · simp only [List.getD_eq_getElem?_getD, List.getElem?_eq_getElem hi, Option.getD_some]
    exact h _ (List.getElem_mem hi)
  · simp [List.getD_eq_getElem?_getD, List.getElem?_eq_none (show l.length ≤ i by omega)]
def w2 (n : Int) : List Int := [n / 256, n % 256]
theorem put_ok {l : List Int} {n : Int} (hl : l.length ≤ 100000000000000) (hn : 0 ≤ n ∧ n ≤ 65535) : FnOk Tryz.prog 208 [vBy l, vI .u16 n] [] (vBy (l ++ w2 n)) [] := by
  refine FnOk.go t208 [] [] [2] rfl rfl rfl rfl rfl rfl rfl ?_ ?_ (.ls ?_ ?_)
  · simp <;> omega
  · simp
  · simp [w2]
  · rw [List.take_of_length_le (by simp)]
    simp only [rI_take, List.take_length]
    simp [rI, wu8, IntKind.bits, fdiv256, w2]
    omega
theorem rPut_ok {l : List Int} {n : Int} (hl : l.length ≤ 100000000000000) (hn : 0 ≤ n ∧ n ≤ 65535) : FnOk Tryz.prog 155 [vBy l, vI .u16 n] [] (vBy (l ++ w2 n)) [] := by
  refine FnOk.go t155 [] [] [1] rfl rfl rfl rfl rfl rfl rfl ?_ ?_ (.ls ?_ ?_)
  · simp <;> omega
  · simp
  · simp [w2]
  · rw [List.take_of_length_le (by simp)]
    simp only [rI_take, List.take_length]
    simp [rI, wu8, wu16, IntKind.bits, Int.tdiv_eq_ediv_of_nonneg hn.1, Int.tmod_eq_emod_of_nonneg hn.1, w2]
    omega
theorem two_ok {l : List Int} {n : Int} (hl : l.length ≤ 100000000000000) (hn : 0 ≤ n ∧ n ≤ 65535) : FnOk Tryz.prog 99 [vBy l, vI .i64 n] [] (vBy (l ++ w2 n)) [] := by
  refine FnOk.go t99 [.call [] [] (vBy (l ++ w2 n)) []] [] [] rfl rfl rfl rfl rfl rfl rfl ⟨trivial, trivial, ?_, trivial⟩ trivial (.refl _)
  rw [wu16, Int.emod_eq_of_lt hn.1 (by omega)]
  exact rPut_ok hl hn
/-- The word at a place. -/
def wAt (l : List Int) (k : Nat) : Int := l.getD k 0 * 256 + l.getD (k + 1) 0
def has2 (l : List Int) (k : Int) : Bool := decide (0 ≤ k ∧ k + 2 ≤ l.length)
theorem get_ok {l : List Int} {k : Int} (hb : Byt l) (hl : l.length ≤ 100000000000000) (hk : b64 k) : FnOk Tryz.prog 253 [vBy l, vI .i64 k] [] (.tup [.c (.t (.int .u16 (if has2 l k then wAt l k.toNat else 0))), .c (.t (.bool (has2 l k)))]) [] := by
  by_cases h1 : k < 0
  · exact FnOk.go t253 [.b 8 true] [] [] rfl rfl rfl rfl rfl rfl rfl (by simp [*]) trivial (.of (by simp [has2]; omega))
  · by_cases h2 : (l.length : Int) - k < 2
    · exact FnOk.go t253 [.b 8 false, .b 14 true] [] [] rfl rfl rfl rfl rfl rfl rfl (by simp [*] <;> omega) trivial (.of (by simp [has2]; omega))
    · have e : has2 l k = true := by simp [has2]; omega
      rw [e]
      refine FnOk.go t253 [.b 8 false, .b 14 false, .at [.int .u8 (l.getD k.toNat 0)], .at [.int .u8 (l.getD (k.toNat + 1) 0)]] [] [] rfl rfl rfl rfl rfl rfl rfl ?_ trivial (.of ?_)
      · have e1 := rI_get (k := .u8) (l := l) (i := k.toNat) (by omega)
        have e2 := rI_get (k := .u8) (l := l) (i := k.toNat + 1) (by omega)
        have e3 : (k + 1).toNat = k.toNat + 1 := by omega
        simp [e1, e2, e3]
        omega
      · have := at_byt hb k.toNat
        have h3 := at_byt hb (k.toNat + 1)
        rw [or16' this h3, if_pos rfl]
        rfl
def ws2 (ws : List Int) : List Int := ws.flatMap w2
theorem ws2_len (ws : List Int) : (ws2 ws).length = 2 * ws.length := by
  induction ws with
  | nil => rfl
  | cons x l ih => simp [ws2, w2] at ih ⊢; omega
theorem ws2_take {ws : List Int} {i : Nat} (h : i < ws.length) : ws2 (ws.take (i + 1)) = ws2 (ws.take i) ++ w2 (ws.getD i 0) := by
  rw [List.take_add_one, List.getElem?_eq_getElem h, List.getD_eq_getElem?_getD, List.getElem?_eq_getElem h]
  show (ws.take i ++ [ws[i]]).flatMap w2 = _
  rw [List.flatMap_append]
  simp [ws2]
theorem at_wrd {l : List Int} (h : Wrd l) (i : Nat) : 0 ≤ l.getD i 0 ∧ l.getD i 0 ≤ 65535 := by
  by_cases hi : i < l.length
  · simp only [List.getD_eq_getElem?_getD, List.getElem?_eq_getElem hi, Option.getD_some]
    exact h _ (List.getElem_mem hi)
  · simp [List.getD_eq_getElem?_getD, List.getElem?_eq_none (show l.length ≤ i by omega)]
theorem words_ok {l ws : List Int} (hl : l.length ≤ 10000000000000) (hw : Wrd ws) (hn : ws.length ≤ 10000000000000) : FnOk Tryz.prog 102 [vBy l, vWd ws] [] (vBy (l ++ ws2 ws)) [] := by
  refine FnOk.start t102 rfl rfl rfl ?_
  refine Tri.seq (Tri.go [] rfl trivial ?_)
  refine Tri.seq (Tri.seq (Tri.go [] rfl trivial ?_))
  refine Tri.block ?_
  refine Tri.lp (fun m ρ hl => ∃ i, m = ws.length - i ∧ i ≤ ws.length ∧ hl = [] ∧ keepE ρ [0, 1, 5] = some [(0, vBy (l ++ ws2 (ws.take i))), (1, vWd ws), (5, vI .i64 i)]) ws.length ⟨0, by omega, by omega, rfl, keep_of rfl (by simp [ws2])⟩ ?_
  rintro m ρ hl' ⟨i, rfl, hi, rfl, hk⟩
  refine Tri.keep _ hk ?_
  by_cases h : i < ws.length
  · have hx := at_wrd hw i
    refine Tri.go [.b 9 true, .at [.int .u16 (ws.getD i 0)], .call [] [] (vBy (l ++ ws2 (ws.take (i + 1)))) []] rfl ?_ (again (ws.length - (i + 1)) (by omega) ⟨i + 1, rfl, by omega, rfl, keep_of rfl (by simp)⟩)
    simp only [true_and, and_true]
    refine ⟨by simp; omega, ⟨by omega, rI_get h⟩, by omega, ?_, by omega⟩
    rw [ws2_take h, ← List.append_assoc]
    exact two_ok (by simp [ws2_len]; omega) hx
  · refine Tri.go [.b 9 false] rfl ⟨by simp; omega, trivial⟩ (outQ ?_)
    refine Tri.go [] rfl trivial (RetQ.of [] [] rfl trivial (.of ?_) rfl)
    rw [List.take_of_length_le (by omega)]
end Go.Proofs.YthddlkhfkncgpaaGreat
