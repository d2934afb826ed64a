/-
  Bits in bytes, as lists of numbers alone.
-/
import Derived.Test.YtheaeddojcebjaaM2
set_option linter.unusedVariables false
set_option linter.unusedSimpArgs false
namespace Go.Proofs.Ytheaeddojcebjaa
open Go.RowKit

/-- How many bytes so many bits take. -/
def nBytes (n : Int) : Int := if n < 1 then 0 else (n - 1) / 8 + 1
def bv (l : List Bool) (i : Nat) : Nat := if l.getD i false then 1 else 0
theorem bv_le (l : List Bool) (i : Nat) : bv l i ≤ 1 := by unfold bv; split <;> omega
def byteAt (l : List Bool) (j : Nat) : Nat :=
  bv l (8 * j) + 2 * bv l (8 * j + 1) + 4 * bv l (8 * j + 2) + 8 * bv l (8 * j + 3) + 16 * bv l (8 * j + 4) + 32 * bv l (8 * j + 5) + 64 * bv l (8 * j + 6) + 128 * bv l (8 * j + 7)
def packN (l : List Bool) (n : Nat) : List Int := (List.range n).map fun j => (byteAt l j : Int)
def packL (l : List Bool) : List Int := packN l ((l.length + 7) / 8)
theorem nBytes_nat (n : Nat) : nBytes n = (((n + 7) / 8 : Nat) : Int) := by unfold nBytes; split <;> omega
theorem packN_length (l : List Bool) (n : Nat) : (packN l n).length = n := by simp [packN]
theorem byteAt_lt (l : List Bool) (j : Nat) : byteAt l j < 256 := by
  have h := bv_le l
  have h0 := h (8 * j); have h1 := h (8 * j + 1); have h2 := h (8 * j + 2); have h3 := h (8 * j + 3); have h4 := h (8 * j + 4); have h5 := h (8 * j + 5); have h6 := h (8 * j + 6); have h7 := h (8 * j + 7)
  unfold byteAt; omega
theorem bv_take_lt {l : List Bool} {i k : Nat} (h : k < i) : bv (l.take i) k = bv l k := by
  have e : (l.take i).getD k false = l.getD k false := by simp [List.getD, List.getElem?_take, h]
  unfold bv; rw [e]
theorem bv_take_ge {l : List Bool} {i k : Nat} (h : i ≤ k) : bv (l.take i) k = 0 := by
  unfold bv; simp [List.getD, List.getElem?_take, Nat.not_lt.2 h]
theorem bv_nil (k : Nat) : bv [] k = 0 := by simp [bv]
/-- What the next bit adds. -/
def bitW (l : List Bool) (i : Nat) : Nat := if l.getD i false then 2 ^ (i % 8) else 0
theorem byte_low (l : List Bool) (i : Nat) : byteAt (l.take i) (i / 8) < 2 ^ (i % 8) := by
  obtain ⟨q, r, hi, hr⟩ : ∃ q r, i = 8 * q + r ∧ r < 8 := ⟨i / 8, i % 8, by omega, by omega⟩
  have e1 : i / 8 = q := by omega
  have e2 : i % 8 = r := by omega
  rw [e1, e2]
  have hb := bv_le (l.take i)
  have h0 := hb (8 * q); have h1 := hb (8 * q + 1); have h2 := hb (8 * q + 2); have h3 := hb (8 * q + 3); have h4 := hb (8 * q + 4); have h5 := hb (8 * q + 5); have h6 := hb (8 * q + 6)
  have z : ∀ k, r ≤ k → bv (l.take i) (8 * q + k) = 0 := fun k hk => bv_take_ge (by omega)
  unfold byteAt
  have hr' : r = 0 ∨ r = 1 ∨ r = 2 ∨ r = 3 ∨ r = 4 ∨ r = 5 ∨ r = 6 ∨ r = 7 := by omega
  have z0 := z 0; have z1 := z 1; have z2 := z 2; have z3 := z 3; have z4 := z 4; have z5 := z 5; have z6 := z 6; have z7 := z 7
  rw [Nat.add_zero] at z0
  rcases hr' with rfl | rfl | rfl | rfl | rfl | rfl | rfl | rfl <;> simp only [Nat.le_refl, Nat.reduceLeDiff, forall_const, true_implies] at z0 z1 z2 z3 z4 z5 z6 z7 <;> omega
theorem bv_take_succ (l : List Bool) (i k : Nat) : bv (l.take (i + 1)) k = bv (l.take i) k + if k = i then bv l i else 0 := by
  by_cases h : k < i
  · rw [bv_take_lt h, bv_take_lt (by omega), if_neg (by omega)]; rfl
  · by_cases h2 : k = i
    · subst h2; rw [bv_take_lt (by omega), bv_take_ge (Nat.le_refl _), if_pos rfl]; omega
    · rw [bv_take_ge (by omega), bv_take_ge (by omega), if_neg h2]
theorem byte_succ (l : List Bool) (i j : Nat) : byteAt (l.take (i + 1)) j = byteAt (l.take i) j + if j = i / 8 then bitW l i else 0 := by
  obtain ⟨q, r, hi, hr⟩ : ∃ q r, i = 8 * q + r ∧ r < 8 := ⟨i / 8, i % 8, by omega, by omega⟩
  have e1 : i / 8 = q := by omega
  have e2 : i % 8 = r := by omega
  unfold byteAt
  simp only [bv_take_succ, e1]
  by_cases hj : j = q
  · subst hj
    rw [if_pos rfl]
    have hw : bitW l i = bv l i * 2 ^ r := by unfold bitW bv; rw [e2]; split <;> simp
    rw [hw]
    have hr' : r = 0 ∨ r = 1 ∨ r = 2 ∨ r = 3 ∨ r = 4 ∨ r = 5 ∨ r = 6 ∨ r = 7 := by omega
    rcases hr' with rfl | rfl | rfl | rfl | rfl | rfl | rfl | rfl <;> subst hi <;> simp <;> omega
  · rw [if_neg hj]
    have n0 : ¬ 8 * j = i := by omega
    have n1 : ¬ 8 * j + 1 = i := by omega
    have n2 : ¬ 8 * j + 2 = i := by omega
    have n3 : ¬ 8 * j + 3 = i := by omega
    have n4 : ¬ 8 * j + 4 = i := by omega
    have n5 : ¬ 8 * j + 5 = i := by omega
    have n6 : ¬ 8 * j + 6 = i := by omega
    have n7 : ¬ 8 * j + 7 = i := by omega
    simp [n0, n1, n2, n3, n4, n5, n6, n7]
theorem packN_succ (l : List Bool) (i n : Nat) : packN (l.take (i + 1)) n = (packN (l.take i) n).set (i / 8) (((byteAt (l.take i) (i / 8) + bitW l i : Nat)) : Int) := by
  apply List.ext_getElem (by simp [packN])
  intro j h1 h2
  rw [List.getElem_set]
  simp only [packN, List.getElem_map, List.getElem_range, byte_succ]
  by_cases h : j = i / 8
  · subst h; simp
  · rw [if_neg h, if_neg (fun e => h e.symm)]; simp
theorem packN_get {l : List Bool} {n j : Nat} (h : j < n) : (packN l n)[j]? = some ((byteAt l j : Nat) : Int) := by simp [packN, h]
theorem packN_nil (n : Nat) : packN [] n = List.replicate n 0 := by
  apply List.ext_getElem (by simp [packN])
  intro j h1 h2
  simp [packN, byteAt, bv_nil]
/-- A bit among bytes. -/
def bitL (b : List Int) (i : Nat) : Bool := decide (b.getD (i / 8) 0 / 2 ^ (i % 8) % 2 = 1)
def unpackL (b : List Int) (n : Nat) : List Bool := (List.range n).map (bitL b)
theorem byte_bit (l : List Bool) (i : Nat) : byteAt l (i / 8) / 2 ^ (i % 8) % 2 = bv l i := by
  obtain ⟨q, r, hi, hr⟩ : ∃ q r, i = 8 * q + r ∧ r < 8 := ⟨i / 8, i % 8, by omega, by omega⟩
  have e1 : i / 8 = q := by omega
  have e2 : i % 8 = r := by omega
  rw [e1, e2]
  subst hi
  have hb := bv_le l
  have h0 := hb (8 * q); have h1 := hb (8 * q + 1); have h2 := hb (8 * q + 2); have h3 := hb (8 * q + 3); have h4 := hb (8 * q + 4); have h5 := hb (8 * q + 5); have h6 := hb (8 * q + 6); have h7 := hb (8 * q + 7)
  unfold byteAt
  have hr' : r = 0 ∨ r = 1 ∨ r = 2 ∨ r = 3 ∨ r = 4 ∨ r = 5 ∨ r = 6 ∨ r = 7 := by omega
  rcases hr' with rfl | rfl | rfl | rfl | rfl | rfl | rfl | rfl <;> simp <;> omega
theorem bit_pack (l : List Bool) (i : Nat) (hi : i < l.length) : bitL (packL l) i = l.getD i false := by
  unfold bitL packL
  rw [List.getD_eq_getElem?_getD, packN_get (by omega), Option.getD_some]
  have h := byte_bit l i
  have e : (((byteAt l (i / 8) : Nat) : Int) / 2 ^ (i % 8) % 2 = 1) ↔ bv l i = 1 := by
    rw [← h]
    have : (2 : Int) ^ (i % 8) = ((2 ^ (i % 8) : Nat) : Int) := by simp
    rw [this]
    omega
  rw [Bool.eq_iff_iff, decide_eq_true_iff, e]
  unfold bv
  split <;> simp_all
theorem unpack_pack (l : List Bool) : unpackL (packL l) l.length = l := by
  apply List.ext_getElem (by simp [unpackL])
  intro i h1 h2
  simp only [unpackL, List.getElem_map, List.getElem_range]
  rw [bit_pack l i h2]
  simp [List.getD, h2]
end Go.Proofs.Ytheaeddojcebjaa
