/-
  An engine's open transactions, few lemmas; nobody has one.
-/
import Derived.Test.YtpnbncdclgmegaaT15
import Derived.Test.YtpnbncdclgmegaaO2
set_option maxRecDepth 100000
set_option maxHeartbeats 1000000
set_option linter.unusedVariables false
set_option linter.unusedSimpArgs false
namespace Go.Proofs.Ytpnbncdclgmegaa
open Go.RowKit

theorem mpOk_nil {ck : Nat} : MpOk ⟨ck, []⟩ := ⟨by simp, by simp, by simp, by simp, by simp⟩
theorem noOwners {e : En} {s : St} {ck : Nat} : FnOk Try.prog 27 [vC (.ptr 0 0)] (eO e s ⟨ck, []⟩) (vD (lI .i64 [])) (eO e s ⟨ck, []⟩) := owners_ok (j := 3) rfl rfl rfl mpOk_nil
theorem cel2 {a v : Int} : cellR (2, a, v) = keyR 2 a := by simp [cellR]
theorem cel3 {a v : Int} : cellR (3, a, v) = keyR 3 a := by simp [cellR]
theorem modify_snoc {α : Type} (f : α → α) : ∀ (l : List α) (a : α), (l ++ [a]).modify l.length f = l ++ [f a]
  | [], a => rfl
  | x :: l, a => by simp [modify_snoc f l a]
section
variable {es : List (Nat × Int × Vw)} {k : Int} (h : ∀ e ∈ es, e.2.1 ≠ k)
include h
theorem at_none {ck : Nat} : (⟨ck, es⟩ : Mo).at k = es.length := by
  unfold Mo.at
  rw [List.findIdx_eq_length]
  intro e he
  simpa using h e he
theorem get_noneM {ck : Nat} : (⟨ck, es⟩ : Mo).get k = none := by
  unfold Mo.get
  rw [at_none h]
  simp
theorem set_new {ck : Nat} {v : Vw} : (⟨ck, es⟩ : Mo).set k v = ⟨ck + 1, es ++ [(ck, k, v)]⟩ := by
  unfold Mo.set
  rw [at_none h]
  simp
theorem at_last {ck st : Nat} {v : Vw} : (⟨ck, es ++ [(st, k, v)]⟩ : Mo).at k = es.length := by
  unfold Mo.at
  rw [List.findIdx_append]
  have := at_none h (ck := ck)
  unfold Mo.at at this
  simp only at this
  rw [this]
  simp
theorem get_last {ck st : Nat} {v : Vw} : (⟨ck, es ++ [(st, k, v)]⟩ : Mo).get k = some v := by
  unfold Mo.get
  rw [at_last h]
  simp
theorem set_last {ck st : Nat} {v x : Vw} : (⟨ck, es ++ [(st, k, v)]⟩ : Mo).set k x = ⟨ck, es ++ [(st, k, x)]⟩ := by
  unfold Mo.set
  rw [at_last h]
  simp [modify_snoc]
theorem del_last {ck st : Nat} {v : Vw} : (⟨ck, es ++ [(st, k, v)]⟩ : Mo).del k = ⟨ck, es⟩ := by
  unfold Mo.del
  rw [at_last h]
  simp [List.eraseIdx_append_of_length_le]
end
theorem get_head {es : List (Nat × Int × Vw)} {k : Int} {ck st : Nat} {v : Vw} : (⟨ck, (st, k, v) :: es⟩ : Mo).get k = some v := by simp [Mo.get, Mo.at, List.findIdx_cons]
theorem set_head {es : List (Nat × Int × Vw)} {k : Int} {ck st : Nat} {v x : Vw} : (⟨ck, (st, k, v) :: es⟩ : Mo).set k x = ⟨ck, (st, k, x) :: es⟩ := by simp [Mo.set, Mo.at, List.findIdx_cons]
theorem del_head {es : List (Nat × Int × Vw)} {k : Int} {ck st : Nat} {v : Vw} : (⟨ck, (st, k, v) :: es⟩ : Mo).del k = ⟨ck, es⟩ := by simp [Mo.del, Mo.at, List.findIdx_cons]

end Go.Proofs.Ytpnbncdclgmegaa
