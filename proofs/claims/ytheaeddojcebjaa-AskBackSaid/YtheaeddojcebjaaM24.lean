/-
  The bytes of a request as one's own; the law AskBounds.
-/
import Derived.Test.YtheaeddojcebjaaM23
set_option maxRecDepth 100000
set_option maxHeartbeats 4000000
set_option linter.unusedVariables false
set_option linter.unusedSimpArgs false
namespace Go.Proofs.Ytheaeddojcebjaa
open Go.RowKit

theorem ws2_cons (x : Int) (l : List Int) : ws2 (x :: l) = w2 x ++ ws2 l := rfl
theorem ws2_nil : ws2 [] = [] := rfl
@[simp] theorem leOs_nil : LeOs [] [] := .nil
@[simp] theorem leOs_arr1 {sz : Nat} {r r' : List (List D)} : LeOs [.arr sz r] [.arr sz r'] ↔ r = r' :=
  ⟨fun h => by cases h with | cons h _ => cases h; rfl, fun h => .of (by rw [h])⟩
theorem askBytesO_ok {a : Ask} (hf : a.Fit) (h : a.right = true) (hfn : a.fn = 15 ∨ a.fn = 16 ∨ a.fn = 23) : FnOk Try.prog 44 [a.v] [] (.tup [.c (.sl 0 0 (askB a).length), .c (.t (.int .i64 0))]) [oI .u8 (askB a)] := by
  have hr := askRight_ok hf
  rw [h] at hr
  have hv := hf.val
  have hbl := hf.bits
  have hwl := hf.words
  obtain ⟨fn, at_, n, vl, an, og, bs, ws, ra, rn, cd, ob⟩ := a
  simp only at hfn hv hbl hwl
  rcases hfn with rfl | rfl | rfl
  · simp [Ask.right, Ask.rest, known, countsB, kMost, placeB] at h
    have p1 := askPutO_ok (l := [15]) (ws := [at_, n]) (by simp) (wrd2 (by omega) (by omega)) (by simp) (by simp)
    have hy := bytes_ok n (by omega)
    have hk := pack_ok (l := bs) (by omega)
    have hnb := nBytes_rng (n := n) (by omega)
    have hmb : nBytes n % 256 = nBytes n := by omega
    have hpl : (packL bs).length = (bs.length + 7) / 8 := packN_length _ _
    refine FnOk.tree t44 (.f [] hr (.o [] [] p1 (.f [] hy (.f [] hk (.a (.call [3] [] .u []) .nil))))) rfl rfl rfl rfl ?_
    simp [leVs, leP, leE, leEs, leL, leC, eqOs, rI, rI_take, wu8, wu16, askB, ws2_cons, ws2_nil, w2, hmb, List.take_of_length_le]
    all_goals (repeat (first | omega | (intro _) | apply And.intro))
  · simp [Ask.right, Ask.rest, known, countsB, kMost, placeB] at h
    have p1 := askPutO_ok (l := [16]) (ws := [at_, n]) (by simp) (wrd2 (by omega) (by omega)) (by simp) (by simp)
    have p2 := askPutO_ok (l := [16] ++ w2 at_ ++ w2 n ++ [2 * n]) (ws := ws) (by simp [w2]) hf.wrd (by omega) (by omega)
    refine FnOk.tree t44 (.f [] hr (.o [] [] p1 (.o [] [2] p2 (.a (.call [3] [] .u []) .nil)))) rfl rfl rfl rfl ?_
    simp [leVs, leP, leE, leEs, leL, leC, eqOs, rI, rI_take, wu8, wu16, askB, ws2_cons, ws2_nil, w2, ws2_len]
    all_goals (repeat (first | omega | (intro _) | apply And.intro))
  · simp [Ask.right, Ask.rest, known, countsB, kMost, placeB] at h
    have p0 := askPut_ok (l := [23]) (ws := [ra, rn]) (by simp) (wrd2 (by omega) (by omega)) (by simp)
    have p1 := askPutO_ok (l := [23] ++ w2 ra ++ w2 rn) (ws := [at_, n]) (by simp [w2]) (wrd2 (by omega) (by omega)) (by simp) (by simp)
    have p2 := askPutO_ok (l := [23] ++ w2 ra ++ w2 rn ++ w2 at_ ++ w2 n ++ [2 * n]) (ws := ws) (by simp [w2]) hf.wrd (by omega) (by omega)
    refine FnOk.tree t44 (.f [] hr (.f [] p0 (.o [] [] p1 (.o [] [2] p2 (.a (.call [3] [] .u []) .nil))))) rfl rfl rfl rfl ?_
    simp [leVs, leP, leE, leEs, leL, leC, eqOs, rI, rI_take, wu8, wu16, askB, ws2_cons, ws2_nil, w2, ws2_len]
    all_goals (repeat (first | omega | (intro _) | apply And.intro))
theorem getD_set_ne {l : List Int} {k i : Nat} {x : Int} (h : k ≠ i) : (l.set k x).getD i 0 = l.getD i 0 := by simp [List.getD_eq_getElem?_getD, List.getElem?_set_ne h]
theorem getD_set_eq {l : List Int} {k : Nat} {x : Int} (h : k < l.length) : (l.set k x).getD k 0 = x := by simp [List.getD_eq_getElem?_getD, h]
theorem bump_ok {a : Ask} (hf : a.Fit) (h : a.right = true) {k : Nat} (hk : (a.fn = 15 ∨ a.fn = 16) ∧ k = 5 ∨ a.fn = 23 ∧ k = 9) :
    k < (askB a).length ∧ (0 ≤ (askB a).getD k 0 ∧ (askB a).getD k 0 ≤ 250) ∧ (pAsk ((askB a).set k ((askB a).getD k 0 + 1))).2 = 3 := by
  obtain ⟨k1, k2, k3, k4⟩ := askB_ok hf h
  obtain ⟨k5, k6⟩ := askB_fn a
  have hkn := right_known h
  have hby := at_byt (askB_byt hf h) k
  have hlen := askOk_len hkn k1
  have hl2 : ((askB a).drop 1).length = (askB a).length - 1 := by simp
  have hg : ((askB a).drop 1).getD (k - 1) 0 = (askB a).getD k 0 := by rw [getD_dr, show 1 + (k - 1) = k by omega]
  have hlt : k < (askB a).length ∧ ((askB a).length : Int) = k + 1 + (askB a).getD k 0 := by
    rw [hl2] at hlen
    unfold aLen at hlen
    rw [hl2] at hlen
    rcases hk with ⟨h15, rfl⟩ | ⟨h23, rfl⟩
    · rw [if_pos h15] at hlen
      simp only [Nat.reduceSub] at hg
      split at hlen <;> omega
    · rw [if_neg (by omega), if_pos h23] at hlen
      simp only [Nat.reduceSub] at hg
      split at hlen <;> omega
  refine ⟨hlt.1, by omega, ?_⟩
  have hk0 : k ≠ 0 := by omega
  have g0 : ((askB a).set k ((askB a).getD k 0 + 1)).getD 0 0 = a.fn := by rw [getD_set_ne hk0, k5]
  refine pAsk_bad (by simp; omega) (by simp; omega) (by rw [g0]; exact hkn) (fun h43 => by rw [g0] at h43; omega) ?_
  rw [g0]
  refine askOk_no hkn ?_
  have e1 : (((askB a).set k ((askB a).getD k 0 + 1)).drop 1).length = (askB a).length - 1 := by simp
  have e2 : (((askB a).set k ((askB a).getD k 0 + 1)).drop 1).getD (k - 1) 0 = (askB a).getD k 0 + 1 := by rw [getD_dr, show 1 + (k - 1) = k by omega, getD_set_eq hlt.1]
  unfold aLen
  rw [e1]
  rcases hk with ⟨h15, rfl⟩ | ⟨h23, rfl⟩
  · rw [if_pos h15]
    simp only [Nat.reduceSub] at e2
    split <;> omega
  · rw [if_neg (by omega), if_pos h23]
    simp only [Nat.reduceSub] at e2
    split <;> omega

end Go.Proofs.Ytheaeddojcebjaa
