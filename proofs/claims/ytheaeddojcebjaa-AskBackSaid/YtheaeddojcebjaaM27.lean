/-
  The law AskTells.
-/
import Derived.Test.YtheaeddojcebjaaM26
set_option maxRecDepth 100000
set_option maxHeartbeats 4000000
set_option linter.unusedVariables false
set_option linter.unusedSimpArgs false
namespace Go.Proofs.Ytheaeddojcebjaa
open Go.RowKit

theorem askG_lens (k v : Int) : (askG k v).bits.length ≤ 20 ∧ (askG k v).words.length ≤ 20 := by
  have h2 := aN_rng k
  have h3 := aC_rng k v
  have hw := mod_rng k (n := 16) (by omega)
  unfold askG
  generalize k % 16 = w at hw
  have : w = 0 ∨ w = 1 ∨ w = 2 ∨ w = 3 ∨ w = 4 ∨ w = 5 ∨ w = 6 ∨ w = 7 ∨ w = 8 ∨ w = 9 ∨ w = 10 ∨ w = 11 ∨ w = 12 ∨ w = 13 ∨ w = 14 ∨ w = 15 := by omega
  rcases this with rfl | rfl | rfl | rfl | rfl | rfl | rfl | rfl | rfl | rfl | rfl | rfl | rfl | rfl | rfl | rfl
  all_goals simp [askGw, wordsG_len, bitsG_len]
  all_goals omega
/-- A request that is right, with one field turned. -/
def turned (c n : Int) (a : Ask) : Ask :=
  if c = 0 then { a with at_ := n } else if c = 1 then { a with n := n } else if c = 2 then { a with val := n % 65536 } else if c = 3 then { a with and_ := n % 65536 }
  else if c = 4 then { a with or_ := n % 65536 } else if c = 5 then { a with bits := a.bits ++ [n.tmod 2 == 0] } else if c = 6 then { a with words := a.words ++ [n % 65536] }
  else if c = 7 then { a with ra := n } else if c = 8 then { a with rn := n } else { a with code := a.code + n % 2, obj := a.obj + dig n 2 2 }
theorem turned_fit {c n : Int} (hn : b64 n) {a : Ask} (hf : a.Fit) (hb : a.bits.length ≤ 20) (hw : a.words.length ≤ 20) (hc : b64 (a.code + n % 2) ∧ b64 (a.obj + dig n 2 2)) : (turned c n a).Fit ∧ (turned c n a).bits.length ≤ 1000000 ∧ (turned c n a).words.length ≤ 1000000 := by
  obtain ⟨h1, h2, h3, h4, h5, h6, h7, h8, h9, h10, h11, h12, h13⟩ := hf
  have hm := mod_rng n (n := 65536) (by omega)
  have hz : 0 ≤ n % 65536 ∧ n % 65536 ≤ 65535 := by omega
  unfold turned
  split
  · exact ⟨fitA h1 hn h3 h4 h5 h6 h7 h8 h9 h10 h11 h12 h13, by show a.bits.length ≤ _; omega, by show a.words.length ≤ _; omega⟩
  split
  · exact ⟨fitA h1 h2 hn h4 h5 h6 h7 h8 h9 h10 h11 h12 h13, by show a.bits.length ≤ _; omega, by show a.words.length ≤ _; omega⟩
  split
  · exact ⟨fitA h1 h2 h3 hz h5 h6 h7 h8 h9 h10 h11 h12 h13, by show a.bits.length ≤ _; omega, by show a.words.length ≤ _; omega⟩
  split
  · exact ⟨fitA h1 h2 h3 h4 hz h6 h7 h8 h9 h10 h11 h12 h13, by show a.bits.length ≤ _; omega, by show a.words.length ≤ _; omega⟩
  split
  · exact ⟨fitA h1 h2 h3 h4 h5 hz h7 h8 h9 h10 h11 h12 h13, by show a.bits.length ≤ _; omega, by show a.words.length ≤ _; omega⟩
  split
  · exact ⟨fitA h1 h2 h3 h4 h5 h6 (by simp; omega) h8 h9 h10 h11 h12 h13, by simp; omega, by show a.words.length ≤ _; omega⟩
  split
  · exact ⟨fitA h1 h2 h3 h4 h5 h6 h7 (by simp; omega) (fun x hx => (List.mem_append.1 hx).elim (h9 x) (fun h => by simp at h; subst h; exact hz)) h10 h11 h12 h13, by show a.bits.length ≤ _; omega, by simp; omega⟩
  split
  · exact ⟨fitA h1 h2 h3 h4 h5 h6 h7 h8 h9 hn h11 h12 h13, by show a.bits.length ≤ _; omega, by show a.words.length ≤ _; omega⟩
  split
  · exact ⟨fitA h1 h2 h3 h4 h5 h6 h7 h8 h9 h10 hn h12 h13, by show a.bits.length ≤ _; omega, by show a.words.length ≤ _; omega⟩
  · exact ⟨fitA h1 h2 h3 h4 h5 h6 h7 h8 h9 h10 h11 hc.1 hc.2, by show a.bits.length ≤ _; omega, by show a.words.length ≤ _; omega⟩
theorem askG_low (k v : Int) : (0 ≤ (askG k v).code ∧ (askG k v).code ≤ 10) ∧ 0 ≤ (askG k v).obj ∧ (askG k v).obj ≤ 10 := by
  have h1 := mod_rng v (n := 4) (by omega)
  have h2 := dig_rng v 4 (n := 5) (by omega)
  unfold askG askGw
  repeat' split
  all_goals simp
  omega

theorem askTells_0 {a : Ask} (hf : a.Fit) (hbl : a.bits.length ≤ 2100) (hwl : a.words.length ≤ 200) {k v which n : Int} (hk : b64 k) (hv : b64 v) (hwh : b64 which) (hn : b64 n) (hw : which % 10 = 0) : FnOk Try.prog 13 [a.v, vI .i64 k, vI .i64 v, vI .i64 which, vI .i64 n] [] (vB true) [] := by
  have haw := awake5_ok
  have hfew := few5_ok (a := a)
  rw [decide_eq_true hbl, decide_eq_true hwl] at hfew
  have hw10 := within_ok (k := which) (n := 10) hwh (by omega)
  rw [hw] at hw10
  obtain ⟨gf, gr⟩ := askG_fit k v
  obtain ⟨gb, gw⟩ := askG_lens k v
  obtain ⟨gc, go⟩ := askG_low k v
  have m2 := mod_rng n (n := 2) (by omega)
  have d2 := dig_rng n 2 (n := 2) (by omega)
  obtain ⟨tf, tb, tw⟩ := turned_fit (c := 0) hn gf gb gw ⟨by omega, by omega⟩
  have t1 := tells_ok hf (by omega) (by omega)
  have t2 := tells_ok tf tb tw
  have hg := askG_ok hk hv
  generalize askG k v = g at *
  refine FnOk.tree t13 (.f [] hfew (.f [] haw (.f [] hg (.f [] hw10 (.f [] t1 (.f [] t2 .nil)))))) rfl rfl rfl rfl ?_
  simp [leVs, leP, leE, leL, leC, eqOs, turned, wu16]
  all_goals (repeat (first | omega | (intro _) | apply And.intro))
theorem askTells_1 {a : Ask} (hf : a.Fit) (hbl : a.bits.length ≤ 2100) (hwl : a.words.length ≤ 200) {k v which n : Int} (hk : b64 k) (hv : b64 v) (hwh : b64 which) (hn : b64 n) (hw : which % 10 = 1) : FnOk Try.prog 13 [a.v, vI .i64 k, vI .i64 v, vI .i64 which, vI .i64 n] [] (vB true) [] := by
  have haw := awake5_ok
  have hfew := few5_ok (a := a)
  rw [decide_eq_true hbl, decide_eq_true hwl] at hfew
  have hw10 := within_ok (k := which) (n := 10) hwh (by omega)
  rw [hw] at hw10
  obtain ⟨gf, gr⟩ := askG_fit k v
  obtain ⟨gb, gw⟩ := askG_lens k v
  obtain ⟨gc, go⟩ := askG_low k v
  have m2 := mod_rng n (n := 2) (by omega)
  have d2 := dig_rng n 2 (n := 2) (by omega)
  obtain ⟨tf, tb, tw⟩ := turned_fit (c := 1) hn gf gb gw ⟨by omega, by omega⟩
  have t1 := tells_ok hf (by omega) (by omega)
  have t2 := tells_ok tf tb tw
  have hg := askG_ok hk hv
  generalize askG k v = g at *
  refine FnOk.tree t13 (.f [] hfew (.f [] haw (.f [] hg (.f [] hw10 (.f [] t1 (.f [] t2 .nil)))))) rfl rfl rfl rfl ?_
  simp [leVs, leP, leE, leL, leC, eqOs, turned, wu16]
  all_goals (repeat (first | omega | (intro _) | apply And.intro))
theorem askTells_2 {a : Ask} (hf : a.Fit) (hbl : a.bits.length ≤ 2100) (hwl : a.words.length ≤ 200) {k v which n : Int} (hk : b64 k) (hv : b64 v) (hwh : b64 which) (hn : b64 n) (hw : which % 10 = 2) : FnOk Try.prog 13 [a.v, vI .i64 k, vI .i64 v, vI .i64 which, vI .i64 n] [] (vB true) [] := by
  have haw := awake5_ok
  have hfew := few5_ok (a := a)
  rw [decide_eq_true hbl, decide_eq_true hwl] at hfew
  have hw10 := within_ok (k := which) (n := 10) hwh (by omega)
  rw [hw] at hw10
  obtain ⟨gf, gr⟩ := askG_fit k v
  obtain ⟨gb, gw⟩ := askG_lens k v
  obtain ⟨gc, go⟩ := askG_low k v
  have m2 := mod_rng n (n := 2) (by omega)
  have d2 := dig_rng n 2 (n := 2) (by omega)
  obtain ⟨tf, tb, tw⟩ := turned_fit (c := 2) hn gf gb gw ⟨by omega, by omega⟩
  have t1 := tells_ok hf (by omega) (by omega)
  have t2 := tells_ok tf tb tw
  have hg := askG_ok hk hv
  generalize askG k v = g at *
  refine FnOk.tree t13 (.f [] hfew (.f [] haw (.f [] hg (.f [] hw10 (.f [] t1 (.f [] t2 .nil)))))) rfl rfl rfl rfl ?_
  simp [leVs, leP, leE, leL, leC, eqOs, turned, wu16]
  all_goals (repeat (first | omega | (intro _) | apply And.intro))
theorem askTells_3 {a : Ask} (hf : a.Fit) (hbl : a.bits.length ≤ 2100) (hwl : a.words.length ≤ 200) {k v which n : Int} (hk : b64 k) (hv : b64 v) (hwh : b64 which) (hn : b64 n) (hw : which % 10 = 3) : FnOk Try.prog 13 [a.v, vI .i64 k, vI .i64 v, vI .i64 which, vI .i64 n] [] (vB true) [] := by
  have haw := awake5_ok
  have hfew := few5_ok (a := a)
  rw [decide_eq_true hbl, decide_eq_true hwl] at hfew
  have hw10 := within_ok (k := which) (n := 10) hwh (by omega)
  rw [hw] at hw10
  obtain ⟨gf, gr⟩ := askG_fit k v
  obtain ⟨gb, gw⟩ := askG_lens k v
  obtain ⟨gc, go⟩ := askG_low k v
  have m2 := mod_rng n (n := 2) (by omega)
  have d2 := dig_rng n 2 (n := 2) (by omega)
  obtain ⟨tf, tb, tw⟩ := turned_fit (c := 3) hn gf gb gw ⟨by omega, by omega⟩
  have t1 := tells_ok hf (by omega) (by omega)
  have t2 := tells_ok tf tb tw
  have hg := askG_ok hk hv
  generalize askG k v = g at *
  refine FnOk.tree t13 (.f [] hfew (.f [] haw (.f [] hg (.f [] hw10 (.f [] t1 (.f [] t2 .nil)))))) rfl rfl rfl rfl ?_
  simp [leVs, leP, leE, leL, leC, eqOs, turned, wu16]
  all_goals (repeat (first | omega | (intro _) | apply And.intro))
theorem askTells_4 {a : Ask} (hf : a.Fit) (hbl : a.bits.length ≤ 2100) (hwl : a.words.length ≤ 200) {k v which n : Int} (hk : b64 k) (hv : b64 v) (hwh : b64 which) (hn : b64 n) (hw : which % 10 = 4) : FnOk Try.prog 13 [a.v, vI .i64 k, vI .i64 v, vI .i64 which, vI .i64 n] [] (vB true) [] := by
  have haw := awake5_ok
  have hfew := few5_ok (a := a)
  rw [decide_eq_true hbl, decide_eq_true hwl] at hfew
  have hw10 := within_ok (k := which) (n := 10) hwh (by omega)
  rw [hw] at hw10
  obtain ⟨gf, gr⟩ := askG_fit k v
  obtain ⟨gb, gw⟩ := askG_lens k v
  obtain ⟨gc, go⟩ := askG_low k v
  have m2 := mod_rng n (n := 2) (by omega)
  have d2 := dig_rng n 2 (n := 2) (by omega)
  obtain ⟨tf, tb, tw⟩ := turned_fit (c := 4) hn gf gb gw ⟨by omega, by omega⟩
  have t1 := tells_ok hf (by omega) (by omega)
  have t2 := tells_ok tf tb tw
  have hg := askG_ok hk hv
  generalize askG k v = g at *
  refine FnOk.tree t13 (.f [] hfew (.f [] haw (.f [] hg (.f [] hw10 (.f [] t1 (.f [] t2 .nil)))))) rfl rfl rfl rfl ?_
  simp [leVs, leP, leE, leL, leC, eqOs, turned, wu16]
  all_goals (repeat (first | omega | (intro _) | apply And.intro))
theorem askTells_5 {a : Ask} (hf : a.Fit) (hbl : a.bits.length ≤ 2100) (hwl : a.words.length ≤ 200) {k v which n : Int} (hk : b64 k) (hv : b64 v) (hwh : b64 which) (hn : b64 n) (hw : which % 10 = 5) : FnOk Try.prog 13 [a.v, vI .i64 k, vI .i64 v, vI .i64 which, vI .i64 n] [] (vB true) [] := by
  have haw := awake5_ok
  have hfew := few5_ok (a := a)
  rw [decide_eq_true hbl, decide_eq_true hwl] at hfew
  have hw10 := within_ok (k := which) (n := 10) hwh (by omega)
  rw [hw] at hw10
  obtain ⟨gf, gr⟩ := askG_fit k v
  obtain ⟨gb, gw⟩ := askG_lens k v
  obtain ⟨gc, go⟩ := askG_low k v
  have m2 := mod_rng n (n := 2) (by omega)
  have d2 := dig_rng n 2 (n := 2) (by omega)
  obtain ⟨tf, tb, tw⟩ := turned_fit (c := 5) hn gf gb gw ⟨by omega, by omega⟩
  have t1 := tells_ok hf (by omega) (by omega)
  have t2 := tells_ok tf tb tw
  rcases askG_bits hk hv with ⟨hg, e0⟩ | ⟨hg, e0⟩
  · generalize askG k v = g at *
    refine FnOk.tree t13 (.f [] hfew (.f [] haw (.o [] [] hg (.f [] hw10 (.f [] t1 (.f [3] t2 .nil)))))) rfl rfl rfl rfl ?_
    simp [leVs, leP, leE, leL, leC, eqOs, turned, wu16, e0, rF]
    all_goals (repeat (first | omega | (intro _) | apply And.intro))
  · generalize askG k v = g at *
    refine FnOk.tree t13 (.f [] hfew (.f [] haw (.f [] hg (.f [] hw10 (.f [] t1 (.f [2] t2 .nil)))))) rfl rfl rfl rfl ?_
    simp [leVs, leP, leE, leL, leC, eqOs, turned, wu16, e0, rF]
    all_goals (repeat (first | omega | (intro _) | apply And.intro))
theorem askTells_6 {a : Ask} (hf : a.Fit) (hbl : a.bits.length ≤ 2100) (hwl : a.words.length ≤ 200) {k v which n : Int} (hk : b64 k) (hv : b64 v) (hwh : b64 which) (hn : b64 n) (hw : which % 10 = 6) : FnOk Try.prog 13 [a.v, vI .i64 k, vI .i64 v, vI .i64 which, vI .i64 n] [] (vB true) [] := by
  have haw := awake5_ok
  have hfew := few5_ok (a := a)
  rw [decide_eq_true hbl, decide_eq_true hwl] at hfew
  have hw10 := within_ok (k := which) (n := 10) hwh (by omega)
  rw [hw] at hw10
  obtain ⟨gf, gr⟩ := askG_fit k v
  obtain ⟨gb, gw⟩ := askG_lens k v
  obtain ⟨gc, go⟩ := askG_low k v
  have m2 := mod_rng n (n := 2) (by omega)
  have d2 := dig_rng n 2 (n := 2) (by omega)
  obtain ⟨tf, tb, tw⟩ := turned_fit (c := 6) hn gf gb gw ⟨by omega, by omega⟩
  have t1 := tells_ok hf (by omega) (by omega)
  have t2 := tells_ok tf tb tw
  rcases askG_words hk hv with ⟨hg, e0⟩ | ⟨hg, e0⟩
  · generalize askG k v = g at *
    refine FnOk.tree t13 (.f [] hfew (.f [] haw (.o [] [] hg (.f [] hw10 (.f [] t1 (.f [3] t2 .nil)))))) rfl rfl rfl rfl ?_
    simp [leVs, leP, leE, leL, leC, eqOs, turned, wu16, e0, rI]
    all_goals (repeat (first | omega | (intro _) | apply And.intro))
  · generalize askG k v = g at *
    refine FnOk.tree t13 (.f [] hfew (.f [] haw (.f [] hg (.f [] hw10 (.f [] t1 (.f [2] t2 .nil)))))) rfl rfl rfl rfl ?_
    simp [leVs, leP, leE, leL, leC, eqOs, turned, wu16, e0, rI]
    all_goals (repeat (first | omega | (intro _) | apply And.intro))
theorem askTells_7 {a : Ask} (hf : a.Fit) (hbl : a.bits.length ≤ 2100) (hwl : a.words.length ≤ 200) {k v which n : Int} (hk : b64 k) (hv : b64 v) (hwh : b64 which) (hn : b64 n) (hw : which % 10 = 7) : FnOk Try.prog 13 [a.v, vI .i64 k, vI .i64 v, vI .i64 which, vI .i64 n] [] (vB true) [] := by
  have haw := awake5_ok
  have hfew := few5_ok (a := a)
  rw [decide_eq_true hbl, decide_eq_true hwl] at hfew
  have hw10 := within_ok (k := which) (n := 10) hwh (by omega)
  rw [hw] at hw10
  obtain ⟨gf, gr⟩ := askG_fit k v
  obtain ⟨gb, gw⟩ := askG_lens k v
  obtain ⟨gc, go⟩ := askG_low k v
  have m2 := mod_rng n (n := 2) (by omega)
  have d2 := dig_rng n 2 (n := 2) (by omega)
  obtain ⟨tf, tb, tw⟩ := turned_fit (c := 7) hn gf gb gw ⟨by omega, by omega⟩
  have t1 := tells_ok hf (by omega) (by omega)
  have t2 := tells_ok tf tb tw
  have hg := askG_ok hk hv
  generalize askG k v = g at *
  refine FnOk.tree t13 (.f [] hfew (.f [] haw (.f [] hg (.f [] hw10 (.f [] t1 (.f [] t2 .nil)))))) rfl rfl rfl rfl ?_
  simp [leVs, leP, leE, leL, leC, eqOs, turned, wu16]
  all_goals (repeat (first | omega | (intro _) | apply And.intro))
theorem askTells_8 {a : Ask} (hf : a.Fit) (hbl : a.bits.length ≤ 2100) (hwl : a.words.length ≤ 200) {k v which n : Int} (hk : b64 k) (hv : b64 v) (hwh : b64 which) (hn : b64 n) (hw : which % 10 = 8) : FnOk Try.prog 13 [a.v, vI .i64 k, vI .i64 v, vI .i64 which, vI .i64 n] [] (vB true) [] := by
  have haw := awake5_ok
  have hfew := few5_ok (a := a)
  rw [decide_eq_true hbl, decide_eq_true hwl] at hfew
  have hw10 := within_ok (k := which) (n := 10) hwh (by omega)
  rw [hw] at hw10
  obtain ⟨gf, gr⟩ := askG_fit k v
  obtain ⟨gb, gw⟩ := askG_lens k v
  obtain ⟨gc, go⟩ := askG_low k v
  have m2 := mod_rng n (n := 2) (by omega)
  have d2 := dig_rng n 2 (n := 2) (by omega)
  obtain ⟨tf, tb, tw⟩ := turned_fit (c := 8) hn gf gb gw ⟨by omega, by omega⟩
  have t1 := tells_ok hf (by omega) (by omega)
  have t2 := tells_ok tf tb tw
  have hg := askG_ok hk hv
  generalize askG k v = g at *
  refine FnOk.tree t13 (.f [] hfew (.f [] haw (.f [] hg (.f [] hw10 (.f [] t1 (.f [] t2 .nil)))))) rfl rfl rfl rfl ?_
  simp [leVs, leP, leE, leL, leC, eqOs, turned, wu16]
  all_goals (repeat (first | omega | (intro _) | apply And.intro))
theorem askTells_9 {a : Ask} (hf : a.Fit) (hbl : a.bits.length ≤ 2100) (hwl : a.words.length ≤ 200) {k v which n : Int} (hk : b64 k) (hv : b64 v) (hwh : b64 which) (hn : b64 n) (hw : which % 10 = 9) : FnOk Try.prog 13 [a.v, vI .i64 k, vI .i64 v, vI .i64 which, vI .i64 n] [] (vB true) [] := by
  have haw := awake5_ok
  have hfew := few5_ok (a := a)
  rw [decide_eq_true hbl, decide_eq_true hwl] at hfew
  have hw10 := within_ok (k := which) (n := 10) hwh (by omega)
  rw [hw] at hw10
  obtain ⟨gf, gr⟩ := askG_fit k v
  obtain ⟨gb, gw⟩ := askG_lens k v
  obtain ⟨gc, go⟩ := askG_low k v
  have m2 := mod_rng n (n := 2) (by omega)
  have d2 := dig_rng n 2 (n := 2) (by omega)
  obtain ⟨tf, tb, tw⟩ := turned_fit (c := 9) hn gf gb gw ⟨by omega, by omega⟩
  have t1 := tells_ok hf (by omega) (by omega)
  have t2 := tells_ok tf tb tw
  have hg := askG_ok hk hv
  have hw2 := within_ok (k := n) (n := 2) hn (by omega)
  have hd2 := digit_ok (k := n) (d := 2) (n := 2) hn (by omega) (by omega)
  generalize askG k v = g at *
  refine FnOk.tree t13 (.f [] hfew (.f [] haw (.f [] hg (.f [] hw10 (.f [] hw2 (.f [] hd2 (.f [] t1 (.f [] t2 .nil)))))))) rfl rfl rfl rfl ?_
  simp [leVs, leP, leE, leL, leC, eqOs, turned, wu16]
  all_goals (repeat (first | omega | (intro _) | apply And.intro))
theorem askTells_ok {a : Ask} (hf' : a.bits.length ≤ 2100 ∧ a.words.length ≤ 200 → a.Fit) {k v which n : Int} (hk : b64 k) (hv : b64 v) (hwh : b64 which) (hn : b64 n) : FnOk Try.prog 13 [a.v, vI .i64 k, vI .i64 v, vI .i64 which, vI .i64 n] [] (vB true) [] := by
  have haw := awake5_ok
  have hfew := few5_ok (a := a)
  by_cases hfw : a.bits.length ≤ 2100 ∧ a.words.length ≤ 200
  · have hf := hf' hfw
    have hw := mod_rng which (n := 10) (by omega)
    have : which % 10 = 0 ∨ which % 10 = 1 ∨ which % 10 = 2 ∨ which % 10 = 3 ∨ which % 10 = 4 ∨ which % 10 = 5 ∨ which % 10 = 6 ∨ which % 10 = 7 ∨ which % 10 = 8 ∨ which % 10 = 9 := by omega
    rcases this with h | h | h | h | h | h | h | h | h | h
    · exact askTells_0 hf hfw.1 hfw.2 hk hv hwh hn h
    · exact askTells_1 hf hfw.1 hfw.2 hk hv hwh hn h
    · exact askTells_2 hf hfw.1 hfw.2 hk hv hwh hn h
    · exact askTells_3 hf hfw.1 hfw.2 hk hv hwh hn h
    · exact askTells_4 hf hfw.1 hfw.2 hk hv hwh hn h
    · exact askTells_5 hf hfw.1 hfw.2 hk hv hwh hn h
    · exact askTells_6 hf hfw.1 hfw.2 hk hv hwh hn h
    · exact askTells_7 hf hfw.1 hfw.2 hk hv hwh hn h
    · exact askTells_8 hf hfw.1 hfw.2 hk hv hwh hn h
    · exact askTells_9 hf hfw.1 hfw.2 hk hv hwh hn h
  · have : (decide (a.bits.length ≤ 2100) && decide (a.words.length ≤ 200)) = false := by rw [← Bool.decide_and]; exact decide_eq_false hfw
    rw [this] at hfew
    exact FnOk.tree t13 (.f [] hfew (.f [] haw .nil)) rfl rfl rfl rfl (by simp [leVs, leP, leE, leL, leC])
end Go.Proofs.Ytheaeddojcebjaa
