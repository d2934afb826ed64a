/-
  The bytes of a reply.
-/
import Derived.Test.YtheaeddojcebjaaM33
set_option maxRecDepth 100000
set_option maxHeartbeats 4000000
set_option linter.unusedVariables false
set_option linter.unusedSimpArgs false
namespace Go.Proofs.Ytheaeddojcebjaa
open Go.RowKit

/-- The bytes of a text. -/
def sB (s : ByteArray) : List Int := s.data.toList.map (fun b => (b.toNat : Int))
@[simp] theorem sB_len (s : ByteArray) : (sB s).length = s.size := by simp [sB]
theorem sB_rows (s : ByteArray) : s.data.toList.map (fun b => [D.int .u8 (b.toNat : Int)]) = rI .u8 (sB s) := by simp [sB, rI]
def objB (l : List Obj) : List Int := l.flatMap fun o => [o.1, (o.2.size : Int)] ++ sB o.2
theorem objB_take {l : List Obj} {i : Nat} (h : i < l.length) : objB (l.take (i + 1)) = objB (l.take i) ++ ([l[i].1, (l[i].2.size : Int)] ++ sB l[i].2) := by
  unfold objB
  rw [← List.take_append_getElem h, List.flatMap_append]
  simp
/-- The bytes of a reply that is right. -/
def tellB (a : Tell) : List Int :=
  if a.exc = 0 then
    if a.fn = 1 ∨ a.fn = 2 then [a.fn, ((packL a.bits).length : Int)] ++ packL a.bits
    else if a.fn = 3 ∨ a.fn = 4 ∨ a.fn = 23 then [a.fn, 2 * (a.words.length : Int)] ++ ws2 a.words
    else if a.fn = 5 then [a.fn] ++ w2 a.at_ ++ w2 (a.val * 65280)
    else if a.fn = 6 then [a.fn] ++ w2 a.at_ ++ w2 a.val
    else if a.fn = 22 then [a.fn] ++ w2 a.at_ ++ w2 a.and_ ++ w2 a.or_
    else if a.fn = 43 then [43, 14, a.code, a.level, if a.more then 255 else 0, a.next, (a.objs.length : Int)] ++ objB a.objs
    else [a.fn] ++ w2 a.at_ ++ w2 a.n
  else [a.fn % 128 + 128, a.exc]
theorem or128 {x : Int} (h : 0 ≤ x ∧ x ≤ 255) : IntKind.u8.wrap (BitVec.ofInt IntKind.u8.bits (IntKind.u8.wrap x) ||| BitVec.ofInt IntKind.u8.bits 128).toNat = x % 128 + 128 := by
  obtain ⟨n, rfl⟩ := Int.eq_ofNat_of_zero_le h.1
  have hn : n < 256 := by omega
  rw [wu8, wu8]
  have : ∀ n : _root_.Fin 256, (BitVec.ofNat 8 n.val ||| BitVec.ofNat 8 128).toNat = n.val % 128 + 128 := by decide
  have h2 := this ⟨n, hn⟩
  simp only at h2
  have e3 : (BitVec.ofInt IntKind.u8.bits ((n : Int) % 256) ||| BitVec.ofInt IntKind.u8.bits 128).toNat = n % 128 + 128 := by
    rw [Int.emod_eq_of_lt (by omega) (by omega)]
    exact h2
  rw [e3]
  omega
theorem failing_rng {n : Int} (h : failingB n = true) : 1 ≤ n ∧ n ≤ 255 := by
  simp [failingB] at h
  omega
theorem tRight_known {a : Tell} (h : a.right = true) (he : a.exc = 0) : known a.fn = true := by
  simp only [Tell.right, if_pos he, Bool.and_eq_true] at h
  exact h.1
theorem tRight_exc {a : Tell} (h : a.right = true) (he : a.exc ≠ 0) : failingB a.exc = true ∧ bytefulB a.fn = true := by
  simp only [Tell.right, if_neg he, Bool.and_eq_true] at h
  exact ⟨h.1, h.2.1⟩

theorem tellBytesNo_ok {a : Tell} (hf : a.Fit) (h : a.right = false) : FnOk Try.prog 43 [a.v] [] (bytR [] 1) [] := by
  have hr := tRight_ok hf
  rw [h] at hr
  exact FnOk.tree t43 (.f [] hr .nil) rfl rfl rfl rfl (by simp [leVs, leP, leE, leEs, leC])
theorem tellBytesExc_ok {a : Tell} (hf : a.Fit) (h : a.right = true) (he : a.exc ≠ 0) : FnOk Try.prog 43 [a.v] [] (bytR (tellB a) 0) [] := by
  have hr := tRight_ok hf
  rw [h] at hr
  obtain ⟨h1, h2⟩ := tRight_exc h he
  have h1 := failing_rng h1
  have h2 := of_decide_eq_true h2
  have e1 : IntKind.u8.wrap a.exc = a.exc := by rw [wu8]; omega
  have e2 := or128 h2
  have e3 : a.fn.tmod 128 = a.fn % 128 := Int.tmod_eq_emod_of_nonneg h2.1
  have e4 : IntKind.u8.wrap (a.fn % 128 + 128) = a.fn % 128 + 128 := by rw [wu8]; omega
  refine FnOk.tree t43 (.f [] hr (.a (.b 13 true) .nil)) rfl rfl rfl rfl ?_
  simp only [e2]
  simp [leVs, leP, leE, leEs, leL, leC, tellB, he, rI, e1, e3, e4]
  all_goals omega
theorem tellBytes_ok {a : Tell} (hf : a.Fit) (h : a.right = true) (he : a.exc = 0) (h43 : a.fn ≠ 43) : FnOk Try.prog 43 [a.v] [] (bytR (tellB a) 0) [] := by
  have hr := tRight_ok hf
  have hk := tRight_known h he
  rw [h] at hr
  have hfn := of_decide_eq_true hk
  clear hk
  have hv := hf.val
  have ha := hf.and_
  have ho := hf.or_
  have hbl := hf.bits
  have hwl := hf.words
  obtain ⟨fn, exc, bs, ws, at_, n, vl, an, og, cd, lv, mo, nx, os⟩ := a
  simp only at hfn hv ha ho hbl hwl he h43
  subst he
  rcases hfn with rfl | rfl | rfl | rfl | rfl | rfl | rfl | rfl | rfl | rfl | rfl
  · simp [Tell.right, Tell.rest, known, countsB, placeB] at h
    have hk := pack_ok (l := bs) (by omega)
    have hpl : (packL bs).length = (bs.length + 7) / 8 := packN_length _ _
    refine FnOk.tree t43 (.f [] hr (.a (.b 13 false) (.w (.f [] hk (.a (.call [] [3] .u []) .nil))))) rfl rfl rfl rfl ?_
    simp [leVs, leP, leE, leEs, leL, leC, eqOs, rI, rI_take, wu8, wu16, tellB, ws2, w2, List.take_of_length_le]
    all_goals (repeat' (first | omega | exact LeOs.nil | (intro _) | apply And.intro))
  · simp [Tell.right, Tell.rest, known, countsB, placeB] at h
    have hk := pack_ok (l := bs) (by omega)
    have hpl : (packL bs).length = (bs.length + 7) / 8 := packN_length _ _
    refine FnOk.tree t43 (.f [] hr (.a (.b 13 false) (.w (.f [] hk (.a (.call [] [3] .u []) .nil))))) rfl rfl rfl rfl ?_
    simp [leVs, leP, leE, leEs, leL, leC, eqOs, rI, rI_take, wu8, wu16, tellB, ws2, w2, List.take_of_length_le]
    all_goals (repeat' (first | omega | exact LeOs.nil | (intro _) | apply And.intro))
  · simp [Tell.right, Tell.rest, known, countsB, placeB] at h
    have p2 := tellPut_ok (l := [3, 2 * (ws.length : Int)]) (ws := ws) (by simp) hf.wrd (by omega)
    refine FnOk.tree t43 (.f [] hr (.a (.b 13 false) (.w (.f [2] p2 .nil)))) rfl rfl rfl rfl ?_
    simp [leVs, leP, leE, leEs, leL, leC, eqOs, rI, rI_take, wu8, wu16, tellB, ws2, w2]
    all_goals (repeat' (first | omega | exact LeOs.nil | (intro _) | apply And.intro))
  · simp [Tell.right, Tell.rest, known, countsB, placeB] at h
    have p2 := tellPut_ok (l := [4, 2 * (ws.length : Int)]) (ws := ws) (by simp) hf.wrd (by omega)
    refine FnOk.tree t43 (.f [] hr (.a (.b 13 false) (.w (.f [2] p2 .nil)))) rfl rfl rfl rfl ?_
    simp [leVs, leP, leE, leEs, leL, leC, eqOs, rI, rI_take, wu8, wu16, tellB, ws2, w2]
    all_goals (repeat' (first | omega | exact LeOs.nil | (intro _) | apply And.intro))
  · simp [Tell.right, Tell.rest, known, countsB, placeB] at h
    have p1 := tellPut_ok (l := [5]) (ws := [at_, vl * 65280]) (by simp) (wrd2 (by omega) (by omega)) (by simp)
    refine FnOk.tree t43 (.f [] hr (.a (.b 13 false) (.f [] p1 .nil))) rfl rfl rfl rfl ?_
    simp [leVs, leP, leE, leEs, leL, leC, eqOs, rI, rI_take, wu8, wu16, tellB, ws2, w2]
    all_goals (repeat' (first | omega | exact LeOs.nil | (intro _) | apply And.intro))
  · simp [Tell.right, Tell.rest, known, countsB, placeB] at h
    have p1 := tellPut_ok (l := [6]) (ws := [at_, vl]) (by simp) (wrd2 (by omega) (by omega)) (by simp)
    refine FnOk.tree t43 (.f [] hr (.a (.b 13 false) (.f [] p1 .nil))) rfl rfl rfl rfl ?_
    simp [leVs, leP, leE, leEs, leL, leC, eqOs, rI, rI_take, wu8, wu16, tellB, ws2, w2]
    all_goals (repeat' (first | omega | exact LeOs.nil | (intro _) | apply And.intro))
  · simp [Tell.right, Tell.rest, known, countsB, placeB] at h
    have p1 := tellPut_ok (l := [15]) (ws := [at_, n]) (by simp) (wrd2 (by omega) (by omega)) (by simp)
    refine FnOk.tree t43 (.f [] hr (.a (.b 13 false) (.f [] p1 .nil))) rfl rfl rfl rfl ?_
    simp [leVs, leP, leE, leEs, leL, leC, eqOs, rI, rI_take, wu8, wu16, tellB, ws2, w2]
    all_goals (repeat' (first | omega | exact LeOs.nil | (intro _) | apply And.intro))
  · simp [Tell.right, Tell.rest, known, countsB, placeB] at h
    have p1 := tellPut_ok (l := [16]) (ws := [at_, n]) (by simp) (wrd2 (by omega) (by omega)) (by simp)
    refine FnOk.tree t43 (.f [] hr (.a (.b 13 false) (.f [] p1 .nil))) rfl rfl rfl rfl ?_
    simp [leVs, leP, leE, leEs, leL, leC, eqOs, rI, rI_take, wu8, wu16, tellB, ws2, w2]
    all_goals (repeat' (first | omega | exact LeOs.nil | (intro _) | apply And.intro))
  · simp [Tell.right, Tell.rest, known, countsB, placeB] at h
    have p1 := tellPut_ok (l := [22]) (ws := [at_, an, og]) (by simp) (wrd3 (by omega) (by omega) (by omega)) (by simp)
    refine FnOk.tree t43 (.f [] hr (.a (.b 13 false) (.f [] p1 .nil))) rfl rfl rfl rfl ?_
    simp [leVs, leP, leE, leEs, leL, leC, eqOs, rI, rI_take, wu8, wu16, tellB, ws2, w2]
    all_goals (repeat' (first | omega | exact LeOs.nil | (intro _) | apply And.intro))
  · simp [Tell.right, Tell.rest, known, countsB, placeB] at h
    have p2 := tellPut_ok (l := [23, 2 * (ws.length : Int)]) (ws := ws) (by simp) hf.wrd (by omega)
    refine FnOk.tree t43 (.f [] hr (.a (.b 13 false) (.w (.f [2] p2 .nil)))) rfl rfl rfl rfl ?_
    simp [leVs, leP, leE, leEs, leL, leC, eqOs, rI, rI_take, wu8, wu16, tellB, ws2, w2]
    all_goals (repeat' (first | omega | exact LeOs.nil | (intro _) | apply And.intro))
  · exact absurd rfl h43
theorem rTellBytesNo_ok {a : Tell} (hf : a.Fit) (h : a.right = false) : FnOk Try.prog 55 [a.v] [] (bytR [] 1) [] := by
  have hr := tells6_ok hf
  rw [h] at hr
  exact FnOk.tree t55 (.f [] hr .nil) rfl rfl rfl rfl (by simp [leVs, leP, leE, leEs, leC])
theorem rTellBytesExc_ok {a : Tell} (hf : a.Fit) (h : a.right = true) (he : a.exc ≠ 0) : FnOk Try.prog 55 [a.v] [] (bytR (tellB a) 0) [] := by
  have hr := tells6_ok hf
  rw [h] at hr
  obtain ⟨h1, h2⟩ := tRight_exc h he
  have h1 := failing_rng h1
  have h2 := of_decide_eq_true h2
  have e1 : IntKind.u8.wrap a.exc = a.exc := by rw [wu8]; omega
  have e2 := or128 h2
  have e3 : a.fn.tmod 128 = a.fn % 128 := Int.tmod_eq_emod_of_nonneg h2.1
  have e4 : IntKind.u8.wrap (a.fn % 128 + 128) = a.fn % 128 + 128 := by rw [wu8]; omega
  refine FnOk.tree t55 (.f [] hr (.a (.b 14 true) .nil)) rfl rfl rfl rfl ?_
  simp only [e2]
  simp [leVs, leP, leE, leEs, leL, leC, tellB, he, rI, e1, e3, e4]
  all_goals omega
theorem rTellBytes_ok {a : Tell} (hf : a.Fit) (h : a.right = true) (he : a.exc = 0) (h43 : a.fn ≠ 43) : FnOk Try.prog 55 [a.v] [] (bytR (tellB a) 0) [] := by
  have hr := tells6_ok hf
  have hk := tRight_known h he
  rw [h] at hr
  have hfn := of_decide_eq_true hk
  clear hk
  have hv := hf.val
  have ha := hf.and_
  have ho := hf.or_
  have hbl := hf.bits
  have hwl := hf.words
  obtain ⟨fn, exc, bs, ws, at_, n, vl, an, og, cd, lv, mo, nx, os⟩ := a
  simp only at hfn hv ha ho hbl hwl he h43
  subst he
  rcases hfn with rfl | rfl | rfl | rfl | rfl | rfl | rfl | rfl | rfl | rfl | rfl
  · simp [Tell.right, Tell.rest, known, countsB, placeB] at h
    have hk := rPack_ok (l := bs) (by omega)
    have hpl : (packL bs).length = (bs.length + 7) / 8 := packN_length _ _
    refine FnOk.tree t55 (.f [] hr (.a (.b 14 false) (.w (.f [] hk (.a (.call [] [3] .u []) .nil))))) rfl rfl rfl rfl ?_
    simp [leVs, leP, leE, leEs, leL, leC, eqOs, rI, rI_take, wu8, wu16, tellB, ws2, w2, List.take_of_length_le]
    all_goals (repeat' (first | omega | exact LeOs.nil | (intro _) | apply And.intro))
  · simp [Tell.right, Tell.rest, known, countsB, placeB] at h
    have hk := rPack_ok (l := bs) (by omega)
    have hpl : (packL bs).length = (bs.length + 7) / 8 := packN_length _ _
    refine FnOk.tree t55 (.f [] hr (.a (.b 14 false) (.w (.f [] hk (.a (.call [] [3] .u []) .nil))))) rfl rfl rfl rfl ?_
    simp [leVs, leP, leE, leEs, leL, leC, eqOs, rI, rI_take, wu8, wu16, tellB, ws2, w2, List.take_of_length_le]
    all_goals (repeat' (first | omega | exact LeOs.nil | (intro _) | apply And.intro))
  · simp [Tell.right, Tell.rest, known, countsB, placeB] at h
    have p2 := words_ok (l := [3, 2 * (ws.length : Int)]) (ws := ws) (by simp) hf.wrd (by omega)
    refine FnOk.tree t55 (.f [] hr (.a (.b 14 false) (.w (.f [2] p2 .nil)))) rfl rfl rfl rfl ?_
    simp [leVs, leP, leE, leEs, leL, leC, eqOs, rI, rI_take, wu8, wu16, tellB, ws2, w2]
    all_goals (repeat' (first | omega | exact LeOs.nil | (intro _) | apply And.intro))
  · simp [Tell.right, Tell.rest, known, countsB, placeB] at h
    have p2 := words_ok (l := [4, 2 * (ws.length : Int)]) (ws := ws) (by simp) hf.wrd (by omega)
    refine FnOk.tree t55 (.f [] hr (.a (.b 14 false) (.w (.f [2] p2 .nil)))) rfl rfl rfl rfl ?_
    simp [leVs, leP, leE, leEs, leL, leC, eqOs, rI, rI_take, wu8, wu16, tellB, ws2, w2]
    all_goals (repeat' (first | omega | exact LeOs.nil | (intro _) | apply And.intro))
  · simp [Tell.right, Tell.rest, known, countsB, placeB] at h
    have p1 := two_ok (l := [5]) (n := at_) (by simp [w2]) (by omega)
    have p2 := two_ok (l := [5] ++ w2 at_) (n := vl * 65280) (by simp [w2]) (by omega)
    refine FnOk.tree t55 (.f [] hr (.a (.b 14 false) (.f [] p1 (.f [] p2 .nil)))) rfl rfl rfl rfl ?_
    simp [leVs, leP, leE, leEs, leL, leC, eqOs, rI, rI_take, wu8, wu16, tellB, ws2, w2]
    all_goals (repeat' (first | omega | exact LeOs.nil | (intro _) | apply And.intro))
  · simp [Tell.right, Tell.rest, known, countsB, placeB] at h
    have p1 := two_ok (l := [6]) (n := at_) (by simp [w2]) (by omega)
    have p2 := two_ok (l := [6] ++ w2 at_) (n := vl) (by simp [w2]) (by omega)
    refine FnOk.tree t55 (.f [] hr (.a (.b 14 false) (.f [] p1 (.f [] p2 .nil)))) rfl rfl rfl rfl ?_
    simp [leVs, leP, leE, leEs, leL, leC, eqOs, rI, rI_take, wu8, wu16, tellB, ws2, w2]
    all_goals (repeat' (first | omega | exact LeOs.nil | (intro _) | apply And.intro))
  · simp [Tell.right, Tell.rest, known, countsB, placeB] at h
    have p1 := two_ok (l := [15]) (n := at_) (by simp [w2]) (by omega)
    have p2 := two_ok (l := [15] ++ w2 at_) (n := n) (by simp [w2]) (by omega)
    refine FnOk.tree t55 (.f [] hr (.a (.b 14 false) (.f [] p1 (.f [] p2 .nil)))) rfl rfl rfl rfl ?_
    simp [leVs, leP, leE, leEs, leL, leC, eqOs, rI, rI_take, wu8, wu16, tellB, ws2, w2]
    all_goals (repeat' (first | omega | exact LeOs.nil | (intro _) | apply And.intro))
  · simp [Tell.right, Tell.rest, known, countsB, placeB] at h
    have p1 := two_ok (l := [16]) (n := at_) (by simp [w2]) (by omega)
    have p2 := two_ok (l := [16] ++ w2 at_) (n := n) (by simp [w2]) (by omega)
    refine FnOk.tree t55 (.f [] hr (.a (.b 14 false) (.f [] p1 (.f [] p2 .nil)))) rfl rfl rfl rfl ?_
    simp [leVs, leP, leE, leEs, leL, leC, eqOs, rI, rI_take, wu8, wu16, tellB, ws2, w2]
    all_goals (repeat' (first | omega | exact LeOs.nil | (intro _) | apply And.intro))
  · simp [Tell.right, Tell.rest, known, countsB, placeB] at h
    have p1 := two_ok (l := [22]) (n := at_) (by simp [w2]) (by omega)
    have p2 := two_ok (l := [22] ++ w2 at_) (n := an) (by simp [w2]) (by omega)
    have p3 := two_ok (l := [22] ++ w2 at_ ++ w2 an) (n := og) (by simp [w2]) (by omega)
    refine FnOk.tree t55 (.f [] hr (.a (.b 14 false) (.f [] p1 (.f [] p2 (.f [] p3 .nil))))) rfl rfl rfl rfl ?_
    simp [leVs, leP, leE, leEs, leL, leC, eqOs, rI, rI_take, wu8, wu16, tellB, ws2, w2]
    all_goals (repeat' (first | omega | exact LeOs.nil | (intro _) | apply And.intro))
  · simp [Tell.right, Tell.rest, known, countsB, placeB] at h
    have p2 := words_ok (l := [23, 2 * (ws.length : Int)]) (ws := ws) (by simp) hf.wrd (by omega)
    refine FnOk.tree t55 (.f [] hr (.a (.b 14 false) (.w (.f [2] p2 .nil)))) rfl rfl rfl rfl ?_
    simp [leVs, leP, leE, leEs, leL, leC, eqOs, rI, rI_take, wu8, wu16, tellB, ws2, w2]
    all_goals (repeat' (first | omega | exact LeOs.nil | (intro _) | apply And.intro))
  · exact absurd rfl h43
end Go.Proofs.Ytheaeddojcebjaa
