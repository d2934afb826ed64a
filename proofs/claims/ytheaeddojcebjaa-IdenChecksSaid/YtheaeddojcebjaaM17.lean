/-
  The bytes of a request.
-/
import Derived.Test.YtheaeddojcebjaaM17a
set_option maxRecDepth 100000
set_option maxHeartbeats 4000000
set_option linter.unusedVariables false
set_option linter.unusedSimpArgs false
namespace Go.Proofs.Ytheaeddojcebjaa
open Go.RowKit

theorem putO_ok {l : List Int} {n : Int} (hl : l.length ≤ 100000000000000) (hn : 0 ≤ n ∧ n ≤ 65535) : FnOk Try.prog 134 [vBy l, vI .u16 n] [] (vC (.sl 0 0 (l.length + 2))) [oI .u8 (l ++ w2 n)] := by
  refine FnOk.go t134 [] [2] [] rfl rfl rfl rfl rfl rfl ?_ ?_ trivial (.of ?_)
  · simp only [rI_take, List.take_length]
    simp [oI, rI, wu8, IntKind.bits, fdiv256, w2]
    omega
  · simp <;> omega
  · simp
theorem rPutO_ok {l : List Int} {n : Int} (hl : l.length ≤ 100000000000000) (hn : 0 ≤ n ∧ n ≤ 65535) : FnOk Try.prog 136 [vBy l, vI .u16 n] [] (vC (.sl 0 0 (l.length + 2))) [oI .u8 (l ++ w2 n)] := by
  refine FnOk.go t136 [] [1] [] rfl rfl rfl rfl rfl rfl ?_ ?_ trivial (.of ?_)
  · simp only [rI_take, List.take_length]
    simp [oI, rI, wu8, wu16, IntKind.bits, Int.tdiv_eq_ediv_of_nonneg hn.1, Int.tmod_eq_emod_of_nonneg hn.1, w2]
    omega
  · simp <;> omega
  · simp
theorem twoO_ok {l : List Int} {n : Int} (hl : l.length ≤ 100000000000000) (hn : 0 ≤ n ∧ n ≤ 65535) : FnOk Try.prog 101 [vBy l, vI .i64 n] [] (vC (.sl 0 0 (l.length + 2))) [oI .u8 (l ++ w2 n)] := by
  refine FnOk.tree t101 (.o [] [] (rPutO_ok hl hn) (.a (.call [0] [] .u []) .nil)) rfl rfl rfl rfl ?_
  simp [leVs, leP, leE, leC, eqOs, wu16, Int.emod_eq_of_lt hn.1 (show n < 65536 by omega)]
  exact .of rfl
theorem ws2_app (a b : List Int) : ws2 (a ++ b) = ws2 a ++ ws2 b := by simp [ws2]
/-- What is put behind is one's own, when something is put. -/
theorem askPutO_ok {l ws : List Int} (hl : l.length ≤ 10000000000000) (hw : Wrd ws) (h0 : 0 < ws.length) (hn : ws.length ≤ 10000000000000) : FnOk Try.prog 87 [vBy l, vWd ws] [] (vC (.sl 0 0 (l.length + 2 * ws.length))) [oI .u8 (l ++ ws2 ws)] := by
  refine FnOk.start t87 rfl rfl rfl ?_
  refine Tri.seq (Tri.go [] rfl trivial ?_)
  refine Tri.seq (Tri.seq (Tri.go [] rfl trivial ?_))
  refine Tri.block ?_
  refine Tri.lp (fun m ρ hl => ∃ i, m = ws.length - i ∧ i ≤ ws.length ∧ ((i = 0 ∧ hl = [] ∧ keepE ρ [0, 7, 8, 9] = some [(0, vBy l), (7, vWd ws), (8, vI .i64 ws.length), (9, vI .i64 i)]) ∨
    (0 < i ∧ hl = [oI .u8 (l ++ ws2 (ws.take i))] ∧ keepE ρ [0, 7, 8, 9] = some [(0, vC (.sl 0 0 (l.length + 2 * i))), (7, vWd ws), (8, vI .i64 ws.length), (9, vI .i64 i)]))) ws.length ⟨0, by omega, by omega, .inl ⟨rfl, rfl, keep_of rfl (by simp)⟩⟩ ?_
  rintro m ρ hl' ⟨i, rfl, hi, hh⟩
  have hx := at_wrd hw i
  by_cases h : i < ws.length
  · have hp := putO_ok (l := l ++ ws2 (ws.take i)) (n := ws.getD i 0) (by simp [ws2_len]; omega) hx
    have e1 : (l ++ ws2 (ws.take i)).length + 2 = l.length + 2 * (i + 1) := by simp [ws2_len]; omega
    rw [List.append_assoc, ← ws2_take h, e1] at hp
    rcases hh with ⟨rfl, rfl, hk⟩ | ⟨h1, rfl, hk⟩
    · refine Tri.keep _ hk ?_
      refine Tri.tree (.a (.b 10 true) (.a (.at [.int .u16 (ws.getD 0 0)]) (.o [] [] hp .nil))) rfl ?_
      refine ⟨by simp; omega, ⟨by omega, rfl, rI_get h⟩, trivial, by simp [leVs, leP, leE, leC, ws2], rfl, by omega, again (ws.length - 1) (by omega) ⟨1, rfl, by omega, .inr ⟨by omega, rfl, keep_of rfl (by simp)⟩⟩⟩
    · refine Tri.keep _ hk ?_
      have e2 : l.length + 2 * i = (l ++ ws2 (ws.take i)).length := by simp [ws2_len]; omega
      refine Tri.seq (Tri.go [] rfl trivial ?_)
      refine Tri.seq (Tri.go [.b 10 true] rfl ⟨by simp; omega, trivial⟩ ?_)
      refine Tri.seq (Tri.block (Tri.tree (.a (.at [.int .u16 (ws.getD i 0)]) (.o [] [0] hp .nil)) rfl ⟨⟨by omega, rfl, rI_get h⟩, ?_, ?_, rfl, ?_⟩))
      · exact ⟨by simp [ws2_len]; omega, trivial⟩
      · simp [leVs, leP, leE, leC, ws2_len]; omega
      refine Tri.let [1] [] [0, 7, 8, 9] rfl trivial ?_
      refine Tri.go [] rfl ⟨by omega, trivial⟩ (again (ws.length - (i + 1)) (by omega) ⟨i + 1, rfl, by omega, .inr ⟨by omega, rfl, keep_of rfl (by simp)⟩⟩)
  · have hii : i = ws.length := by omega
    subst hii
    rcases hh with ⟨h1, _⟩ | ⟨h1, rfl, hk⟩
    · omega
    refine Tri.keep _ hk ?_
    refine Tri.go [.b 10 false] rfl ⟨by simp, trivial⟩ (outQ ?_)
    refine Tri.treeR (.a (.call [0] [] .u []) .nil) rfl ?_
    simp [leP, leE, leC]
    exact .of rfl
/-- The bytes of a request that is right. -/
def askB (a : Ask) : List Int :=
  if a.fn = 5 then [a.fn] ++ w2 a.at_ ++ w2 (a.val * 65280)
  else if a.fn = 6 then [a.fn] ++ w2 a.at_ ++ w2 a.val
  else if a.fn = 15 then [a.fn] ++ w2 a.at_ ++ w2 a.n ++ [nBytes a.n] ++ packL a.bits
  else if a.fn = 16 then [a.fn] ++ w2 a.at_ ++ w2 a.n ++ [2 * a.n] ++ ws2 a.words
  else if a.fn = 22 then [a.fn] ++ w2 a.at_ ++ w2 a.and_ ++ w2 a.or_
  else if a.fn = 23 then [a.fn] ++ w2 a.ra ++ w2 a.rn ++ w2 a.at_ ++ w2 a.n ++ [2 * a.n] ++ ws2 a.words
  else if a.fn = 43 then [a.fn, 14, a.code, a.obj]
  else [a.fn] ++ w2 a.at_ ++ w2 a.n
theorem right_known {a : Ask} (h : a.right = true) : known a.fn = true := by simp only [Ask.right, Bool.and_eq_true] at h; exact h.1
theorem nBytes_rng {n : Int} (h : 1 ≤ n ∧ n ≤ 2000) : 1 ≤ nBytes n ∧ nBytes n ≤ 250 := by unfold nBytes; split <;> omega


theorem askBytesNo_ok {a : Ask} (hf : a.Fit) (h : a.right = false) : FnOk Try.prog 44 [a.v] [] (bytR [] 1) [] := by
  have hr := askRight_ok hf
  rw [h] at hr
  exact FnOk.tree t44 (.f [] hr .nil) rfl rfl rfl rfl (by simp [leVs, leP, leE, leEs, leC])
theorem askBytes_ok {a : Ask} (hf : a.Fit) (h : a.right = true) : FnOk Try.prog 44 [a.v] [] (bytR (askB a) 0) [] := by
  have hr := askRight_ok hf
  have hk := right_known h
  rw [h] at hr
  have hfn := of_decide_eq_true hk
  clear hk
  have hv := hf.val
  have ha := hf.and_
  have ho := hf.or_
  have hbl := hf.bits
  have hwl := hf.words
  obtain ⟨fn, at_, n, vl, an, og, bs, ws, ra, rn, cd, ob⟩ := a
  simp only at hfn hv ha ho hbl hwl
  rcases hfn with rfl | rfl | rfl | rfl | rfl | rfl | rfl | rfl | rfl | rfl | rfl
  · simp [Ask.right, Ask.rest, known, countsB, kMost, placeB] at h
    have p1 := askPut_ok (l := [1]) (ws := [at_, n]) (by simp) (wrd2 (by omega) (by omega)) (by simp)
    refine FnOk.tree t44 (.f [] hr (.f [] p1 .nil)) rfl rfl rfl rfl ?_
    simp [leVs, leP, leE, leEs, leL, leC, eqOs, rI, rI_take, wu8, wu16, askB, ws2, w2]
    all_goals (repeat (first | omega | exact LeOs.nil | (intro _) | apply And.intro))
  · simp [Ask.right, Ask.rest, known, countsB, kMost, placeB] at h
    have p1 := askPut_ok (l := [2]) (ws := [at_, n]) (by simp) (wrd2 (by omega) (by omega)) (by simp)
    refine FnOk.tree t44 (.f [] hr (.f [] p1 .nil)) rfl rfl rfl rfl ?_
    simp [leVs, leP, leE, leEs, leL, leC, eqOs, rI, rI_take, wu8, wu16, askB, ws2, w2]
    all_goals (repeat (first | omega | exact LeOs.nil | (intro _) | apply And.intro))
  · simp [Ask.right, Ask.rest, known, countsB, kMost, placeB] at h
    have p1 := askPut_ok (l := [3]) (ws := [at_, n]) (by simp) (wrd2 (by omega) (by omega)) (by simp)
    refine FnOk.tree t44 (.f [] hr (.f [] p1 .nil)) rfl rfl rfl rfl ?_
    simp [leVs, leP, leE, leEs, leL, leC, eqOs, rI, rI_take, wu8, wu16, askB, ws2, w2]
    all_goals (repeat (first | omega | exact LeOs.nil | (intro _) | apply And.intro))
  · simp [Ask.right, Ask.rest, known, countsB, kMost, placeB] at h
    have p1 := askPut_ok (l := [4]) (ws := [at_, n]) (by simp) (wrd2 (by omega) (by omega)) (by simp)
    refine FnOk.tree t44 (.f [] hr (.f [] p1 .nil)) rfl rfl rfl rfl ?_
    simp [leVs, leP, leE, leEs, leL, leC, eqOs, rI, rI_take, wu8, wu16, askB, ws2, w2]
    all_goals (repeat (first | omega | exact LeOs.nil | (intro _) | apply And.intro))
  · simp [Ask.right, Ask.rest, known, countsB, kMost, placeB] at h
    have p1 := askPut_ok (l := [5]) (ws := [at_, vl * 65280]) (by simp) (wrd2 (by omega) (by omega)) (by simp)
    refine FnOk.tree t44 (.f [] hr (.f [] p1 .nil)) rfl rfl rfl rfl ?_
    simp [leVs, leP, leE, leEs, leL, leC, eqOs, rI, rI_take, wu8, wu16, askB, ws2, w2]
    all_goals (repeat (first | omega | exact LeOs.nil | (intro _) | apply And.intro))
  · simp [Ask.right, Ask.rest, known, countsB, kMost, placeB] at h
    have p1 := askPut_ok (l := [6]) (ws := [at_, vl]) (by simp) (wrd2 (by omega) (by omega)) (by simp)
    refine FnOk.tree t44 (.f [] hr (.f [] p1 .nil)) rfl rfl rfl rfl ?_
    simp [leVs, leP, leE, leEs, leL, leC, eqOs, rI, rI_take, wu8, wu16, askB, ws2, w2]
    all_goals (repeat (first | omega | exact LeOs.nil | (intro _) | apply And.intro))
  · simp [Ask.right, Ask.rest, known, countsB, kMost, placeB] at h
    have p1 := askPutO_ok (l := [15]) (ws := [at_, n]) (by simp) (wrd2 (by omega) (by omega)) (by simp) (by simp)
    have hy := bytes_ok n (by omega)
    have hk := pack_ok (l := bs) (by omega)
    have hnb := nBytes_rng (n := n) (by omega)
    have hmb : nBytes n % 256 = nBytes n := by omega
    have hpl : (packL bs).length = (bs.length + 7) / 8 := packN_length _ _
    refine FnOk.tree t44 (.f [] hr (.o [] [] p1 (.f [] hy (.f [] hk (.a (.call [] [3] .u []) .nil))))) rfl rfl rfl rfl ?_
    simp [leVs, leP, leE, leEs, leL, leC, eqOs, rI, rI_take, wu8, wu16, askB, ws2, w2, hmb, List.take_of_length_le]
    all_goals (repeat (first | omega | exact LeOs.nil | (intro _) | apply And.intro))
  · simp [Ask.right, Ask.rest, known, countsB, kMost, placeB] at h
    have p1 := askPutO_ok (l := [16]) (ws := [at_, n]) (by simp) (wrd2 (by omega) (by omega)) (by simp) (by simp)
    have p2 := askPut_ok (l := [16] ++ w2 at_ ++ w2 n ++ [2 * n]) (ws := ws) (by simp [w2]) hf.wrd (by omega)
    refine FnOk.tree t44 (.f [] hr (.o [] [] p1 (.f [2] p2 .nil))) rfl rfl rfl rfl ?_
    simp [leVs, leP, leE, leEs, leL, leC, eqOs, rI, rI_take, wu8, wu16, askB, ws2, w2]
    all_goals (repeat (first | omega | exact LeOs.nil | (intro _) | apply And.intro))
  · simp [Ask.right, Ask.rest, known, countsB, kMost, placeB] at h
    have p1 := askPut_ok (l := [22]) (ws := [at_, an, og]) (by simp) (wrd3 (by omega) (by omega) (by omega)) (by simp)
    refine FnOk.tree t44 (.f [] hr (.f [] p1 .nil)) rfl rfl rfl rfl ?_
    simp [leVs, leP, leE, leEs, leL, leC, eqOs, rI, rI_take, wu8, wu16, askB, ws2, w2]
    all_goals (repeat (first | omega | exact LeOs.nil | (intro _) | apply And.intro))
  · simp [Ask.right, Ask.rest, known, countsB, kMost, placeB] at h
    have p0 := askPut_ok (l := [23]) (ws := [ra, rn]) (by simp) (wrd2 (by omega) (by omega)) (by simp)
    have p1 := askPutO_ok (l := [23] ++ w2 ra ++ w2 rn) (ws := [at_, n]) (by simp [w2]) (wrd2 (by omega) (by omega)) (by simp) (by simp)
    have p2 := askPut_ok (l := [23] ++ w2 ra ++ w2 rn ++ w2 at_ ++ w2 n ++ [2 * n]) (ws := ws) (by simp [w2]) hf.wrd (by omega)
    refine FnOk.tree t44 (.f [] hr (.f [] p0 (.o [] [] p1 (.f [2] p2 .nil)))) rfl rfl rfl rfl ?_
    simp [leVs, leP, leE, leEs, leL, leC, eqOs, rI, rI_take, wu8, wu16, askB, ws2, w2]
    all_goals (repeat (first | omega | exact LeOs.nil | (intro _) | apply And.intro))
  · simp [Ask.right, Ask.rest, known, countsB, kMost, placeB] at h
    refine FnOk.tree t44 (.f [] hr (.w (.a (.call [] [2] .u []) .nil))) rfl rfl rfl rfl ?_
    simp [leVs, leP, leE, leEs, leL, leC, eqOs, rI, rI_take, wu8, wu16, askB, ws2, w2]
    all_goals (repeat (first | omega | exact LeOs.nil | (intro _) | apply And.intro))
theorem rAskBytesNo_ok {a : Ask} (hf : a.Fit) (h : a.right = false) : FnOk Try.prog 69 [a.v] [] (bytR [] 1) [] := by
  have hr := rRight_ok hf
  rw [h] at hr
  exact FnOk.tree t69 (.f [] hr .nil) rfl rfl rfl rfl (by simp [leVs, leP, leE, leEs, leC])
theorem rAskBytes_ok {a : Ask} (hf : a.Fit) (h : a.right = true) : FnOk Try.prog 69 [a.v] [] (bytR (askB a) 0) [] := by
  have hr := rRight_ok hf
  have hk := right_known h
  rw [h] at hr
  have hfn := of_decide_eq_true hk
  clear hk
  have hv := hf.val
  have ha := hf.and_
  have ho := hf.or_
  have hbl := hf.bits
  have hwl := hf.words
  obtain ⟨fn, at_, n, vl, an, og, bs, ws, ra, rn, cd, ob⟩ := a
  simp only at hfn hv ha ho hbl hwl
  rcases hfn with rfl | rfl | rfl | rfl | rfl | rfl | rfl | rfl | rfl | rfl | rfl
  · simp [Ask.right, Ask.rest, known, countsB, kMost, placeB] at h
    have p1 := two_ok (l := [1]) (n := at_) (by simp [w2]) (by omega)
    have p2 := two_ok (l := [1] ++ w2 at_) (n := n) (by simp [w2]) (by omega)
    refine FnOk.tree t69 (.f [] hr (.f [] p1 (.f [] p2 .nil))) rfl rfl rfl rfl ?_
    simp [leVs, leP, leE, leEs, leL, leC, eqOs, rI, rI_take, wu8, wu16, askB, ws2, w2]
    all_goals (repeat (first | omega | exact LeOs.nil | (intro _) | apply And.intro))
  · simp [Ask.right, Ask.rest, known, countsB, kMost, placeB] at h
    have p1 := two_ok (l := [2]) (n := at_) (by simp [w2]) (by omega)
    have p2 := two_ok (l := [2] ++ w2 at_) (n := n) (by simp [w2]) (by omega)
    refine FnOk.tree t69 (.f [] hr (.f [] p1 (.f [] p2 .nil))) rfl rfl rfl rfl ?_
    simp [leVs, leP, leE, leEs, leL, leC, eqOs, rI, rI_take, wu8, wu16, askB, ws2, w2]
    all_goals (repeat (first | omega | exact LeOs.nil | (intro _) | apply And.intro))
  · simp [Ask.right, Ask.rest, known, countsB, kMost, placeB] at h
    have p1 := two_ok (l := [3]) (n := at_) (by simp [w2]) (by omega)
    have p2 := two_ok (l := [3] ++ w2 at_) (n := n) (by simp [w2]) (by omega)
    refine FnOk.tree t69 (.f [] hr (.f [] p1 (.f [] p2 .nil))) rfl rfl rfl rfl ?_
    simp [leVs, leP, leE, leEs, leL, leC, eqOs, rI, rI_take, wu8, wu16, askB, ws2, w2]
    all_goals (repeat (first | omega | exact LeOs.nil | (intro _) | apply And.intro))
  · simp [Ask.right, Ask.rest, known, countsB, kMost, placeB] at h
    have p1 := two_ok (l := [4]) (n := at_) (by simp [w2]) (by omega)
    have p2 := two_ok (l := [4] ++ w2 at_) (n := n) (by simp [w2]) (by omega)
    refine FnOk.tree t69 (.f [] hr (.f [] p1 (.f [] p2 .nil))) rfl rfl rfl rfl ?_
    simp [leVs, leP, leE, leEs, leL, leC, eqOs, rI, rI_take, wu8, wu16, askB, ws2, w2]
    all_goals (repeat (first | omega | exact LeOs.nil | (intro _) | apply And.intro))
  · simp [Ask.right, Ask.rest, known, countsB, kMost, placeB] at h
    have p1 := two_ok (l := [5]) (n := at_) (by simp [w2]) (by omega)
    have p2 := two_ok (l := [5] ++ w2 at_) (n := vl * 65280) (by simp [w2]) (by omega)
    refine FnOk.tree t69 (.f [] hr (.f [] p1 (.f [] p2 .nil))) rfl rfl rfl rfl ?_
    simp [leVs, leP, leE, leEs, leL, leC, eqOs, rI, rI_take, wu8, wu16, askB, ws2, w2]
    all_goals (repeat (first | omega | exact LeOs.nil | (intro _) | apply And.intro))
  · simp [Ask.right, Ask.rest, known, countsB, kMost, placeB] at h
    have p1 := two_ok (l := [6]) (n := at_) (by simp [w2]) (by omega)
    have p2 := two_ok (l := [6] ++ w2 at_) (n := vl) (by simp [w2]) (by omega)
    refine FnOk.tree t69 (.f [] hr (.f [] p1 (.f [] p2 .nil))) rfl rfl rfl rfl ?_
    simp [leVs, leP, leE, leEs, leL, leC, eqOs, rI, rI_take, wu8, wu16, askB, ws2, w2]
    all_goals (repeat (first | omega | exact LeOs.nil | (intro _) | apply And.intro))
  · simp [Ask.right, Ask.rest, known, countsB, kMost, placeB] at h
    have p1 := two_ok (l := [15]) (n := at_) (by simp [w2]) (by omega)
    have p2 := twoO_ok (l := [15] ++ w2 at_) (n := n) (by simp [w2]) (by omega)
    have hy := rBytes_ok n (by omega)
    have hk := rPack_ok (l := bs) (by omega)
    have hnb := nBytes_rng (n := n) (by omega)
    have hmb : nBytes n % 256 = nBytes n := by omega
    have hpl : (packL bs).length = (bs.length + 7) / 8 := packN_length _ _
    refine FnOk.tree t69 (.f [] hr (.f [] p1 (.o [] [] p2 (.f [] hy (.f [] hk (.a (.call [] [3] .u []) .nil)))))) rfl rfl rfl rfl ?_
    simp [leVs, leP, leE, leEs, leL, leC, eqOs, rI, rI_take, wu8, wu16, askB, ws2, w2, hmb, List.take_of_length_le]
    all_goals (repeat (first | omega | exact LeOs.nil | (intro _) | apply And.intro))
  · simp [Ask.right, Ask.rest, known, countsB, kMost, placeB] at h
    have p1 := two_ok (l := [16]) (n := at_) (by simp [w2]) (by omega)
    have p2 := twoO_ok (l := [16] ++ w2 at_) (n := n) (by simp [w2]) (by omega)
    have p3 := words_ok (l := [16] ++ w2 at_ ++ w2 n ++ [2 * n]) (ws := ws) (by simp [w2]) hf.wrd (by omega)
    refine FnOk.tree t69 (.f [] hr (.f [] p1 (.o [] [] p2 (.f [2] p3 .nil)))) rfl rfl rfl rfl ?_
    simp [leVs, leP, leE, leEs, leL, leC, eqOs, rI, rI_take, wu8, wu16, askB, ws2, w2]
    all_goals (repeat (first | omega | exact LeOs.nil | (intro _) | apply And.intro))
  · simp [Ask.right, Ask.rest, known, countsB, kMost, placeB] at h
    have p1 := two_ok (l := [22]) (n := at_) (by simp [w2]) (by omega)
    have p2 := two_ok (l := [22] ++ w2 at_) (n := an) (by simp [w2]) (by omega)
    have p3 := two_ok (l := [22] ++ w2 at_ ++ w2 an) (n := og) (by simp [w2]) (by omega)
    refine FnOk.tree t69 (.f [] hr (.f [] p1 (.f [] p2 (.f [] p3 .nil)))) rfl rfl rfl rfl ?_
    simp [leVs, leP, leE, leEs, leL, leC, eqOs, rI, rI_take, wu8, wu16, askB, ws2, w2]
    all_goals (repeat (first | omega | exact LeOs.nil | (intro _) | apply And.intro))
  · simp [Ask.right, Ask.rest, known, countsB, kMost, placeB] at h
    have p1 := two_ok (l := [23]) (n := ra) (by simp [w2]) (by omega)
    have p2 := two_ok (l := [23] ++ w2 ra) (n := rn) (by simp [w2]) (by omega)
    have p3 := two_ok (l := [23] ++ w2 ra ++ w2 rn) (n := at_) (by simp [w2]) (by omega)
    have p4 := twoO_ok (l := [23] ++ w2 ra ++ w2 rn ++ w2 at_) (n := n) (by simp [w2]) (by omega)
    have p5 := words_ok (l := [23] ++ w2 ra ++ w2 rn ++ w2 at_ ++ w2 n ++ [2 * n]) (ws := ws) (by simp [w2]) hf.wrd (by omega)
    refine FnOk.tree t69 (.f [] hr (.f [] p1 (.f [] p2 (.f [] p3 (.o [] [] p4 (.f [2] p5 .nil)))))) rfl rfl rfl rfl ?_
    simp [leVs, leP, leE, leEs, leL, leC, eqOs, rI, rI_take, wu8, wu16, askB, ws2, w2]
    all_goals (repeat (first | omega | exact LeOs.nil | (intro _) | apply And.intro))
  · simp [Ask.right, Ask.rest, known, countsB, kMost, placeB] at h
    refine FnOk.tree t69 (.f [] hr (.w (.a (.call [] [2] .u []) .nil))) rfl rfl rfl rfl ?_
    simp [leVs, leP, leE, leEs, leL, leC, eqOs, rI, rI_take, wu8, wu16, askB, ws2, w2]
    all_goals (repeat (first | omega | exact LeOs.nil | (intro _) | apply And.intro))
end Go.Proofs.Ytheaeddojcebjaa
