/-
  TxnAlone.
-/
import Derived.Test.YtdbcmocokoondaaT18
set_option maxRecDepth 100000
set_option maxHeartbeats 1000000
set_option linter.unusedVariables false
set_option linter.unusedSimpArgs false
namespace Go.Proofs.Ytdbcmocokoondaa
open Go.RowKit

theorem tR_nil {W : List Cel} {R : List Spn} : ∀ {l : List Cel}, (∀ c ∈ l, restL W (c.1, c.2.1, c.2.1 + 1) = []) → tR W R l = R
  | [], _ => rfl
  | c :: l, h => by
    have : tR W R (c :: l) = tR W (addsS R (restL W (c.1, c.2.1, c.2.1 + 1))) l := rfl
    rw [this, h c (by simp)]
    exact tR_nil (R := R) fun x hx => h x (by simp [hx])
theorem tR_len : ∀ (l : List Cel) (R : List Spn), (tR [] R l).length ≤ R.length + l.length
  | [], R => by simp [tR]
  | c :: l, R => by
    have : tR [] R (c :: l) = tR [] (addsS R (restL [] (c.1, c.2.1, c.2.1 + 1))) l := rfl
    rw [this]
    have h1 := tR_len l (addsS R (restL [] (c.1, c.2.1, c.2.1 + 1)))
    have h2 := addsS_len (restL [] (c.1, c.2.1, c.2.1 + 1)) R
    have h3 := restL_len [] (c.1, c.2.1, c.2.1 + 1)
    simp at h3 ⊢
    omega
abbrev e9 : En := ⟨9, 100, 100⟩
abbrev s5 : St := ⟨5, 0, 1000, []⟩
def L6 (l : List Cel) : Chs := l.map fun c => (keyC c, [(6, c.2.2)])
abbrev s6 (l : List Cel) : St := ⟨6, 0 + l.length, 1000, L6 l⟩
theorem g5 : StGo s5 := stGo_small rfl ⟨by decide, by decide⟩ ⟨by decide, by decide⟩ ⟨by decide, by decide⟩
theorem g6 {l : List Cel} (hl : l.length ≤ 12) : StGo (s6 l) := by
  refine ⟨by simp [L6]; omega, fun e he => ?_, ⟨by simp, by simp⟩, ⟨by simp only; omega, by simp only; omega⟩, ⟨by simp, by simp⟩⟩
  simp [L6] at he
  obtain ⟨a, b, c, _, rfl⟩ := he
  simp
theorem word_own {L : Chs} {l : List Cel} {q : Int} (hs : Srt l) (hl : AllOk l) {c : Cel} (hc : c ∈ l) : wordAt L l q c.1 c.2.1 = c.2.2 := by
  unfold wordAt
  rw [getL_mem hs hl hc]
  rfl
theorem word_none {t a q : Int} : wordAt [] [] q t a = 0 := rfl
theorem word_6 {l : List Cel} (hs : Srt l) {c : Cel} (hc : c ∈ l) {q : Int} : wordAt (L6 l) [] q c.1 c.2.1 = if 6 ≤ q then c.2.2 else 0 := by
  have e : wordAt (L6 l) [] q c.1 c.2.1 = atL (chK (L6 l) (keyC c)) q := rfl
  rw [e]
  unfold L6
  rw [chK_srt hs c hc]
  by_cases h : 6 ≤ q
  · simp [atL, upL, bsF, h]
  · simp [atL, upL, bsF, h]
theorem once_12 {l : List Cel} (hs : Srt l) (hl : AllOk l) (h0 : 0 < l.length) : onceL l = true := by
  unfold onceL
  rw [once_srt hs hl (by simp)]
  simp [h0]
section
variable {l : List Cel} (hs : Srt l) (hl : AllOk l) (h0 : 0 < l.length) (h12 : l.length ≤ 12)
include hs hl h0 h12
theorem wr_12 : writeR e9 ⟨2, [(0, 1, ⟨5, [], []⟩), (1, 2, ⟨5, [], []⟩)]⟩ 1 l = (0, ⟨2, [(0, 1, ⟨5, [], l⟩), (1, 2, ⟨5, [], []⟩)]⟩) := by
  have hp := puts_srt hs hl l.length (by omega)
  rw [List.take_length] at hp
  have hv : vwrR [] l 100 = (l, 0) := by
    unfold vwrR
    rw [hp, if_neg (by omega)]
  unfold writeR
  rw [srt_may hs hl h0]
  show ((vwrR [] l 100).2, keepR ⟨2, [(0, 1, ⟨5, [], []⟩), (1, 2, ⟨5, [], []⟩)]⟩ 1 ⟨5, [], (vwrR [] l 100).1⟩ (vwrR [] l 100).2) = _
  rw [hv]
  rfl
theorem com_12 {R : List Spn} : comR s5 ⟨2, [(0, 1, ⟨5, [], l⟩), (1, 2, ⟨5, R, []⟩)]⟩ 1 = (6, 0, s6 l, ⟨2, [(1, 2, ⟨5, R, []⟩)]⟩) := by
  have hi : insR s5 l = (6, 0, s6 l) := by
    unfold insR
    rw [once_12 hs hl h0, if_neg (by simp), if_neg (by simp), if_neg (by simp; omega)]
    rw [adds_srt _ hs (by simp)]
    rfl
  have e : comR s5 ⟨2, [(0, 1, ⟨5, [], l⟩), (1, 2, ⟨5, R, []⟩)]⟩ 1 = if l.length = 0 then (5, 0, s5, ⟨2, [(1, 2, ⟨5, R, []⟩)]⟩) else ((insR s5 l).1, (insR s5 l).2.1, (insR s5 l).2.2, ⟨2, [(1, 2, ⟨5, R, []⟩)]⟩) := rfl
  rw [e, if_neg (by omega), hi]
end
theorem txnAlone_ok {ks : List Int} (hk : ∀ x ∈ ks, b64 x) (hm : ks.length ≤ 9223372036854775807) {cm : Bool} : FnOk Try.prog 3 [vD (lI .i64 ks), vB cm] [] (vB true) [] := by
  have ha := awake21_ok
  by_cases hn1 : ks.length < 1
  · refine FnOk.tree t3 (.a (.b 14 true) (.a (.b 22 true) (.f [] ha .nil))) rfl rfl rfl rfl ?_
    repeat' apply And.intro
    all_goals first | trivial | rfl | (exact decide_eq_true (by omega)) | simp [leVs, leP, leE, leL, leC, rwC, rwS, rI]
  by_cases hn2 : 12 < ks.length
  · refine FnOk.tree t3 (.a (.b 14 false) (.a (.b 19 true) (.a (.b 22 true) (.f [] ha .nil)))) rfl rfl rfl rfl ?_
    repeat' apply And.intro
    all_goals first | trivial | rfl | (exact decide_eq_false (by omega)) | (exact decide_eq_true (by omega)) | simp [leVs, leP, leE, leL, leC, rwC, rwS, rI]
  have hmin : min ks.length 20 = ks.length := by omega
  have hc := cells0_ok hk hm
  rw [hmin] at hc
  obtain ⟨hs, hl, h0⟩ := cellsG_srt ks ks.length (by omega)
  have h0 := h0 (by omega)
  have h12 : (cellsG ks ks.length).length ≤ 12 := by have := cellsG_len ks ks.length; omega
  generalize cellsG ks ks.length = l at *
  have h1 : FnOk Try.prog 6 [vI .u64 5, vI .i64 1000] [] (vC (.ptr 0 0)) [stB s5 1, stM s5] := sNew_ok (a := 5) (m := 1000)
  have h2 : FnOk Try.prog 7 [vC (.ptr 0 0), vI .i64 9, vI .i64 100, vI .i64 100] [stB s5 1, stM s5] (vC (.ptr 2 0)) [stB s5 1, stM s5, enL e9, eM ⟨0, []⟩] := eNew_ok (a := 9) (b := 100) (c := 100)
  have h3 := eO_begin (e := e9) (s := s5) (M := ⟨0, []⟩) (M' := ⟨1, [(0, 1, ⟨5, [], []⟩)]⟩) (k := 1) (r := 0) rfl
  have h4 := eO_begin (e := e9) (s := s5) (M := ⟨1, [(0, 1, ⟨5, [], []⟩)]⟩) (M' := ⟨2, [(0, 1, ⟨5, [], []⟩), (1, 2, ⟨5, [], []⟩)]⟩) (k := 2) (r := 0) rfl
  have vn : ∀ q, VwOk ⟨q, [], []⟩ := fun q => ⟨by simp, by simp, by simp, by simp⟩
  have h5 := eO_write (e := e9) (s := s5) (l := l) (by omega) (vwOk_one rfl (vn 5)) (wr_12 hs hl h0 h12)
  have h6 := sLast_ok (s := s5)
  have h7 := sVers_ok (s := s5)
  have hce : ∀ c ∈ l, CeB c := fun c hc => by have := (hl c hc).ad; constructor <;> omega
  have hrest : ∀ i, tR l [] (l.take i) = [] := fun i => tR_nil fun c hc => restL_mem hs hl (List.mem_of_mem_take hc)
  have h8 := tells_ok (e := e9) (s := s5) (M := ⟨2, [(0, 1, ⟨5, [], l⟩), (1, 2, ⟨5, [], []⟩)]⟩) (k := 1) (q := 5) (R := []) (W := l) (l := l) (own := true) g5.ok rfl hl (by omega) (by simp) (by omega) hce (fun c hc => word_own hs hl hc) (fun i _ => by rw [hrest]; decide) (by decide)
  have hr0 : tR l [] l = [] := by have := hrest l.length; rwa [List.take_length] at this
  rw [hr0, Mo.set_self rfl] at h8
  have hlen : ∀ (R : List Spn) (i : Nat), i ≤ l.length → R.length ≤ 50 → ((tR [] R (l.take i)).length : Int) ≤ 100 := fun R i hi hR => by
    have := tR_len (l.take i) R
    rw [List.length_take] at this
    omega
  have h9 := tells_ok (e := e9) (s := s5) (M := ⟨2, [(0, 1, ⟨5, [], l⟩), (1, 2, ⟨5, [], []⟩)]⟩) (k := 2) (q := 5) (R := []) (W := []) (l := l) (own := false) g5.ok rfl hl (by omega) (by simp) (by simp) (by simp) (fun c hc => word_none) (fun i hi => hlen [] i hi (by simp)) (by decide)
  have hRa1 := tR_len l []
  have hRa2 := tR_rng (W := []) (by simp) l [] (by simp) hl
  generalize tR [] [] l = Ra at *
  have h9 : FnOk Try.prog 13 [vC (.ptr 0 0), vI .i64 2, vCl l, vB false] (eO e9 s5 ⟨2, [(0, 1, ⟨5, [], l⟩), (1, 2, ⟨5, [], []⟩)]⟩) (vB true) (eO e9 s5 ⟨2, [(0, 1, ⟨5, [], l⟩), (1, 2, ⟨5, Ra, []⟩)]⟩) := h9
  simp at hRa1
  cases cm with
  | true =>
    have c1 := eO_commit (e := e9) g5 (vwOk_one rfl ⟨by simp, by simp only; omega, by simp, hce⟩) (com_12 hs hl h0 h12 (R := Ra))
    have c2 := sLast_ok (s := s6 l)
    have c3 := eO_begin (e := e9) (s := s6 l) (M := ⟨2, [(1, 2, ⟨5, Ra, []⟩)]⟩) (M' := ⟨3, [(1, 2, ⟨5, Ra, []⟩), (2, 3, ⟨6, [], []⟩)]⟩) (k := 3) (r := 0) rfl
    have c4 := tells_ok (e := e9) (s := s6 l) (M := ⟨3, [(1, 2, ⟨5, Ra, []⟩), (2, 3, ⟨6, [], []⟩)]⟩) (k := 2) (q := 5) (R := Ra) (W := []) (l := l) (own := false) (g6 h12).ok rfl hl (by omega) hRa2 (by simp) (by simp) (fun c hc => by rw [word_6 hs hc]; rfl) (fun i hi => hlen Ra i hi (by omega)) (by decide)
    generalize tR [] Ra l = Rb at *
    have c4 : FnOk Try.prog 13 [vC (.ptr 0 0), vI .i64 2, vCl l, vB false] (eO e9 (s6 l) ⟨3, [(1, 2, ⟨5, Ra, []⟩), (2, 3, ⟨6, [], []⟩)]⟩) (vB true) (eO e9 (s6 l) ⟨3, [(1, 2, ⟨5, Rb, []⟩), (2, 3, ⟨6, [], []⟩)]⟩) := c4
    have c5 := tells_ok (e := e9) (s := s6 l) (M := ⟨3, [(1, 2, ⟨5, Rb, []⟩), (2, 3, ⟨6, [], []⟩)]⟩) (k := 3) (q := 6) (R := []) (W := []) (l := l) (own := true) (g6 h12).ok rfl hl (by omega) (by simp) (by simp) (by simp) (fun c hc => by rw [word_6 hs hc]; rfl) (fun i hi => hlen [] i hi (by simp)) (by decide)
    generalize tR [] [] l = Rc at *
    have c5 : FnOk Try.prog 13 [vC (.ptr 0 0), vI .i64 3, vCl l, vB true] (eO e9 (s6 l) ⟨3, [(1, 2, ⟨5, Rb, []⟩), (2, 3, ⟨6, [], []⟩)]⟩) (vB true) (eO e9 (s6 l) ⟨3, [(1, 2, ⟨5, Rb, []⟩), (2, 3, ⟨6, Rc, []⟩)]⟩) := c5
    have c6 : FnOk Try.prog 15 [vC (.ptr 0 0), vI .i64 1] (eO e9 (s6 l) ⟨3, [(1, 2, ⟨5, Rb, []⟩), (2, 3, ⟨6, Rc, []⟩)]⟩) (vB false) (eO e9 (s6 l) ⟨3, [(1, 2, ⟨5, Rb, []⟩), (2, 3, ⟨6, Rc, []⟩)]⟩) := abort_ok
    refine FnOk.tree t3 (.a (.b 14 false) (.a (.b 19 false) (.f [] ha (.a (.b 22 false) (.o [] [] h1 (.o [0, 1] [] h2 (.f [] hc (.o [2, 0, 1, 3] [] h3 (.a (.b 38 false) (.o [2, 0, 1, 3] [] h4 (.a (.b 43 false) (.o [2, 0, 1, 3] [] h5 (.a (.b 49 false) (.o [0, 1] [] h6 (.a (.b 54 false) (.o [0, 1] [] h7 (.a (.b 58 false)
      (.o [2, 0, 1, 3] [] h8 (.a (.b 63 false) (.o [2, 0, 1, 3] [] h9 (.a (.b 68 false) (.a (.b 69 true) (.o [2, 0, 1, 3] [] c1 (.a (.b 77 false) (.a (.b 80 false) (.o [0, 1] [] c2 (.a (.b 88 true) (.o [2, 0, 1, 3] [] c3 (.a (.b 93 true) (.o [2, 0, 1, 3] [] c4 (.a (.b 98 true) (.o [2, 0, 1, 3] [] c5 (.a (.b 104 true) (.o [2, 0, 1, 3] [] c6 .nil)))))))))))))))))))))))))))))))))) rfl rfl rfl rfl ?_
    repeat' apply And.intro
    all_goals first | trivial | rfl | (exact decide_eq_false (by omega)) | simp [leVs, leP, leE, leL, leC, rwC, rwS, rI]
  | false =>
    have c1 : FnOk Try.prog 15 [vC (.ptr 0 0), vI .i64 1] (eO e9 s5 ⟨2, [(0, 1, ⟨5, [], l⟩), (1, 2, ⟨5, Ra, []⟩)]⟩) (vB true) (eO e9 s5 ⟨2, [(1, 2, ⟨5, Ra, []⟩)]⟩) := abort_ok
    have c3 := eO_begin (e := e9) (s := s5) (M := ⟨2, [(1, 2, ⟨5, Ra, []⟩)]⟩) (M' := ⟨3, [(1, 2, ⟨5, Ra, []⟩), (2, 3, ⟨5, [], []⟩)]⟩) (k := 3) (r := 0) rfl
    have c4 := tells_ok (e := e9) (s := s5) (M := ⟨3, [(1, 2, ⟨5, Ra, []⟩), (2, 3, ⟨5, [], []⟩)]⟩) (k := 2) (q := 5) (R := Ra) (W := []) (l := l) (own := false) g5.ok rfl hl (by omega) hRa2 (by simp) (by simp) (fun c hc => word_none) (fun i hi => hlen Ra i hi (by omega)) (by decide)
    generalize tR [] Ra l = Rb at *
    have c4 : FnOk Try.prog 13 [vC (.ptr 0 0), vI .i64 2, vCl l, vB false] (eO e9 s5 ⟨3, [(1, 2, ⟨5, Ra, []⟩), (2, 3, ⟨5, [], []⟩)]⟩) (vB true) (eO e9 s5 ⟨3, [(1, 2, ⟨5, Rb, []⟩), (2, 3, ⟨5, [], []⟩)]⟩) := c4
    have c5 := tells_ok (e := e9) (s := s5) (M := ⟨3, [(1, 2, ⟨5, Rb, []⟩), (2, 3, ⟨5, [], []⟩)]⟩) (k := 3) (q := 5) (R := []) (W := []) (l := l) (own := false) g5.ok rfl hl (by omega) (by simp) (by simp) (by simp) (fun c hc => word_none) (fun i hi => hlen [] i hi (by simp)) (by decide)
    generalize tR [] [] l = Rc at *
    have c5 : FnOk Try.prog 13 [vC (.ptr 0 0), vI .i64 3, vCl l, vB false] (eO e9 s5 ⟨3, [(1, 2, ⟨5, Rb, []⟩), (2, 3, ⟨5, [], []⟩)]⟩) (vB true) (eO e9 s5 ⟨3, [(1, 2, ⟨5, Rb, []⟩), (2, 3, ⟨5, Rc, []⟩)]⟩) := c5
    have c6 : FnOk Try.prog 15 [vC (.ptr 0 0), vI .i64 1] (eO e9 s5 ⟨3, [(1, 2, ⟨5, Rb, []⟩), (2, 3, ⟨5, Rc, []⟩)]⟩) (vB false) (eO e9 s5 ⟨3, [(1, 2, ⟨5, Rb, []⟩), (2, 3, ⟨5, Rc, []⟩)]⟩) := abort_ok
    refine FnOk.tree t3 (.a (.b 14 false) (.a (.b 19 false) (.f [] ha (.a (.b 22 false) (.o [] [] h1 (.o [0, 1] [] h2 (.f [] hc (.o [2, 0, 1, 3] [] h3 (.a (.b 38 false) (.o [2, 0, 1, 3] [] h4 (.a (.b 43 false) (.o [2, 0, 1, 3] [] h5 (.a (.b 49 false) (.o [0, 1] [] h6 (.a (.b 54 false) (.o [0, 1] [] h7 (.a (.b 58 false)
      (.o [2, 0, 1, 3] [] h8 (.a (.b 63 false) (.o [2, 0, 1, 3] [] h9 (.a (.b 68 false) (.a (.b 69 false) (.o [2, 0, 1, 3] [] c1 (.a (.b 83 false) (.o [0, 1] [] h6 (.a (.b 88 true) (.o [2, 0, 1, 3] [] c3 (.a (.b 93 true) (.o [2, 0, 1, 3] [] c4 (.a (.b 98 true) (.o [2, 0, 1, 3] [] c5 (.a (.b 104 true) (.o [2, 0, 1, 3] [] c6 .nil))))))))))))))))))))))))))))))))) rfl rfl rfl rfl ?_
    repeat' apply And.intro
    all_goals first | trivial | rfl | (exact decide_eq_false (by omega)) | simp [leVs, leP, leE, leL, leC, rwC, rwS, rI]
end Go.Proofs.Ytdbcmocokoondaa
