/-
  File.Do, and TellFits.
-/
import Derived.Test.YtheaeddojcebjaaC3
import Derived.Test.YtheaeddojcebjaaM51
set_option maxRecDepth 100000
set_option maxHeartbeats 1000000
set_option linter.unusedVariables false
set_option linter.unusedSimpArgs false
namespace Go.Proofs.Ytheaeddojcebjaa
open Go.RowKit

def Vok (l : List Cel) : Prop := ∀ c ∈ l, 0 ≤ c.2.2 ∧ c.2.2 ≤ 65535
theorem Vok.get {l : List Cel} (h : Vok l) (t a : Int) : 0 ≤ (getL l t a).1 ∧ (getL l t a).1 ≤ 65535 := by
  unfold getL
  split
  · rename_i c hc
    have := h c (List.mem_of_getElem? hc)
    split <;> simp [this]
  · simp
theorem Vok.put {l : List Cel} (h : Vok l) {c : Cel} (hc : 0 ≤ c.2.2 ∧ c.2.2 ≤ 65535) : Vok (putL l c) := fun x hx => by
  unfold putL at hx
  rcases List.mem_append.1 hx with hx | hx
  · exact h x (List.mem_of_mem_take hx)
  · rcases List.mem_cons.1 hx with rfl | hx
    · exact hc
    · exact h x (List.mem_of_mem_drop hx)
theorem Vok.set : ∀ {cs l : List Cel}, Vok l → Vok cs → Vok (setL l cs)
  | [], l, h, _ => h
  | c :: cs, l, h, hc => Vok.set (cs := cs) (h.put (hc c (by simp))) fun x hx => hc x (by simp [hx])
theorem vok_cellsG (ks : List Int) : ∀ n, Vok (cellsG ks n)
  | 0 => fun x hx => by simp [cellsG] at hx
  | n + 1 => by
    by_cases h : n < ks.length
    · rw [cellsG_succ h]
      refine (vok_cellsG ks n).put ?_
      have := digR ks[n] 1024 (n := 65536) (by omega)
      simp only [cellG]
      split <;> omega
    · have : cellsG ks (n + 1) = cellsG ks n := by unfold cellsG; rw [List.take_of_length_le (by omega), List.take_of_length_le (by omega)]
      rw [this]
      exact vok_cellsG ks n
theorem cellG_ok (k : Int) : CelOk (cellG k) := by
  have h1 := digR k 4 (n := 16) (by omega)
  have h2 : 0 ≤ k % 4 ∧ k % 4 < 4 := ⟨Int.emod_nonneg _ (by omega), Int.emod_lt_of_pos _ (by omega)⟩
  unfold CelOk cellG keyG
  simp only
  split <;> omega
theorem putP_ok {P : Cel → Prop} {l : List Cel} {c : Cel} (h : ∀ x ∈ l, P x) (hc : P c) : ∀ x ∈ putL l c, P x := fun x hx => by
  unfold putL at hx
  rcases List.mem_append.1 hx with hx | hx
  · exact h x (List.mem_of_mem_take hx)
  · rcases List.mem_cons.1 hx with rfl | hx
    · exact hc
    · exact h x (List.mem_of_mem_drop hx)
theorem cellsG_ok (ks : List Int) : ∀ n, ∀ c ∈ cellsG ks n, CelOk c
  | 0 => fun x hx => by simp [cellsG] at hx
  | n + 1 => by
    by_cases h : n < ks.length
    · rw [cellsG_succ h]
      exact putP_ok (cellsG_ok ks n) (cellG_ok _)
    · have : cellsG ks (n + 1) = cellsG ks n := by unfold cellsG; rw [List.take_of_length_le (by omega), List.take_of_length_le (by omega)]
      rw [this]
      exact cellsG_ok ks n
theorem rTab_rng (fn : Int) : 0 ≤ (rTab fn).1 ∧ (rTab fn).1 ≤ 3 := by
  unfold rTab
  repeat' split
  all_goals simp
theorem layL_mem {t a : Int} {ws : List Int} {n : Nat} {c : Cel} (h : c ∈ layL t a ws n) : c.1 = t ∧ a ≤ c.2.1 ∧ c.2.1 < a + n ∧ c.2.2 = ws.getD (c.2.1 - a).toNat 0 := by
  obtain ⟨i, hi, rfl⟩ := List.mem_map.1 h
  rw [List.mem_range] at hi
  refine ⟨rfl, by simp only; omega, by simp only; omega, ?_⟩
  simp only
  rw [show a + (i : Int) - a = i by omega]
  simp
def readL (l : List Cel) (t f : Int) (n : Nat) : List Int := (List.range n).map fun j : Nat => (getL l t (f + j)).1
theorem readL_len (l : List Cel) (t f : Int) (n : Nat) : (readL l t f n).length = n := by simp [readL]
theorem readL_succ (l : List Cel) (t f : Int) (n : Nat) : readL l t f (n + 1) = readL l t f n ++ [(getL l t (f + n)).1] := by simp [readL, List.range_succ]
theorem readL_wrd {l : List Cel} (h : Vok l) (t f : Int) (n : Nat) : Wrd (readL l t f n) := fun x hx => by
  obtain ⟨j, _, rfl⟩ := List.mem_map.1 hx
  exact h.get _ _
def tellD (a : Ask) (l : List Cel) : List Sp → Tell
  | [] => echoT a
  | s :: _ => shownT a (readL l (rTab a.fn).1 s.2.1 (s.2.2 - s.2.1).toNat)
theorem do2_ok {a : Ask} (hf : a.Fit) (hr : a.right = true) {l : List Cel} (hv : Vok l) (hl : l.length ≤ 1000000)
    (hR : (spans a).1 = [] ∨ ∃ s, (spans a).1 = [s] ∧ rightS s = true) (hW : (spans a).2 = [] ∨ ∃ s, (spans a).2 = [s] ∧ rightS s = true) (hfn : a.fn ≠ 43) :
    ∃ l', Vok l' ∧ FnOk Try.prog 66 [vC (.ptr 0 0), a.v] [oFl l] (.tup [.agg (tellD a l' (spans a).1).cs, .c (.t (.bool true))]) [oFl l'] := by
  have hsp := rSpans_ok hf
  have hrr := rRight_ok hf
  rw [hr] at hrr
  have hg := fGet_ok (l := l) (by omega) (t := (rTab a.fn).1) (a := a.at_)
  have hgv := hv.get (rTab a.fn).1 a.at_
  obtain ⟨ws, hww, hwl, hwa, hc⟩ := cells21_ok hf hr hgv
  have ht := rTable_ok a.fn
  have hec := rEcho_ok hf
  have hlc : ∀ c ∈ layL (rTab a.fn).1 a.at_ ws ws.length, CelOk c := by
    intro c hc
    obtain ⟨e1, e2, e3, _⟩ := layL_mem hc
    have := rTab_rng a.fn
    rcases hwa with rfl | ⟨t, hwa⟩
    · simp at e3; omega
    rw [hwa] at hW
    rcases hW with hW | ⟨s, hW, hs⟩
    · cases hW
    · cases hW
      simp [rightS] at hs
      refine ⟨by omega, by omega, by omega, by omega⟩
  have hlv : Vok (layL (rTab a.fn).1 a.at_ ws ws.length) := fun c hc => by
    obtain ⟨_, _, _, e4⟩ := layL_mem hc
    rw [e4]
    exact wrd_at6 hww _
  have hset := fSet_ok (l := l) (cs := layL (rTab a.fn).1 a.at_ ws ws.length) (by rw [layL_len]; omega) hlc
  have hlen := setL_len (layL (rTab a.fn).1 a.at_ ws ws.length) l
  rw [layL_len] at hlen
  refine ⟨_, hv.set hlv, ?_⟩
  have hv' := hv.set hlv
  generalize setL l (layL (rTab a.fn).1 a.at_ ws ws.length) = l' at *
  generalize layL (rTab a.fn).1 a.at_ ws ws.length = cs at *
  clear hwa
  generalize hsr : spans a = RW at *
  obtain ⟨R, W⟩ := RW
  simp only at hR hW
  refine FnOk.start t66 rfl rfl rfl ?_
  refine Tri.seq (Tri.go [] rfl trivial ?_)
  refine Tri.seq (Tri.tree (.f [] hsp .nil) rfl ⟨trivial, by simp [leVs, leP, leE, leL, leC], ?_⟩)
  refine Tri.mid (fun ρ hl => hl = [oFl l, .box a.cs, .box tzC] ∧ keepE ρ [0, 3, 4, 6] = some [(0, vC (.ptr 0 0)), (3, vC (.ptr 1 0)), (4, vC (.ptr 2 0)), (6, vD (lSp R))]) ?_ ?_
  · have hfn' : (a.fn == 43) = false := by simpa using hfn
    rcases hR with rfl | ⟨s, rfl, hs⟩
    · rcases hW with rfl | ⟨u, rfl, hu⟩
      · refine Tri.tree (.f [] hrr (.a (.b 20 false) (.a (.b 25 false) (.a (.b 29 false) (.a (.b 37 false) (.a (.b 41 false) (.a (.b 48 false) .nil))))))) rfl ⟨trivial, by simp [leVs, leP, leE, leL, leC], rfl, by simpa using hfn', rfl, rfl, rfl, rfl, rfl, keep_of rfl rfl⟩
      · have h2 := right12_ok (s := u)
        rw [hu] at h2
        refine Tri.tree (.f [] hrr (.a (.b 20 false) (.a (.b 25 false) (.a (.b 29 false) (.a (.b 37 false) (.a (.b 41 true) (.a (.at [.int .i64 u.1, .int .i64 u.2.1, .int .i64 u.2.2]) (.f [] h2 (.a (.b 48 false) .nil))))))))) rfl ⟨trivial, by simp [leVs, leP, leE, leL, leC], rfl, by simpa using hfn', rfl, rfl, rfl, ⟨by simp, rfl, rfl⟩, by simp, trivial, by simp [leVs, leP, leE, leL, leC], rfl, rfl, keep_of rfl rfl⟩
    · have h1 := right12_ok (s := s)
      rw [hs] at h1
      rcases hW with rfl | ⟨u, rfl, hu⟩
      · refine Tri.tree (.f [] hrr (.a (.b 20 false) (.a (.b 25 false) (.a (.b 29 true) (.a (.at [.int .i64 s.1, .int .i64 s.2.1, .int .i64 s.2.2]) (.f [] h1 (.a (.b 37 false) (.a (.b 41 false) (.a (.b 48 false) .nil))))))))) rfl ⟨trivial, by simp [leVs, leP, leE, leL, leC], rfl, by simpa using hfn', rfl, ⟨by simp, rfl, rfl⟩, by simp, trivial, by simp [leVs, leP, leE, leL, leC], rfl, rfl, rfl, rfl, keep_of rfl rfl⟩
      · have h2 := right12_ok (s := u)
        rw [hu] at h2
        refine Tri.tree (.f [] hrr (.a (.b 20 false) (.a (.b 25 false) (.a (.b 29 true) (.a (.at [.int .i64 s.1, .int .i64 s.2.1, .int .i64 s.2.2]) (.f [] h1 (.a (.b 37 false) (.a (.b 41 true) (.a (.at [.int .i64 u.1, .int .i64 u.2.1, .int .i64 u.2.2]) (.f [] h2 (.a (.b 48 false) .nil))))))))))) rfl ⟨trivial, by simp [leVs, leP, leE, leL, leC], rfl, by simpa using hfn', rfl, ⟨by simp, rfl, rfl⟩, by simp, trivial, by simp [leVs, leP, leE, leL, leC], rfl, rfl, ⟨by simp, rfl, rfl⟩, by simp, trivial, by simp [leVs, leP, leE, leL, leC], rfl, rfl, keep_of rfl rfl⟩
  rintro ρ hl' ⟨rfl, hkk⟩
  refine Tri.keep _ hkk ?_
  refine Tri.seq (Tri.tree (.f [] ht .nil) rfl ⟨trivial, by simp [leVs, leP, leE, leL, leC], ?_⟩)
  refine Tri.seq (Tri.tree (.o [0] [] hg (.f [] hc (.o [0] [] hset .nil))) rfl ⟨trivial, by simp [leVs, leP, leE, leL, leC], rfl, trivial, by simp [leVs, leP, leE, leL, leC], trivial, by simp [leVs, leP, leE, leL, leC], rfl, ?_⟩)
  rcases hR with rfl | ⟨s, rfl, hs⟩
  · refine Tri.treeR (.a (.b 68 true) (.f [] hec (.a (.call [0] [] .u []) .nil))) rfl ⟨rfl, trivial, by simp [leVs, leP, leE, leL, leC], ⟨trivial, trivial⟩, .refl _, by simp [leP, leE, leEs, leL, leC, tellD]⟩
  have hsr := hs
  simp [rightS] at hsr
  obtain ⟨k, hk⟩ := Int.eq_ofNat_of_zero_le (show 0 ≤ s.2.2 - s.2.1 by omega)
  have hkk2 : (s.2.2 - s.2.1).toNat = k := by omega
  refine Tri.seq (Tri.tree (.a (.b 68 false) .nil) rfl ⟨rfl, ?_⟩)
  refine Tri.seq (Tri.go [] rfl trivial ?_)
  refine Tri.mid (fun ρ hl => hl = [oFl l', .box a.cs, .box tzC, .arr 1 (rI .u16 (readL l' (rTab a.fn).1 s.2.1 k))] ∧ keepE ρ [0, 3, 4, 10] = some [(0, vC (.ptr 0 0)), (3, vC (.ptr 1 0)), (4, vC (.ptr 2 0)), (10, vC (.sl 3 0 k))]) ?_ ?_
  · refine Tri.seq (Tri.tree (.a (.at [.int .i64 s.1, .int .i64 s.2.1, .int .i64 s.2.2]) .nil) rfl ⟨⟨by simp, rfl, rfl⟩, ?_⟩)
    refine Tri.block ?_
    refine Tri.own 10 1 (by omega) rfl ?_
    refine Tri.lp (fun q ρ hl => ∃ i : Nat, q = k - i ∧ i ≤ k ∧ hl = [oFl l', .box a.cs, .box tzC, .arr 1 (rI .u16 (readL l' (rTab a.fn).1 s.2.1 i))] ∧ keepE ρ [0, 3, 4, 6, 8, 10, 11] = some [(0, vC (.ptr 0 0)), (3, vC (.ptr 1 0)), (4, vC (.ptr 2 0)), (6, vD (lSp [s])), (8, vI .i64 (rTab a.fn).1), (10, vC (.sl 3 0 i)), (11, vI .i64 (s.2.1 + i))]) k ⟨0, by omega, by omega, rfl, keep_of rfl (by simp)⟩ ?_
    rintro q ρ hl' ⟨i, rfl, hi, rfl, hkk⟩
    refine Tri.keep _ hkk ?_
    by_cases h : i < k
    · have hg' := fGet_ok (l := l') (by omega) (t := (rTab a.fn).1) (a := s.2.1 + i)
      have hll := readL_len l' (rTab a.fn).1 s.2.1 i
      have hrs := readL_succ l' (rTab a.fn).1 s.2.1 i
      generalize (getL l' (rTab a.fn).1 (s.2.1 + i)).1 = x at *
      refine Tri.seq (Tri.tree (.a (.at [.int .i64 s.1, .int .i64 s.2.1, .int .i64 s.2.2]) (.a (.b 80 true) .nil)) rfl ⟨⟨by simp, rfl, rfl⟩, decide_eq_true (by omega), ?_⟩)
      refine Tri.seq (Tri.block (Tri.tree (.o [0] [] hg' .nil) rfl ⟨trivial, by simp [leVs, leP, leE, leL, leC], rfl, ⟨⟨rfl, by simp⟩, trivial⟩, ⟨.inr rfl, rfl, by simp [hll], by simp, by omega, by omega⟩, ?_⟩))
      refine Tri.let [0, 1, 2, 4] [] [0, 3, 4, 6, 8, 10, 11] rfl trivial ?_
      refine Tri.go [] rfl ⟨by omega, trivial⟩ (again (k - (i + 1)) (by omega) ⟨i + 1, rfl, by omega, ?_, keep_of rfl (by simp; omega)⟩)
      rw [hrs, ← rI_app]
      rfl
    · have : i = k := by omega
      subst this
      refine Tri.seq (Tri.tree (.a (.at [.int .i64 s.1, .int .i64 s.2.1, .int .i64 s.2.2]) (.a (.b 80 false) .nil)) rfl ⟨⟨by simp, rfl, rfl⟩, decide_eq_false (by omega), rfl, keep_of rfl rfl⟩)
  rintro ρ hl' ⟨rfl, hkk⟩
  refine Tri.keep _ hkk ?_
  have hsh := shown_ok (a := a) (ws := readL l' (rTab a.fn).1 s.2.1 k) (by rw [readL_len]; omega)
  have hll := readL_len l' (rTab a.fn).1 s.2.1 k
  have eT : tellD a l' [s] = shownT a (readL l' (rTab a.fn).1 s.2.1 k) := by rw [tellD, hkk2]
  simp only
  rw [eT]
  generalize shownT a (readL l' (rTab a.fn).1 s.2.1 k) = T at *
  refine Tri.treeR (.f [3] hsh (.a (.call [0] [] .u []) .nil)) rfl ⟨⟨by simp [hll], trivial⟩, by simp [leVs, leP, leE, leL, leC, hll], ⟨trivial, trivial⟩, .refl _, by simp [leP, leE, leEs, leL, leC]⟩
theorem do0_ok {a : Ask} (hf : a.Fit) (hr : a.right = true) {l : List Cel} (hn : a.fn = 43 ∨ (∃ s, (spans a).1 = [s] ∧ rightS s = false) ∨ ((∀ s, (spans a).1 = [s] → rightS s = true) ∧ ∃ s, (spans a).2 = [s] ∧ rightS s = false)) :
    FnOk Try.prog 66 [vC (.ptr 0 0), a.v] [oFl l] (.tup [.agg (Tell.cs {}), .c (.t (.bool false))]) [oFl l] := by
  have hsp := rSpans_ok hf
  have hrr := rRight_ok hf
  rw [hr] at hrr
  by_cases h43 : a.fn = 43
  · exact FnOk.tree t66 (.f [] hsp (.f [] hrr (.a (.b 20 false) (.a (.b 25 true) (.a (.b 37 true) (.a (.b 48 true) (.a (.call [0] [] .u []) .nil))))))) rfl rfl rfl rfl
      ⟨trivial, by simp [leVs, leP, leE, leL, leC], trivial, by simp [leVs, leP, leE, leL, leC], rfl, by simpa using h43, rfl, rfl, ⟨trivial, trivial⟩, .refl _, by simp [leP, leE, leEs, leL, leC]⟩
  have hfn' : (a.fn == 43) = false := by simpa using h43
  generalize hsr : spans a = RW at *
  obtain ⟨R, W⟩ := RW
  simp only at hn
  rcases hn with h | ⟨s, rfl, hs⟩ | ⟨hR, u, rfl, hu⟩
  · exact absurd h h43
  · have h1 := right12_ok (s := s)
    rw [hs] at h1
    refine FnOk.tree t66 (.f [] hsp (.f [] hrr (.a (.b 20 false) (.a (.b 25 false) (.a (.b 29 true) (.a (.at [.int .i64 s.1, .int .i64 s.2.1, .int .i64 s.2.2]) (.f [] h1 (.a (.b 37 true) (.a (.b 48 true) (.a (.call [0] [] .u []) .nil)))))))))) rfl rfl rfl rfl
      ⟨trivial, by simp [leVs, leP, leE, leL, leC], trivial, by simp [leVs, leP, leE, leL, leC], rfl, by simpa using hfn', rfl, ⟨by simp, rfl, rfl⟩, by simp, trivial, by simp [leVs, leP, leE, leL, leC], rfl, rfl, ⟨trivial, trivial⟩, .refl _, by simp [leP, leE, leEs, leL, leC]⟩
  · have h2 := right12_ok (s := u)
    rw [hu] at h2
    have : R = [] ∨ ∃ s, R = [s] := by
      have hsr' := congrArg Prod.fst hsr
      simp only at hsr'
      rw [← hsr']
      unfold spans
      repeat' split
      all_goals simp
    rcases this with rfl | ⟨s, rfl⟩
    · refine FnOk.tree t66 (.f [] hsp (.f [] hrr (.a (.b 20 false) (.a (.b 25 false) (.a (.b 29 false) (.a (.b 37 false) (.a (.b 41 true) (.a (.at [.int .i64 u.1, .int .i64 u.2.1, .int .i64 u.2.2]) (.f [] h2 (.a (.b 48 true) (.a (.call [0] [] .u []) .nil))))))))))) rfl rfl rfl rfl
        ⟨trivial, by simp [leVs, leP, leE, leL, leC], trivial, by simp [leVs, leP, leE, leL, leC], rfl, by simpa using hfn', rfl, rfl, rfl, ⟨by simp, rfl, rfl⟩, by simp, trivial, by simp [leVs, leP, leE, leL, leC], rfl, ⟨trivial, trivial⟩, .refl _, by simp [leP, leE, leEs, leL, leC]⟩
    · have h1 := right12_ok (s := s)
      rw [hR s rfl] at h1
      refine FnOk.tree t66 (.f [] hsp (.f [] hrr (.a (.b 20 false) (.a (.b 25 false) (.a (.b 29 true) (.a (.at [.int .i64 s.1, .int .i64 s.2.1, .int .i64 s.2.2]) (.f [] h1 (.a (.b 37 false) (.a (.b 41 true) (.a (.at [.int .i64 u.1, .int .i64 u.2.1, .int .i64 u.2.2]) (.f [] h2 (.a (.b 48 true) (.a (.call [0] [] .u []) .nil))))))))))))) rfl rfl rfl rfl
        ⟨trivial, by simp [leVs, leP, leE, leL, leC], trivial, by simp [leVs, leP, leE, leL, leC], rfl, by simpa using hfn', rfl, ⟨by simp, rfl, rfl⟩, by simp, trivial, by simp [leVs, leP, leE, leL, leC], rfl, rfl, ⟨by simp, rfl, rfl⟩, by simp, trivial, by simp [leVs, leP, leE, leL, leC], rfl, ⟨trivial, trivial⟩, .refl _, by simp [leP, leE, leEs, leL, leC]⟩
theorem tellB_head {T : Tell} (hr : T.right = true) (he : T.exc = 0) : ∃ r, tellB T = T.fn :: r ∧ 1 ≤ r.length := by
  simp only [Tell.right, he, if_true, Bool.and_eq_true] at hr
  have hk := of_decide_eq_true hr.1
  unfold tellB
  rw [if_pos he]
  rcases hk with h | h | h | h | h | h | h | h | h | h | h
  all_goals simp [h, w2]
theorem fitS {f : Int} {B : List Bool} {W : List Int} (hf : b64 f) (hB : B.length ≤ 1000000000000) (hW : W.length ≤ 1000000000000) (hw : Wrd W) : Tell.Fit { fn := f, bits := B, words := W } :=
  ⟨hf, by simp [b64], hB, hW, hw, by simp [b64], by simp [b64], by simp, by simp, by simp, by simp [b64], by simp [b64], by simp [b64], by simp, fun o h => (nomatch h)⟩
theorem tellD_ok {a : Ask} (hf : a.Fit) (hr : a.right = true) (h43 : a.fn ≠ 43) {l : List Cel} (hv : Vok l) :
    (tellD a l (spans a).1).Fit ∧ (tellD a l (spans a).1).right = true ∧ (tellD a l (spans a).1).exc = 0 ∧ (tellD a l (spans a).1).fn = a.fn ∧ (a.fn = 1 ∨ a.fn = 2 → a.n = (tellD a l (spans a).1).bits.length) := by
  have hk := right_known hr
  have h := hr
  have h' := hr
  have hfn := of_decide_eq_true hk
  have hwr : ∀ n : Int, a.fn = a.fn := fun _ => rfl
  by_cases hw : a.fn = 5 ∨ a.fn = 6 ∨ a.fn = 15 ∨ a.fn = 16 ∨ a.fn = 22
  · have e : (spans a).1 = [] := by
      unfold spans
      rw [if_neg (by rw [hr]; simp)]
      rcases hw with h | h | h | h | h <;> simp [h]
    rw [e]
    obtain ⟨w1, w2, w3, _⟩ := echo_bytes hr hw
    exact ⟨echo_fit hf, w1, w2, w3, fun h => by omega⟩
  clear hk
  obtain ⟨fn, at_, n, vl, an, og, bs, ws, ra, rn, cd, ob⟩ := a
  simp only at hfn hw h43
  have hfn' : fn = 1 ∨ fn = 2 ∨ fn = 3 ∨ fn = 4 ∨ fn = 23 := by omega
  rcases hfn' with rfl | rfl | rfl | rfl | rfl
  all_goals
    simp [Ask.right, Ask.same, Ask.only, Ask.rest, known, countsB, kMost, placeB] at h
    simp only [spans, h']
    simp [tellD, shownT, Tell.right, known, tEq, Tell.only, Tell.rest, countsB, placeB, nzL_len, readL_len]
    first
      | refine ⟨fitS (by simp [b64]) (by simp [nzL_len, readL_len]; omega) (by simp) wrd_nil, ?_⟩
        omega
      | refine ⟨fitS (by simp [b64]) (by simp) (by rw [readL_len]; omega) (readL_wrd hv _ _ _), ?_⟩
        omega
theorem spans_form (a : Ask) : ((spans a).1 = [] ∨ ∃ s, (spans a).1 = [s]) ∧ ((spans a).2 = [] ∨ ∃ s, (spans a).2 = [s]) := by
  unfold spans
  repeat' split
  all_goals simp
theorem do_ok {a : Ask} (hf : a.Fit) (hr : a.right = true) {l : List Cel} (hv : Vok l) (hl : l.length ≤ 1000000) :
    FnOk Try.prog 66 [vC (.ptr 0 0), a.v] [oFl l] (.tup [.agg (Tell.cs {}), .c (.t (.bool false))]) [oFl l] ∨
    ∃ (T : Tell) (l' : List Cel), T.Fit ∧ T.right = true ∧ T.exc = 0 ∧ T.fn = a.fn ∧ (T.fn = 1 ∨ T.fn = 2 → a.n = T.bits.length) ∧ FnOk Try.prog 66 [vC (.ptr 0 0), a.v] [oFl l] (.tup [.agg T.cs, .c (.t (.bool true))]) [oFl l'] := by
  by_cases h43 : a.fn = 43
  · exact .inl (do0_ok hf hr (.inl h43))
  obtain ⟨f1, f2⟩ := spans_form a
  by_cases h1 : ∃ s, (spans a).1 = [s] ∧ rightS s = false
  · exact .inl (do0_ok hf hr (.inr (.inl h1)))
  have hR : (spans a).1 = [] ∨ ∃ s, (spans a).1 = [s] ∧ rightS s = true := by
    rcases f1 with f1 | ⟨s, f1⟩
    · exact .inl f1
    · refine .inr ⟨s, f1, ?_⟩
      cases hs : rightS s with
      | true => rfl
      | false => exact absurd ⟨s, f1, hs⟩ h1
  by_cases h2 : ∃ s, (spans a).2 = [s] ∧ rightS s = false
  · refine .inl (do0_ok hf hr (.inr (.inr ⟨fun s hs => ?_, h2⟩)))
    cases hs' : rightS s with
    | true => rfl
    | false => exact absurd ⟨s, hs, hs'⟩ h1
  have hW : (spans a).2 = [] ∨ ∃ s, (spans a).2 = [s] ∧ rightS s = true := by
    rcases f2 with f2 | ⟨s, f2⟩
    · exact .inl f2
    · refine .inr ⟨s, f2, ?_⟩
      cases hs : rightS s with
      | true => rfl
      | false => exact absurd ⟨s, f2, hs⟩ h2
  obtain ⟨l', hv', hd⟩ := do2_ok hf hr hv hl hR hW h43
  obtain ⟨t1, t2, t3, t4, t5⟩ := tellD_ok hf hr h43 hv'
  exact .inr ⟨_, l', t1, t2, t3, t4, fun h => t5 (by rwa [t4] at h), hd⟩
theorem tellFits_ok {k v : Int} (hk : b64 k) (hv : b64 v) {ks : List Int} (hks : ∀ x ∈ ks, b64 x) (hm : ks.length ≤ 9223372036854775807) :
    FnOk Try.prog 18 [vI .i64 k, vI .i64 v, vD (lI .i64 ks)] [] (vB true) [] := by
  have haw := awake6_ok
  have hcs := cells0_ok hks hm
  have hln := cellsG_len ks (min ks.length 20)
  have hset := fSet_ok (l := []) (cs := cellsG ks (min ks.length 20)) (by simp; omega) (cellsG_ok ks _)
  have hsv := Vok.set (l := []) (cs := cellsG ks (min ks.length 20)) (fun x hx => (nomatch hx)) (vok_cellsG ks _)
  have hsl := setL_len (cellsG ks (min ks.length 20)) []
  generalize setL [] (cellsG ks (min ks.length 20)) = l at *
  generalize cellsG ks (min ks.length 20) = cs at *
  have ha := askG_ok hk hv
  obtain ⟨haf, har⟩ := askG_fit k v
  have hdo := do_ok haf har hsv (by simp at hsl; omega)
  generalize askG k v = a at *
  refine FnOk.start t18 rfl rfl rfl ?_
  refine Tri.seq (Tri.go [] rfl trivial ?_)
  refine Tri.seq (Tri.tree (.f [] haw (.a (.b 17 false) .nil)) rfl ⟨trivial, trivial, rfl, ?_⟩)
  refine Tri.seq (Tri.go [] rfl trivial ?_)
  refine Tri.wkO (hl' := [oFl []]) (.cons (.box (.cons (.t (.nil _)) .nil)) .nil) ?_
  refine Tri.seq (Tri.tree (.f [] hcs (.o [0] [] hset .nil)) rfl ⟨trivial, by simp [leVs, leP, leE, leL, leC], trivial, by simp [leVs, leP, leE, leL, leC], rfl, ?_⟩)
  refine Tri.seq (Tri.tree (.f [] ha .nil) rfl ⟨trivial, by simp [leVs, leP, leE, leL, leC], ?_⟩)
  rcases hdo with hdo | ⟨T, l', t1, t2, t3, t4, t5, hdo⟩
  · refine Tri.treeR (.o [0] [] hdo (.a (.b 34 true) .nil)) rfl ⟨trivial, by simp [leVs, leP, leE, leL, leC], rfl, rfl, trivial, rfl, by simp [leP, leE, leC]⟩
  obtain ⟨hbt, hb1, hb2⟩ := tellB_fine t1 t2 t3
  obtain ⟨r, hh, hr1⟩ := tellB_head t2 t3
  have hpp := pTell_tellB t1 t2 t3 t5
  have hb := tellBR_ok t1
  rw [show tellBR T = (tellB T, 0) from if_pos t2] at hb
  have hbl : 2 ≤ (tellB T).length := by rw [hh]; simp; omega
  have hb0 : (tellB T).getD 0 0 = a.fn := by rw [hh, ← t4]; rfl
  generalize tellB T = B at *
  have hp := tellParse_ok (b := B) hbt (by omega) haf.n
  rw [hpp] at hp
  have hrt := tRight_ok t1
  rw [t2] at hrt
  have hst := sameTell_ok t1
  refine Tri.treeR (.o [0] [] hdo (.a (.b 34 false) (.f [] hb (.f [] hp (.a (.b 50 true) (.a (.b 55 true) (.a (.b 60 true) (.f [] hrt (.a (.b 64 true) (.a (.b 68 true) (.f [] hst (.a (.b 73 true) (.a (.at [.int .u8 (B.getD 0 0)]) .nil))))))))))))) rfl ⟨trivial, by simp [leVs, leP, leE, leL, leC], rfl, rfl, trivial, by simp [leVs, leP, leE, leL, leC], trivial, by simp [leVs, leP, leE, leL, leC], rfl, decide_eq_true (by simp only; omega), decide_eq_true (by simp only; omega), trivial, by simp [leVs, leP, leE, leL, leC], rfl, rfl, trivial, by simp [leVs, leP, leE, leL, leC], rfl, ⟨⟨by omega, by simp only; omega⟩, rfl, rI_get (show 0 < B.length by omega)⟩, ?_, trivial, rfl, ?_⟩
  · rw [hb0]; exact haf.fn
  · simp only [leP, leE, leC, hb0]; simp
end Go.Proofs.Ytheaeddojcebjaa
