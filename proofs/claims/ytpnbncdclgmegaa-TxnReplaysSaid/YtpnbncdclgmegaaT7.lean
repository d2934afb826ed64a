/-
  The store: Install.
-/
import Derived.Test.YtpnbncdclgmegaaT6
set_option maxRecDepth 100000
set_option maxHeartbeats 1000000
set_option linter.unusedVariables false
set_option linter.unusedSimpArgs false
namespace Go.Proofs.Ytpnbncdclgmegaa
open Go.RowKit

theorem inst_ok {s : St} (hlen : s.L.length ≤ 100000000) (hch : ChOk 100000000 s.L) (hlast : 0 ≤ s.last ∧ s.last ≤ 18446744073709551615) (hn : 0 ≤ s.n ∧ s.n ≤ 100000000) (hm : 0 ≤ s.most ∧ s.most ≤ 100000000) {l : List Cel} (hl : l.length ≤ 100000000) :
    FnOk Try.prog 25 [vC (.ptr 0 0), vCl l] [stB s 1, stM s] (vPair (instR s l).1 (instR s l).2.1) [stB (instR s l).2.2 1, stM (instR s l).2.2] := by
  have ho := once_ok (l := l) (by omega)
  refine FnOk.start t25 rfl rfl rfl ?_
  refine Tri.seq (Tri.go [] rfl trivial ?_)
  unfold instR
  cases hb : onceL l with
  | false =>
    rw [hb] at ho
    refine Tri.seq (Tri.block (Tri.tree (.f [] ho .nil) rfl ⟨trivial, by simp [leVs, leP, leE, leL, leC], ?_⟩))
    exact RetQ.le [0, 1] [] rfl trivial (.refl _) (.refl _)
  | true =>
    rw [hb] at ho
    rw [if_neg (by simp)]
    by_cases h1 : s.last = 18446744073709551615
    · rw [if_pos h1]
      refine Tri.seq (Tri.block (Tri.tree (.f [] ho (.a (.b 12 true) .nil)) rfl ⟨trivial, by simp [leVs, leP, leE, leL, leC], by simpa using h1, ?_⟩))
      exact RetQ.le [0, 1] [] rfl trivial (.refl _) (.refl _)
    rw [if_neg h1]
    by_cases h2 : s.most - s.n < l.length
    · rw [if_pos h2]
      refine Tri.seq (Tri.block (Tri.tree (.f [] ho (.a (.b 12 false) (.a (.b 18 true) .nil))) rfl ⟨trivial, by simp [leVs, leP, leE, leL, leC], by simpa using h1, by omega, by simpa using h2, ?_⟩))
      exact RetQ.le [0, 1] [] rfl trivial (.refl _) (.refl _)
    rw [if_neg h2]
    refine Tri.seq (Tri.block (Tri.tree (.f [] ho (.a (.b 12 false) (.a (.b 18 false) .nil))) rfl ⟨trivial, by simp [leVs, leP, leE, leL, leC], by simpa using h1, by omega, by simpa using h2, ?_⟩))
    have hw : IntKind.u64.wrap (s.last + 1) = s.last + 1 := by rw [wu64]; omega
    refine Tri.seq (Tri.go [] rfl ⟨trivial, trivial⟩ ?_)
    rw [hw]
    refine Tri.seq (Tri.go [] rfl ⟨by omega, trivial⟩ ?_)
    refine Tri.mid (fun ρ hl => hl = [stB ⟨s.last + 1, s.n + l.length, s.most, addsK s.L (s.last + 1) l⟩ 1, stM ⟨s.last + 1, s.n + l.length, s.most, addsK s.L (s.last + 1) l⟩] ∧ keepE ρ [0] = some [(0, vC (.ptr 0 0))]) ?_ ?_
    · refine Tri.seq (Tri.go [] rfl trivial ?_)
      refine Tri.block ?_
      refine Tri.lp (fun q ρ hl => ∃ i, q = l.length - i ∧ i ≤ l.length ∧ hl = [stB ⟨s.last + 1, s.n + l.length, s.most, addsK s.L (s.last + 1) (l.take i)⟩ 1, stM ⟨s.last + 1, s.n + l.length, s.most, addsK s.L (s.last + 1) (l.take i)⟩] ∧
        keepE ρ [0, 47, 48, 49] = some [(0, vC (.ptr 0 0)), (47, vCl l), (48, vI .i64 l.length), (49, vI .i64 i)]) l.length ⟨0, by omega, by omega, rfl, keep_of rfl rfl⟩ ?_
      rintro q ρ hl' ⟨i, rfl, hi, rfl, hkk⟩
      refine Tri.keep _ hkk ?_
      by_cases h : i < l.length
      · have hg := rwC_get h
        have hsx := addsK_succ (L := s.L) (q := s.last + 1) h
        generalize l[i] = c at *
        have hLl := addsK_len (q := s.last + 1) (l.take i) s.L
        have hLc := addsK_ok (q := s.last + 1) (l.take i) hch
        have htl : (l.take i).length ≤ l.length := by rw [List.length_take]; omega
        generalize addsK s.L (s.last + 1) (l.take i) = L at *
        have hen : keepE [(49, vI .i64 (i + 1)), (0, vC (.ptr 0 0)), (47, vCl l), (48, vI .i64 l.length)] [0, 47, 48, 49] = some [(0, vC (.ptr 0 0)), (47, vCl l), (48, vI .i64 l.length), (49, vI .i64 (i + 1))] := rfl
        refine Tri.seq (Tri.go [] rfl trivial (Tri.seq (Tri.go [.b 50 true] rfl ⟨decide_eq_true (by omega), trivial⟩ ?_)))
        refine Tri.seq (Tri.block (Tri.seq (Tri.tree (.a (.at [.int .i64 c.1, .int .i64 c.2.1, .int .u16 c.2.2]) .nil) rfl ⟨⟨by omega, rfl, hg⟩, by simp, ?_⟩)))
        by_cases hk : idxK L (keyC c) < L.length
        · refine Tri.carve 1 _ (carve1 (s := ⟨s.last + 1, s.n + l.length, s.most, L⟩) (k := keyC c) hk [] 1 rfl) ?_
          have hc : (chK L (keyC c)) = L[idxK L (keyC c)].2 := by unfold chK; rw [List.getElem?_eq_getElem hk]
          have hl2 := hLc _ (List.getElem_mem hk)
          rw [← hc] at hl2
          have hadd : addK L (keyC c) (s.last + 1, c.2.2) = L.modify (idxK L (keyC c)) fun e => (e.1, chK L (keyC c) ++ [(s.last + 1, c.2.2)]) := by
            unfold addK
            rw [if_pos hk]
            apply List.ext_getElem?
            intro j
            simp only [List.getElem?_modify]
            by_cases hj : idxK L (keyC c) = j
            · subst hj; simp [hk, hc]
            · simp [hj]
          have hpos : 0 < (chK L (keyC c)).length + 1 := by omega
          refine Tri.tree .nil rfl ⟨⟨⟨rfl, by simp⟩, trivial⟩, ⟨cmOf_at _ _, by simpa using hk, rfl⟩, ⟨.inr rfl, rfl, by simp, by simp, by show ((chK L (keyC c)).length + 1) * 16 ≤ _; omega, by show (chK L (keyC c)).length + 1 ≤ _; omega⟩, ⟨by rw [cmOf_st hk, cmOf_idx hk], by simpa using hk⟩, ?_⟩
          refine Tri.back 1 4 ⟨_, _, _, _, _, rfl, rfl, by simp, by simp, by simpa using hk, rfl⟩ ?_
          have hrw : rwV (chK L (keyC c)) ++ List.take 1 ((List.replicate 1 [D.int .u64 0, D.int .u16 0]).set 0 [D.int .u64 (s.last + 1), D.int .u16 c.2.2]) = rwV (chK L (keyC c) ++ [(s.last + 1, c.2.2)]) := by simp [rwV]
          have hput : (cmOf L).put (idxK L (keyC c)) (.i 2 (rwV (chK L (keyC c)) ++ List.take 1 ((List.replicate 1 [D.int .u64 0, D.int .u16 0]).set 0 [D.int .u64 (s.last + 1), D.int .u16 c.2.2]))) = cmOf (addsK s.L (s.last + 1) (l.take (i + 1))) := by
            rw [hrw, cmOf_put hk, hsx, hadd]
          simp only [hput]
          refine Tri.let [0, 1] [] [0, 47, 48, 49] rfl trivial ?_
          exact Tri.go [] rfl ⟨by omega, trivial⟩ (again (l.length - (i + 1)) (by omega) ⟨i + 1, rfl, by omega, rfl, keep_of rfl (by simp)⟩)
        · have hg0 : (cmOf L).get (c.1, c.2.1) = none := by
            unfold Cm.get
            rw [cmOf_at, List.getElem?_eq_none (by have : idxK L (keyC c) = idxK L (c.1, c.2.1) := rfl; simp; omega)]
            rfl
          have hadd : addK L (keyC c) (s.last + 1, c.2.2) = L ++ [(keyC c, [(s.last + 1, c.2.2)])] := if_neg hk
          refine Tri.tree (.a (.mp none) .nil) rfl ⟨⟨⟨rfl, by simp⟩, trivial⟩, ⟨hg0, rfl⟩, ⟨.inr rfl, by simp, by simp, by simp⟩, ?_, ?_⟩
          · have := cmNew_idx (L := L) (k := (c.1, c.2.1)) (v := .o [.nil])
            show ((cmOf L).new (c.1, c.2.1) (.o [.nil])).idx ((cmOf L).ck : Int) < _
            have hck : (cmOf L).ck = L.length := rfl
            rw [hck, this]
            simp [Cm.new]
          refine Tri.back 1 3 ⟨_, _, _, _, _, rfl, rfl, by simp, by simp, ?_, rfl⟩ ?_
          · have := cmNew_idx (L := L) (k := (c.1, c.2.1)) (v := .o [.nil])
            have hck : (cmOf L).ck = L.length := rfl
            rw [hck, this]
            simp [Cm.new]
          have hrw : List.take 1 ((List.replicate 1 [D.int .u64 0, D.int .u16 0]).set 0 [D.int .u64 (s.last + 1), D.int .u16 c.2.2]) = rwV [(s.last + 1, c.2.2)] := by simp [rwV]
          have hput : ((cmOf L).new (c.1, c.2.1) (.o [.nil])).put (((cmOf L).new (c.1, c.2.1) (.o [.nil])).idx ((cmOf L).ck : Int)) (.i 2 (List.take 1 ((List.replicate 1 [D.int .u64 0, D.int .u16 0]).set 0 [D.int .u64 (s.last + 1), D.int .u16 c.2.2]))) = cmOf (addsK s.L (s.last + 1) (l.take (i + 1))) := by
            have hck : (cmOf L).ck = L.length := rfl
            rw [hck, cmNew_idx, hrw, cmNew_put, hsx, hadd]
            rfl
          simp only [hput]
          refine Tri.let [0, 1] [] [0, 47, 48, 49] rfl trivial ?_
          exact Tri.go [] rfl ⟨by omega, trivial⟩ (again (l.length - (i + 1)) (by omega) ⟨i + 1, rfl, by omega, rfl, keep_of rfl (by simp)⟩)
      · have : i = l.length := by omega
        subst this
        rw [List.take_length]
        exact Tri.seq (Tri.go [] rfl trivial (Tri.seq (Tri.go [.b 50 false] rfl ⟨decide_eq_false (by omega), trivial⟩ (And.intro rfl (keep_of rfl rfl)))))
    rintro ρ hl' ⟨rfl, hkk⟩
    refine Tri.keep _ hkk ?_
    exact Tri.treeR (.a (.call [0, 1] [] .u []) .nil) rfl ⟨trivial, .refl _, leP_refl _⟩
end Go.Proofs.Ytpnbncdclgmegaa
