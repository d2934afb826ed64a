/-
  Serial replay: the law's own function walks what was committed.
-/
import Derived.Test.YtpnbncdclgmegaaT25
set_option maxRecDepth 100000
set_option maxHeartbeats 1000000
set_option linter.unusedVariables false
set_option linter.unusedSimpArgs false
namespace Go.Proofs.Ytpnbncdclgmegaa
open Go.RowKit

theorem best_skip {did : List Deed} {left : List Bool} {j : Nat} {b : Int} (h : BestI did left j b) (hl : left[j]? = some true) : BestI did left (j + 1) b := by
  rcases h with ⟨h1, h2⟩ | ⟨n, d, h1, h2, h3, h4, h5⟩
  · refine .inl ⟨h1, fun u hu => ?_⟩
    by_cases e : u = j
    · subst e; exact hl
    · exact h2 u (by omega)
  · refine .inr ⟨n, d, h1, by omega, h3, h4, fun u d' hu hd hlu => ?_⟩
    by_cases e : u = j
    · subst e; rw [hl] at hlu; cases hlu
    · exact h5 u d' (by omega) hd hlu
theorem best_first {did : List Deed} {left : List Bool} {j : Nat} {dj : Deed} (h : ∀ u, u < j → left[u]? = some true) (hd : did[j]? = some dj) (hl : left[j]? = some false) : BestI did left (j + 1) j := by
  refine .inr ⟨j, dj, rfl, by omega, hd, hl, fun u d' hu hd' hlu => ?_⟩
  by_cases e : u = j
  · subst e; rw [hd] at hd'; cases hd'; exact Int.le_refl _
  · rw [h u (by omega)] at hlu; cases hlu
theorem best_take {did : List Deed} {left : List Bool} {j : Nat} {dj db : Deed} (h5 : ∀ (u : Nat) d', u < j → did[u]? = some d' → left[u]? = some false → keyD db ≤ keyD d') (hd : did[j]? = some dj) (hl : left[j]? = some false) (hk : keyD dj < keyD db) : BestI did left (j + 1) j := by
  refine .inr ⟨j, dj, rfl, by omega, hd, hl, fun u d' hu hd' hlu => ?_⟩
  by_cases e : u = j
  · subst e; rw [hd] at hd'; cases hd'; exact Int.le_refl _
  · have := h5 u d' (by omega) hd' hlu
    omega
theorem best_keep {did : List Deed} {left : List Bool} {j n : Nat} {dj db : Deed} (h2 : n < j) (h3 : did[n]? = some db) (h4 : left[n]? = some false) (h5 : ∀ (u : Nat) d', u < j → did[u]? = some d' → left[u]? = some false → keyD db ≤ keyD d') (hd : did[j]? = some dj) (hk : ¬ keyD dj < keyD db) : BestI did left (j + 1) n := by
  refine .inr ⟨n, db, rfl, by omega, h3, h4, fun u d' hu hd' hlu => ?_⟩
  by_cases e : u = j
  · subst e; rw [hd] at hd'; cases hd'; omega
  · exact h5 u d' (by omega) hd' hlu
theorem atF_zero {L : Chs} {q : Int} (h : ∀ k, ChS q (chK L k)) (k : Key) : atF L 0 k = 0 := by
  have := atL_parts (A := []) (B := chK L k) (s := 0) (by simp) fun e he => by have := (h k).rng e he; omega
  simpa [lastV] using this
theorem replay_ok {L : Chs} {last : Int} {did : List Deed} (hG : RG L last did) : FnOk Try.prog 23 [vD (lDd did)] [] (vB true) [] := by
  have hn := hG.len
  refine FnOk.start t23 rfl rfl rfl ?_
  refine Tri.seq (Tri.go [] rfl trivial ?_)
  refine Tri.seq (Tri.go [] rfl trivial ?_)
  refine Tri.mid (fun ρ hl => hl = [.arr 1 (rF (List.replicate did.length false))] ∧ keepE ρ [0, 3, 4] = some [(0, vD (lDd did)), (3, vC (.t .nil)), (4, vC (.sl 0 0 did.length))]) ?_ ?_
  · refine Tri.tree .nil rfl ⟨⟨by omega, by omega, by omega, by omega⟩, ?_, keep_of rfl (by simp)⟩
    simp [rF, List.map_replicate]
  rintro ρ hl' ⟨rfl, hkk⟩
  refine Tri.keep _ hkk ?_
  refine Tri.wk 3 rfl (v' := vCl []) (.e (.c (.t (.nil _)))) ?_
  refine Tri.mid (fun ρ hl => ∃ left : List Bool, hl = [.arr 1 (rF left)]) ?_ ?_
  · refine Tri.seq (Tri.go [] rfl trivial ?_)
    refine Tri.block ?_
    refine Tri.lp (fun z ρ hl => ∃ (i : Nat) (left : List Bool) (now : List Cel) (w : Int), z = did.length - i ∧ i ≤ did.length ∧ OutI L last did i left w ∧ NowI (80 * i) now (atF L w) ∧ hl = [.arr 1 (rF left)] ∧
      keepE ρ [0, 3, 4, 15, 16] = some [(0, vD (lDd did)), (3, vCl now), (4, vC (.sl 0 0 did.length)), (15, vI .i64 did.length), (16, vI .i64 i)]) did.length
      ⟨0, _, [], 0, by omega, by omega, .start hG, ⟨.nil, by simp, by simp, fun t a _ => by rw [getL_nil, atF_zero hG.vr]⟩, rfl, keep_of rfl rfl⟩ ?_
    rintro z ρ hl' ⟨i, left, now, w, rfl, hi, hO, hN, rfl, hkk⟩
    refine Tri.keep _ hkk ?_
    by_cases h : i < did.length
    · refine Tri.seq (Tri.go [] rfl trivial ?_)
      refine Tri.seq (Tri.go [.b 17 true] rfl ⟨decide_eq_true (by omega), trivial⟩ ?_)
      refine Tri.seq (Tri.block ?_)
      refine Tri.seq (Tri.go [] rfl trivial ?_)
      refine Tri.mid (fun ρ hl => ∃ b : Int, BestI did left did.length b ∧ hl = [.arr 1 (rF left)] ∧
        keepE ρ [0, 3, 4, 5, 15, 16] = some [(0, vD (lDd did)), (3, vCl now), (4, vC (.sl 0 0 did.length)), (5, vI .i64 b), (15, vI .i64 did.length), (16, vI .i64 i)]) ?_ ?_
      · refine Tri.seq (Tri.go [] rfl trivial ?_)
        refine Tri.block ?_
        refine Tri.lp (fun z ρ hl => ∃ (j : Nat) (b : Int), z = did.length - j ∧ j ≤ did.length ∧ BestI did left j b ∧ hl = [.arr 1 (rF left)] ∧
          keepE ρ [0, 3, 4, 5, 6, 15, 16] = some [(0, vD (lDd did)), (3, vCl now), (4, vC (.sl 0 0 did.length)), (5, vI .i64 b), (6, vI .i64 j), (15, vI .i64 did.length), (16, vI .i64 i)]) did.length
          ⟨0, -1, by omega, by omega, .inl ⟨rfl, fun u hu => by omega⟩, rfl, keep_of rfl rfl⟩ ?_
        rintro z ρ hl' ⟨j, b, rfl, hj, hB, rfl, hkk⟩
        refine Tri.keep _ hkk ?_
        by_cases hjn : j < did.length
        · refine Tri.seq (Tri.go [.b 21 true] rfl ⟨decide_eq_true (by omega), trivial⟩ ?_)
          have hll := hO.len
          have hlj : left[j]? = some left[j] := List.getElem?_eq_getElem (by omega)
          have hdj : did[j]? = some did[j] := List.getElem?_eq_getElem hjn
          have hgj : (rDd did)[j]? = some [.int .u64 did[j].q, .bool did[j].w, .ls 4 did[j].acts.length (rA did[j].acts)] := by simp [rDd, hjn, rowD]
          have hgl : (rF left)[0 + (j : Int).toNat]? = some [.bool left[j]] := by simp [rF, show j < left.length by omega]
          generalize left[j] = x at *
          generalize did[j] = dj at *
          cases x with
          | true =>
            refine Tri.seq (Tri.block (Tri.tree (.a (.at [.bool true]) (.a (.b 29 false) (.a (.b 73 false) .nil))) rfl ?_))
            have hX : True := trivial
            repeat ((with_reducible apply And.intro); focus (first | exact True.intro | exact ⟨by omega, by omega, rfl⟩ | exact hgl | exact ⟨by omega, rfl, hgj⟩ | exact ⟨by omega, rfl, hgb⟩ | (simp [hX]; done) | omega | exact rfl))
            exact Tri.go [] rfl ⟨by omega, trivial⟩ (again (did.length - (j + 1)) (by omega) ⟨j + 1, b, rfl, by omega, best_skip hB hlj, rfl, keep_of rfl (by simp)⟩)
          | false =>
            rcases hB with ⟨rfl, hall⟩ | ⟨bn, db, rfl, hb1, hb2, hb3, hb4⟩
            · refine Tri.seq (Tri.block (Tri.tree (.a (.at [.bool false]) (.a (.b 29 true) (.a (.b 32 true) (.a (.b 45 true) (.a (.b 73 true) .nil))))) rfl ?_))
              have hX : True := trivial
              repeat ((with_reducible apply And.intro); focus (first | exact True.intro | exact ⟨by omega, by omega, rfl⟩ | exact hgl | exact ⟨by omega, rfl, hgj⟩ | exact ⟨by omega, rfl, hgb⟩ | (simp [hX]; done) | omega | exact rfl))
              exact Tri.go [] rfl ⟨by omega, trivial⟩ (again (did.length - (j + 1)) (by omega) ⟨j + 1, j, rfl, by omega, best_first hall hdj hlj, rfl, keep_of rfl (by simp)⟩)
            · have hgb : (rDd did)[bn]? = some [.int .u64 db.q, .bool db.w, .ls 4 db.acts.length (rA db.acts)] := by simp [rDd, hb2, rowD]
              have hbl : bn < did.length := by omega
              obtain ⟨qj, wj, aj⟩ := dj
              obtain ⟨qb, wb, ab⟩ := db
              simp only at hgj hgb
              by_cases c1 : qj < qb
              · refine Tri.seq (Tri.block (Tri.tree (.a (.at [.bool false]) (.a (.b 29 true) (.a (.b 32 false) (.a (.at [.int .u64 qj, .bool wj, .ls 4 aj.length (rA aj)]) (.a (.at [.int .u64 qb, .bool wb, .ls 4 ab.length (rA ab)]) (.a (.b 45 true) (.a (.b 73 true) .nil))))))) rfl ?_))
                have hX := c1
                repeat ((with_reducible apply And.intro); focus (first | exact True.intro | exact ⟨by omega, by omega, rfl⟩ | exact hgl | exact ⟨by omega, rfl, hgj⟩ | exact ⟨by omega, rfl, hgb⟩ | (simp [hX]; done) | omega | exact rfl))
                exact Tri.go [] rfl ⟨by omega, trivial⟩ (again (did.length - (j + 1)) (by omega) ⟨j + 1, j, rfl, by omega, best_take hb4 hdj hlj (by unfold keyD; simp only; split <;> split <;> omega), rfl, keep_of rfl (by simp)⟩)
              · by_cases c2 : qj = qb
                · subst c2
                  cases wj with
                  | true =>
                    have hX := c1
                    cases wb with
                    | true =>
                      refine Tri.seq (Tri.block (Tri.tree (.a (.at [.bool false]) (.a (.b 29 true) (.a (.b 32 false) (.a (.at [.int .u64 qj, .bool true, .ls 4 aj.length (rA aj)]) (.a (.at [.int .u64 qj, .bool true, .ls 4 ab.length (rA ab)]) (.a (.b 45 false) (.a (.at [.int .u64 qj, .bool true, .ls 4 aj.length (rA aj)]) (.a (.at [.int .u64 qj, .bool true, .ls 4 ab.length (rA ab)]) (.a (.b 57 true) (.a (.at [.int .u64 qj, .bool true, .ls 4 aj.length (rA aj)]) (.a (.b 64 true) (.a (.at [.int .u64 qj, .bool true, .ls 4 ab.length (rA ab)]) (.a (.b 73 false) .nil))))))))))))) rfl ?_))
                      repeat ((with_reducible apply And.intro); focus (first | exact True.intro | exact ⟨by omega, by omega, rfl⟩ | exact hgl | exact ⟨by omega, rfl, hgj⟩ | exact ⟨by omega, rfl, hgb⟩ | (simp [hX]; done) | omega | exact rfl))
                      exact Tri.go [] rfl ⟨by omega, trivial⟩ (again (did.length - (j + 1)) (by omega) ⟨j + 1, bn, rfl, by omega, best_keep hb1 hb2 hb3 hb4 hdj (by unfold keyD; simp only; simp), rfl, keep_of rfl (by simp)⟩)
                    | false =>
                      refine Tri.seq (Tri.block (Tri.tree (.a (.at [.bool false]) (.a (.b 29 true) (.a (.b 32 false) (.a (.at [.int .u64 qj, .bool true, .ls 4 aj.length (rA aj)]) (.a (.at [.int .u64 qj, .bool false, .ls 4 ab.length (rA ab)]) (.a (.b 45 false) (.a (.at [.int .u64 qj, .bool true, .ls 4 aj.length (rA aj)]) (.a (.at [.int .u64 qj, .bool false, .ls 4 ab.length (rA ab)]) (.a (.b 57 true) (.a (.at [.int .u64 qj, .bool true, .ls 4 aj.length (rA aj)]) (.a (.b 64 true) (.a (.at [.int .u64 qj, .bool false, .ls 4 ab.length (rA ab)]) (.a (.b 73 true) .nil))))))))))))) rfl ?_))
                      repeat ((with_reducible apply And.intro); focus (first | exact True.intro | exact ⟨by omega, by omega, rfl⟩ | exact hgl | exact ⟨by omega, rfl, hgj⟩ | exact ⟨by omega, rfl, hgb⟩ | (simp [hX]; done) | omega | exact rfl))
                      exact Tri.go [] rfl ⟨by omega, trivial⟩ (again (did.length - (j + 1)) (by omega) ⟨j + 1, j, rfl, by omega, best_take hb4 hdj hlj (by unfold keyD; simp <;> omega), rfl, keep_of rfl (by simp)⟩)
                  | false =>
                    have hX := c1
                    refine Tri.seq (Tri.block (Tri.tree (.a (.at [.bool false]) (.a (.b 29 true) (.a (.b 32 false) (.a (.at [.int .u64 qj, .bool false, .ls 4 aj.length (rA aj)]) (.a (.at [.int .u64 qj, .bool wb, .ls 4 ab.length (rA ab)]) (.a (.b 45 false) (.a (.at [.int .u64 qj, .bool false, .ls 4 aj.length (rA aj)]) (.a (.at [.int .u64 qj, .bool wb, .ls 4 ab.length (rA ab)]) (.a (.b 57 true) (.a (.at [.int .u64 qj, .bool false, .ls 4 aj.length (rA aj)]) (.a (.b 64 false) (.a (.b 73 false) .nil)))))))))))) rfl ?_))
                    repeat ((with_reducible apply And.intro); focus (first | exact True.intro | exact ⟨by omega, by omega, rfl⟩ | exact hgl | exact ⟨by omega, rfl, hgj⟩ | exact ⟨by omega, rfl, hgb⟩ | (simp [hX]; done) | omega | exact rfl))
                    exact Tri.go [] rfl ⟨by omega, trivial⟩ (again (did.length - (j + 1)) (by omega) ⟨j + 1, bn, rfl, by omega, best_keep hb1 hb2 hb3 hb4 hdj (by unfold keyD; simp only; simp; split <;> omega), rfl, keep_of rfl (by simp)⟩)
                · refine Tri.seq (Tri.block (Tri.tree (.a (.at [.bool false]) (.a (.b 29 true) (.a (.b 32 false) (.a (.at [.int .u64 qj, .bool wj, .ls 4 aj.length (rA aj)]) (.a (.at [.int .u64 qb, .bool wb, .ls 4 ab.length (rA ab)]) (.a (.b 45 false) (.a (.at [.int .u64 qj, .bool wj, .ls 4 aj.length (rA aj)]) (.a (.at [.int .u64 qb, .bool wb, .ls 4 ab.length (rA ab)]) (.a (.b 57 false) (.a (.b 64 false) (.a (.b 73 false) .nil))))))))))) rfl ?_))
                  have hX := And.intro c1 c2
                  repeat ((with_reducible apply And.intro); focus (first | exact True.intro | exact ⟨by omega, by omega, rfl⟩ | exact hgl | exact ⟨by omega, rfl, hgj⟩ | exact ⟨by omega, rfl, hgb⟩ | (simp [hX]; done) | omega | exact rfl))
                  exact Tri.go [] rfl ⟨by omega, trivial⟩ (again (did.length - (j + 1)) (by omega) ⟨j + 1, bn, rfl, by omega, best_keep hb1 hb2 hb3 hb4 hdj (by unfold keyD; simp only; split <;> split <;> omega), rfl, keep_of rfl (by simp)⟩)
        · have : j = did.length := by omega
          subst this
          refine Tri.seq (Tri.go [.b 21 false] rfl ⟨decide_eq_false (by omega), trivial⟩ ⟨b, hB, rfl, keep_of rfl rfl⟩)
      · rintro ρ hl' ⟨b, hB, rfl, hkk⟩
        refine Tri.keep _ hkk ?_
        obtain ⟨bn, d, rfl, hb1, hb2, hb3, hb4⟩ := hO.best h hB
        obtain ⟨hbase, hO'⟩ := hO.step hG hb2 hb3 hb4
        have hDI := hG.di d (List.mem_of_getElem? hb2)
        have hal := hG.al d (List.mem_of_getElem? hb2)
        have hgd : (rDd did)[bn]? = some [.int .u64 d.q, .bool d.w, .ls 4 d.acts.length (rA d.acts)] := by simp [rDd, hb2, rowD]
        have hll := hO.len
        have hrd := hDI.rd
        have hen := hDI.en
        rw [hbase] at hrd hen
        have hnn := hN.len
        refine Tri.seq (Tri.tree .nil rfl ⟨⟨by omega, by omega, rfl⟩, ⟨rfl, by simp only [rF, List.length_map]; omega, by omega⟩, ?_⟩)
        rw [show 0 + (bn : Int).toNat = bn by omega, rF_mod]
        refine Tri.seq (Tri.go [] rfl trivial ?_)
        refine Tri.block ?_
        refine Tri.lp (fun z ρ hl => ∃ (k : Nat) (now' : List Cel), z = d.acts.length - k ∧ k ≤ d.acts.length ∧ NowI (80 * i + k) now' (aft (atF L w) (d.acts.take k)) ∧ hl = [.arr 1 (rF (left.set bn true))] ∧
          keepE ρ [0, 3, 4, 5, 7, 15, 16] = some [(0, vD (lDd did)), (3, vCl now'), (4, vC (.sl 0 0 did.length)), (5, vI .i64 bn), (7, vI .i64 k), (15, vI .i64 did.length), (16, vI .i64 i)]) d.acts.length
          ⟨0, now, by omega, by omega, hN.conv (by omega) (fun t a _ => rfl), rfl, keep_of rfl rfl⟩ ?_
        rintro z ρ hl' ⟨k, now', rfl, hk, hN', rfl, hkk⟩
        refine Tri.keep _ hkk ?_
        by_cases hkn : k < d.acts.length
        · have hak : d.acts[k]? = some d.acts[k] := List.getElem?_eq_getElem hkn
          have htk : d.acts.take (k + 1) = d.acts.take k ++ [d.acts[k]] := (List.take_append_getElem hkn).symm
          have hav := hDI.av _ (List.getElem_mem hkn)
          have hga : (rA d.acts)[k]? = some [.bool d.acts[k].1, .int .i64 d.acts[k].2.1, .int .i64 d.acts[k].2.2.1, .int .u16 d.acts[k].2.2.2] := by simp [rA, hkn]
          have hrk := hrd k _ hak
          generalize d.acts[k] = act at *
          obtain ⟨wr, t, a, v⟩ := act
          simp only at hav hga hrk
          have hnl := hN'.len
          refine Tri.seq (Tri.tree (.a (.at [.int .u64 d.q, .bool d.w, .ls 4 d.acts.length (rA d.acts)]) (.a (.b 85 true) .nil)) rfl ⟨⟨by omega, rfl, hgd⟩, decide_eq_true (by omega), ?_⟩)
          cases wr with
          | true =>
            have hc := hav.2 rfl
            have hput := put16_ok (l := now') (by omega) (c := (t, a, v))
            have hNn := hN'.put hc
            rw [← aft_snoc, ← htk] at hNn
            refine Tri.seq (Tri.block (Tri.tree (.a (.at [.int .u64 d.q, .bool d.w, .ls 4 d.acts.length (rA d.acts)]) (.a (.at [.bool true, .int .i64 t, .int .i64 a, .int .u16 v]) (.a (.b 97 true) (.f [] hput .nil)))) rfl ?_))
            repeat ((with_reducible apply And.intro); focus (first | exact True.intro | exact ⟨by omega, rfl, hgd⟩ | exact ⟨by omega, rfl, hga⟩ | (simp [leVs, leP, leE, leEs, leL, leC, rwC]; done) | omega | exact rfl))
            refine Tri.let [0] [] [0, 3, 4, 5, 7, 15, 16] rfl trivial ?_
            exact Tri.go [] rfl ⟨by omega, trivial⟩ (again (d.acts.length - (k + 1)) (by omega) ⟨k + 1, _, rfl, by omega, hNn, rfl, keep_of rfl (by simp)⟩)
          | false =>
            have hget := get16_ok (l := now') (by omega) (t := t) (a := a)
            rw [hN'.eq t a hav.1] at hget
            have hval : aft (atF L w) (d.acts.take k) (t, a) = v := hrk rfl
            rw [hval] at hget
            have hNn : NowI (80 * i + (k + 1)) now' (aft (atF L w) (d.acts.take (k + 1))) := hN'.conv (by omega) fun t' a' _ => by rw [htk, aft_snoc]; rfl
            refine Tri.seq (Tri.block (Tri.tree (.a (.at [.int .u64 d.q, .bool d.w, .ls 4 d.acts.length (rA d.acts)]) (.a (.at [.bool false, .int .i64 t, .int .i64 a, .int .u16 v]) (.a (.b 97 false) (.f [] hget (.a (.b 114 false) .nil))))) rfl ?_))
            repeat ((with_reducible apply And.intro); focus (first | exact True.intro | exact ⟨by omega, rfl, hgd⟩ | exact ⟨by omega, rfl, hga⟩ | (simp [leVs, leP, leE, leEs, leL, leC, rwC]; done) | omega | exact rfl))
            refine Tri.let [0] [] [0, 3, 4, 5, 7, 15, 16] rfl trivial ?_
            exact Tri.go [] rfl ⟨by omega, trivial⟩ (again (d.acts.length - (k + 1)) (by omega) ⟨k + 1, _, rfl, by omega, hNn, rfl, keep_of rfl (by simp)⟩)
        · have : k = d.acts.length := by omega
          subst this
          rw [List.take_length] at hN'
          refine Tri.seq (Tri.tree (.a (.at [.int .u64 d.q, .bool d.w, .ls 4 d.acts.length (rA d.acts)]) (.a (.b 85 false) .nil)) rfl ⟨⟨by omega, rfl, hgd⟩, decide_eq_false (by omega), ?_⟩)
          exact Tri.go [] rfl ⟨by omega, trivial⟩ (again (did.length - (i + 1)) (by omega) ⟨i + 1, _, now', d.q, rfl, by omega, hO', hN'.conv (by omega) hen, rfl, keep_of rfl (by simp)⟩)
    · have : i = did.length := by omega
      subst this
      refine Tri.seq (Tri.go [] rfl trivial ?_)
      exact Tri.seq (Tri.go [.b 17 false] rfl ⟨decide_eq_false (by omega), trivial⟩ ⟨left, rfl⟩)
  rintro ρ hl' ⟨left, rfl⟩
  refine Tri.treeR .nil rfl ?_
  repeat' apply And.intro
  all_goals first | trivial | rfl | exact .refl _ | exact leP_refl _ | (simp [leVs, leP, leE, leEs, leL, leC, rI, rwC]; done)
end Go.Proofs.Ytpnbncdclgmegaa
