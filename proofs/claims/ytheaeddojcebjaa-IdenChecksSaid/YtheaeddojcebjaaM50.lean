/-
  Replies by two numbers, words and bits.
-/
import Derived.Test.YtheaeddojcebjaaM46
import Derived.Test.YtheaeddojcebjaaM19
import Derived.Test.YtheaeddojcebjaaM26a
set_option maxRecDepth 100000
set_option maxHeartbeats 4000000
set_option linter.unusedVariables false
set_option linter.unusedSimpArgs false
namespace Go.Proofs.Ytheaeddojcebjaa
open Go.RowKit

/-- So many noughts, as a text. -/
def zer (w : Int) : List Int := List.replicate (w % 20).toNat 0
def objsG (ws : List Int) (n : Nat) : List Obj := (List.range n).map fun (i : Nat) => ((i : Int), bytesOf (zer (ws.getD i 0)))
theorem objsG_len (ws : List Int) (n : Nat) : (objsG ws n).length = n := by simp [objsG]
theorem objsG_succ (ws : List Int) (n : Nat) : objsG ws (n + 1) = objsG ws n ++ [((n : Int), bytesOf (zer (ws.getD n 0)))] := by simp [objsG, List.range_succ]
theorem oRows_app5 (l m : List Obj) : oRows (l ++ m) = oRows l ++ oRows m := by simp [oRows]
/-- A reply by two numbers, words and bits. -/
def madeT (k v : Int) (ws : List Int) (l : List Bool) : Tell :=
  if (askG k v).fn = 1 ∨ (askG k v).fn = 2 then { fn := (askG k v).fn, bits := l }
  else if (askG k v).fn = 3 ∨ (askG k v).fn = 4 ∨ (askG k v).fn = 23 then { fn := (askG k v).fn, words := ws }
  else if (askG k v).fn = 43 then { fn := 43, code := (askG k v).code, level := 129, more := k % 3 == 0, next := dig k 3 256, objs := objsG ws (min ws.length 9) }
  else echoT (askG k v)
theorem zer_row {w : Int} (h : 0 ≤ w ∧ w ≤ 65535) : IntKind.i64.wrap (w.tmod 20) = w % 20 := by
  rw [Int.tmod_eq_emod_of_nonneg h.1, IntWalk.i64_in _ (by omega)]
theorem wrd_at6 {l : List Int} (h : Wrd l) (i : Nat) : 0 ≤ l.getD i 0 ∧ l.getD i 0 ≤ 65535 := by
  rcases Nat.lt_or_ge i l.length with h' | h'
  · rw [List.getD_eq_getElem?_getD, List.getElem?_eq_getElem h']; exact h _ (List.getElem_mem h')
  · rw [List.getD_eq_getElem?_getD, List.getElem?_eq_none h']; simp
abbrev tz6 : List C := [.t (.int .i64 0), .t (.int .i64 0), .t .nil, .t .nil, .t (.int .i64 0), .t (.int .i64 0), .t (.int .u16 0), .t (.int .u16 0), .t (.int .u16 0), .t (.int .i64 0), .t (.int .i64 0), .t (.bool false), .t (.int .i64 0), .t .nil]
abbrev tG (cd : Int) (mo : Bool) (nx : Int) (o : C) : List C := [.t (.int .i64 43), .t (.int .i64 0), .t .nil, .t .nil, .t (.int .i64 0), .t (.int .i64 0), .t (.int .u16 0), .t (.int .u16 0), .t (.int .u16 0), .t (.int .i64 cd), .t (.int .i64 129), .t (.bool mo), .t (.int .i64 nx), o]
theorem made_ok {k v : Int} (hk : b64 k) (hv : b64 v) {ws : List Int} (hw : Wrd ws) (h1 : 1 ≤ ws.length) (h2 : ws.length ≤ 1000) {l : List Bool} :
    FnOk Try.prog 62 [vI .i64 k, vI .i64 v, vWd ws, vFs l] [] (madeT k v ws l).v [] := by
  have hg := askG_ok hk hv
  obtain ⟨hgf, hgr⟩ := askG_fit k v
  have he := rEcho_ok hgf
  have hfn := of_decide_eq_true (right_known' hgr)
  unfold madeT
  generalize askG k v = g at *
  by_cases h43 : g.fn = 43
  · have he0 : echoT g = {} := by unfold echoT; rw [if_pos hgr, if_neg (by omega), if_neg (by omega), if_neg (by omega)]
    rw [he0] at he
    rw [if_neg (by omega), if_neg (by omega), if_pos h43]
    have hw3 := within_ok (k := k) (n := 3) hk (by omega)
    have hd := digit_ok (k := k) (d := 3) (n := 256) hk (by omega) (by omega)
    refine FnOk.start t62 rfl rfl rfl ?_
    refine Tri.seq (Tri.go [] rfl trivial ?_)
    refine Tri.seq (Tri.tree (.f [] hg .nil) rfl ⟨trivial, by simp [leVs, leP, leE, leL, leC], ?_⟩)
    refine Tri.seq (Tri.tree (.f [] he .nil) rfl ⟨trivial, by simp [leVs, leP, leE, leL, leC], ?_⟩)
    refine Tri.seq (Tri.seq (Tri.go [] rfl trivial ?_))
    refine Tri.block ?_
    refine Tri.seq (Tri.tree (.a (.b 19 false) .nil) rfl ⟨by simp [h43], ?_⟩)
    refine Tri.cond rfl (fun h => absurd h (by simp [h43])) (fun _ => ?_)
    refine Tri.seq (Tri.tree (.a (.b 26 false) (.a (.b 26 false) .nil)) rfl ⟨by simp [h43], by simp [h43], ?_⟩)
    refine Tri.cond rfl (fun h => absurd h (by simp [h43])) (fun _ => ?_)
    refine Tri.seq (Tri.go [] rfl trivial ?_)
    refine Tri.cond rfl (fun _ => ?_) (fun h => absurd h (by simp [h43]))
    refine Tri.seq (Tri.tree (.f [] hw3 (.f [] hd .nil)) rfl ⟨trivial, by simp [leVs, leP, leE, leC], trivial, by simp [leVs, leP, leE, leC], ?_⟩)
    refine Tri.seq (Tri.go [] rfl trivial ?_)
    refine Tri.block ?_
    generalize hm : min ws.length 9 = m
    refine Tri.lp (fun q ρ hl => ∃ i, q = m - i ∧ i ≤ m ∧ ((i = 0 ∧ hl = [.box tz6, .box g.cs, .box (tG g.code (k % 3 == 0) (dig k 3 256) (.t .nil))]) ∨ (0 < i ∧ hl = [.box tz6, .box g.cs, .box (tG g.code (k % 3 == 0) (dig k 3 256) (.sl 3 0 i)), .arr 2 (oRows (objsG ws i))])) ∧
      keepE ρ [2, 8, 9, 10, 11] = some [(2, vWd ws), (8, vC (.ptr 0 0)), (9, vC (.ptr 1 0)), (10, vC (.ptr 2 0)), (11, vI .i64 i)]) m ⟨0, by omega, by omega, .inl ⟨rfl, rfl⟩, keep_of rfl rfl⟩ ?_
    rintro q ρ hl' ⟨i, rfl, hi, hh, hkk⟩
    by_cases h2' : i < m
    · have hgi := rI_get (k := .u16) (show i < ws.length by omega)
      have hwi : 0 ≤ ws.getD i 0 ∧ ws.getD i 0 ≤ 65535 := wrd_at6 hw i
      have hq : (ws.getD i 0).tmod 20 = ws.getD i 0 % 20 := Int.tmod_eq_emod_of_nonneg hwi.1
      have hsu := objsG_succ ws i
      unfold zer at hsu
      have hlen := objsG_len ws i
      generalize ws.getD i 0 = x at *
      have hx := mod_rng x (n := 20) (by omega)
      rcases hh with ⟨rfl, rfl⟩ | ⟨h0, rfl⟩
      · refine Tri.keep _ hkk ?_
        refine Tri.seq (Tri.go [.b 48 true, .b 51 true] rfl ⟨decide_eq_true (by omega), by simp, trivial⟩ ?_)
        refine Tri.seq (Tri.block (Tri.tree (.a (.at [.int .u16 x]) (.a (.tx (List.replicate (x % 20).toNat 0)) .nil)) rfl ?_))
        rw [hq]
        refine ⟨⟨by omega, rfl, hgi⟩, by simp, by omega, by omega, ⟨.inr rfl, by simp, by simp⟩, ⟨⟨rfl, by simp⟩, trivial⟩, ⟨.inr rfl, by simp, by omega, by omega⟩, ?_⟩
        refine Tri.let [0, 1, 2, 4] [] [2, 8, 9, 10, 11] rfl trivial ?_
        refine Tri.go [] rfl ⟨by omega, trivial⟩ (again (m - (0 + 1)) (by omega) ⟨0 + 1, rfl, by omega, .inr ⟨by omega, ?_⟩, keep_of rfl (by simp)⟩)
        rw [hsu]
        rfl
      · refine Tri.keep _ hkk ?_
        refine Tri.seq (Tri.go [.b 48 true, .b 51 true] rfl ⟨decide_eq_true (by omega), by simp; omega, trivial⟩ ?_)
        refine Tri.seq (Tri.block (Tri.tree (.a (.at [.int .u16 x]) (.a (.tx (List.replicate (x % 20).toNat 0)) .nil)) rfl ?_))
        rw [hq]
        refine ⟨⟨by omega, rfl, hgi⟩, by simp, by omega, by omega, ⟨.inr rfl, by simp, by simp⟩, ⟨⟨rfl, by simp⟩, trivial⟩, ⟨.inr rfl, rfl, by simp [hlen], by simp, by omega, by omega⟩, ?_⟩
        refine Tri.let [0, 1, 2, 5] [] [2, 8, 9, 10, 11] rfl trivial ?_
        refine Tri.go [] rfl ⟨by omega, trivial⟩ (again (m - (i + 1)) (by omega) ⟨i + 1, rfl, by omega, .inr ⟨by omega, ?_⟩, keep_of rfl (by simp)⟩)
        rw [hsu, oRows_app5]
        rfl
    · have : i = m := by omega
      subst this
      rcases hh with ⟨rfl, _⟩ | ⟨h0, rfl⟩
      · omega
      refine Tri.keep _ hkk ?_
      by_cases hc : i < ws.length
      · refine Tri.go [.b 48 true, .b 51 false] rfl ⟨by simp; omega, by simp; omega, trivial⟩ (outQ ?_)
        refine Tri.treeR (.a (.call [] [3] .u []) .nil) rfl ?_
        simp [leP, leE, leL, leC, objsG_len]
        exact .nil
      · refine Tri.go [.b 48 false] rfl ⟨by simp; omega, trivial⟩ (outQ ?_)
        refine Tri.treeR (.a (.call [] [3] .u []) .nil) rfl ?_
        simp [leP, leE, leL, leC, objsG_len]
        exact .nil
  · obtain ⟨fn, at_, n, vl, an, og, bs, ws', ra, rn, cd, ob⟩ := g
    simp only at hfn h43
    rcases hfn with rfl | rfl | rfl | rfl | rfl | rfl | rfl | rfl | rfl | rfl | rfl
    all_goals first | (exact absurd rfl h43) | skip
    all_goals
      refine FnOk.tree t62 (.f [] hg (.f [] he .nil)) rfl rfl rfl rfl ?_
      simp [leVs, leP, leE, leL, leC, echoT, hgr]
end Go.Proofs.Ytheaeddojcebjaa
