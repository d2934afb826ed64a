/-
  The law TellBack.
-/
import Derived.Test.YtheaeddojcebjaaM47
import Derived.Test.YtheaeddojcebjaaM48
import Derived.Test.YtheaeddojcebjaaM50
set_option maxRecDepth 100000
set_option maxHeartbeats 4000000
set_option linter.unusedVariables false
set_option linter.unusedSimpArgs false
namespace Go.Proofs.Ytheaeddojcebjaa
open Go.RowKit

theorem w2_byt {x : Int} (h : 0 ≤ x ∧ x ≤ 65535) : Byt (w2 x) := fun y hy => by simp [w2] at hy; rcases hy with rfl | rfl <;> omega
theorem byt_app6 {l m : List Int} (h1 : Byt l) (h2 : Byt m) : Byt (l ++ m) := fun y hy => (List.mem_append.1 hy).elim (h1 y) (h2 y)
theorem ws2_byt {l : List Int} (hl : Wrd l) : Byt (ws2 l) := fun y hy => by
  simp only [ws2, List.mem_flatMap] at hy
  obtain ⟨z, hz, hy⟩ := hy
  exact w2_byt (hl z hz) y hy
theorem packL_byt (l : List Bool) : Byt (packL l) := fun y hy => by
  simp only [packL, packN, List.mem_map] at hy
  obtain ⟨j, _, rfl⟩ := hy
  have := byteAt_lt l j
  omega
theorem objB_byt : ∀ (l : List Obj), (∀ o ∈ l, 0 ≤ o.1 ∧ o.1 ≤ 255 ∧ o.2.size ≤ 255) → Byt (objB l)
  | [], _ => by intro x hx; simp [objB] at hx
  | o :: l, h => by
    have h0 := h o (by simp)
    have e : objB (o :: l) = [o.1, (o.2.size : Int)] ++ sB o.2 ++ objB l := by simp [objB]
    rw [e]
    refine byt_app6 (byt_app6 ?_ (sB_byt _)) (objB_byt l fun p hp => h p (by simp [hp]))
    intro x hx
    simp at hx
    rcases hx with rfl | rfl <;> omega
theorem tellB_fine {a : Tell} (hf : a.Fit) (h : a.right = true) (he : a.exc = 0) : Byt (tellB a) ∧ 1 ≤ (tellB a).length ∧ (tellB a).length ≤ 253 := by
  have hk := of_decide_eq_true (tRight_known h he)
  have ho := right_only h he
  have hv := hf.val
  have ha := hf.and_
  have hor := hf.or_
  have hw := hf.wrd
  simp only [Tell.right, if_pos he, Bool.and_eq_true] at h
  obtain ⟨_, _, hp, hr⟩ := h
  have hp := of_decide_eq_true hp
  obtain ⟨fn, exc, bs, ws, at_, n, vl, an, og, cd, lv, mo, nx, os⟩ := a
  simp only at he hk hv ha hor hw hp
  subst he
  have pl : (packL bs).length = (bs.length + 7) / 8 := packN_length _ _
  have wl := ws2_len ws
  have b1 : ∀ x : Int, 0 ≤ x ∧ x ≤ 255 → Byt [x] := fun x hx y hy => by simp at hy; subst hy; exact hx
  have b2 : ∀ x y : Int, 0 ≤ x ∧ x ≤ 255 → 0 ≤ y ∧ y ≤ 255 → Byt [x, y] := fun x z hx hz y hy => by simp at hy; rcases hy with rfl | rfl <;> assumption
  rcases hk with rfl | rfl | rfl | rfl | rfl | rfl | rfl | rfl | rfl | rfl | rfl
  case inr.inr.inr.inr.inr.inr.inr.inr.inr.inr =>
    simp [Tell.rest, countsB, bytefulB] at hr
    obtain ⟨r1, r2, r3⟩ := objsOk_rng (show (7 : Int) ≤ 253 by omega) hr.2.2.2
    have hb := objB_byt os fun o ho => by
      obtain ⟨i, hi, rfl⟩ := List.getElem_of_mem ho
      have := r3 i hi
      omega
    refine ⟨?_, by simp [tellB], by simp [tellB]; omega⟩
    have e : tellB { fn := 43, exc := 0, bits := bs, words := ws, at_ := at_, n := n, val := vl, and_ := an, or_ := og, code := cd, level := lv, more := mo, next := nx, objs := os } = [43, 14, cd, lv, if mo then 255 else 0, nx, (os.length : Int)] ++ objB os := by simp [tellB]
    rw [e]
    refine byt_app6 ?_ hb
    intro x hx
    simp at hx
    rcases hx with rfl | rfl | rfl | rfl | rfl | rfl | rfl
    all_goals (try (split)) <;> omega
  all_goals simp [Tell.rest, countsB] at hr
  all_goals simp only [tellB]
  all_goals
    refine ⟨?_, by simp [w2], by simp [w2, pl, wl]; try omega⟩
  all_goals first
    | exact byt_app6 (b2 _ _ (by omega) (by omega)) (packL_byt _)
    | exact byt_app6 (b2 _ _ (by omega) (by omega)) (ws2_byt hw)
    | exact byt_app6 (byt_app6 (b1 _ (by omega)) (w2_byt (by omega))) (w2_byt (by omega))
    | exact byt_app6 (byt_app6 (byt_app6 (b1 _ (by omega)) (w2_byt (by omega))) (w2_byt (by omega))) (w2_byt (by omega))
theorem zer_size (x : Int) : (bytesOf (zer x)).size = (x % 20).toNat := by simp [bytesOf, zer, ByteArray.size]
theorem objsG_small {ws : List Int} {n : Nat} {o : Obj} (h : o ∈ objsG ws n) : 0 ≤ o.1 ∧ o.1 < n ∧ o.2.size ≤ 19 := by
  simp only [objsG, List.mem_map, List.mem_range] at h
  obtain ⟨i, hi, rfl⟩ := h
  have := mod_rng (ws.getD i 0) (n := 20) (by omega)
  refine ⟨by simp, by simp; omega, ?_⟩
  rw [zer_size]
  omega
theorem objsOk_small : ∀ {l : List Obj} {n : Int}, n + 21 * l.length ≤ 253 → (∀ o ∈ l, 0 ≤ o.1 ∧ o.1 ≤ 255 ∧ o.2.size ≤ 19) → objsOk n l = true
  | [], _, _, _ => rfl
  | o :: l, n, hn, h => by
    obtain ⟨h1, h2, h3⟩ := h o (by simp)
    simp only [List.length_cons] at hn
    simp only [objsOk, Bool.and_eq_true, decide_eq_true_eq]
    refine ⟨⟨decide_eq_true (by omega), by omega⟩, objsOk_small (by omega) fun p hp => h p (by simp [hp])⟩
theorem madeT_ok {k v : Int} {ws : List Int} (hw : Wrd ws) (h1 : 1 ≤ ws.length) (h2 : ws.length ≤ 125) {l : List Bool} (h3 : 1 ≤ l.length) (h4 : l.length ≤ 200) :
    (madeT k v ws l).Fit ∧ (madeT k v ws l).right = true ∧ (madeT k v ws l).exc = 0 ∧ ((madeT k v ws l).fn = 1 ∨ (madeT k v ws l).fn = 2 → (l.length : Int) = (madeT k v ws l).bits.length) := by
  obtain ⟨hgf, hgr⟩ := askG_fit k v
  have hfn := of_decide_eq_true (right_known' hgr)
  have hob : ∀ o ∈ objsG ws (min ws.length 9), 0 ≤ o.1 ∧ o.1 ≤ 255 ∧ o.2.size ≤ 19 := fun o ho => by
    have := objsG_small ho
    omega
  have hol := objsG_len ws (min ws.length 9)
  have hok := objsOk_small (l := objsG ws (min ws.length 9)) (n := 7) (by omega) hob
  have hdg := dig_rng k 3 (n := 256) (by omega)
  unfold madeT
  have hgr' := hgr
  generalize askG k v = g at *
  generalize objsG ws (min ws.length 9) = os at *
  have z : b64 0 := by simp [b64]
  have f64 : b64 g.fn := hgf.fn
  have nb : ([] : List Bool).length ≤ 1000000000000 := by simp
  have nw : ([] : List Int).length ≤ 1000000000000 := by simp
  split
  · rename_i hc
    refine ⟨fitT f64 z z (by simp) (by simp) (by simp) (by show l.length ≤ _; omega) nw wrd_nil rfl rfl rfl rfl rfl, ?_, rfl, fun _ => rfl⟩
    have hk : known g.fn = true := decide_eq_true hfn
    simp [Tell.right, hk, Tell.only, hc, tEq, placeB, Tell.rest, countsB]
    omega
  split
  · rename_i hc0 hc
    refine ⟨fitT f64 z z (by simp) (by simp) (by simp) nb (by show ws.length ≤ _; omega) hw rfl rfl rfl rfl rfl, ?_, rfl, fun h => absurd h hc0⟩
    have hk : known g.fn = true := decide_eq_true hfn
    simp [Tell.right, hk, Tell.only, hc, hc0, tEq, placeB, Tell.rest, countsB]
    omega
  split
  · rename_i hc0 hc1 h43
    have hr := hgr
    simp [Ask.right, Ask.rest, known, countsB, bytefulB, h43] at hr
    refine ⟨⟨by simp [b64], z, nb, nw, wrd_nil, z, z, by simp, by simp, by simp, hgf.code, by simp [b64], by simp only [b64]; omega, ?_, ?_⟩, ?_, rfl, fun h => by simp at h⟩
    · show os.length ≤ _
      omega
    · intro o ho
      have := hob o ho
      simp only [b64]
      omega
    · simp [Tell.right, known, Tell.only, tEq, placeB, Tell.rest, countsB, hok, bytefulB]
      omega
  · obtain ⟨w1, w2, w3, _⟩ := echo_bytes hgr (by omega)
    exact ⟨echo_fit hgf, w1, w2, fun h => by omega⟩
theorem tellBack_ok {k v : Int} (hk : b64 k) (hv : b64 v) {ws : List Int} (hw : Wrd ws) (hwl : ws.length ≤ 9223372036854775807) {l : List Bool} (hll : l.length ≤ 9223372036854775807) {at_ : Int} (hat : b64 at_) {by_ : Int} (hby : 0 ≤ by_ ∧ by_ ≤ 255) {n : Int} (hn : b64 n) :
    FnOk Try.prog 16 [vI .i64 k, vI .i64 v, vWd ws, vFs l, vI .i64 at_, vI .u8 by_, vI .i64 n] [] (vB true) [] := by
  have haw := awake6_ok
  by_cases c1 : ws.length < 1
  · exact FnOk.tree t16 (.a (.b 28 true) (.f [] haw .nil)) rfl rfl rfl rfl (by simp [leVs, leP, leE, leC]; omega)
  by_cases c2 : 125 < ws.length
  · exact FnOk.tree t16 (.a (.b 28 false) (.a (.b 33 true) (.f [] haw .nil))) rfl rfl rfl rfl (by simp [leVs, leP, leE, leC]; omega)
  by_cases c3 : l.length < 1
  · exact FnOk.tree t16 (.a (.b 28 false) (.a (.b 33 false) (.a (.b 38 true) (.f [] haw .nil)))) rfl rfl rfl rfl (by simp [leVs, leP, leE, leC]; omega)
  by_cases c4 : 200 < l.length
  · exact FnOk.tree t16 (.a (.b 28 false) (.a (.b 33 false) (.a (.b 38 false) (.a (.b 43 true) (.f [] haw .nil))))) rfl rfl rfl rfl (by simp [leVs, leP, leE, leC]; omega)
  have hm := made_ok hk hv hw (show 1 ≤ ws.length by omega) (by omega) (l := l)
  obtain ⟨hf, hr, he, hbn⟩ := madeT_ok (k := k) (v := v) hw (show 1 ≤ ws.length by omega) (by omega) (l := l) (by omega) (by omega)
  generalize madeT k v ws l = T at *
  obtain ⟨hbt, hb1, hb2⟩ := tellB_fine hf hr he
  have hpp := pTell_tellB hf hr he hbn
  have hb := tellBR_ok hf
  rw [show tellBR T = (tellB T, 0) from if_pos hr] at hb
  generalize tellB T = B at *
  have hll' : b64 (l.length : Int) := by simp only [b64]; omega
  have hp := tellParse_ok (b := B) hbt (by omega) hll'
  rw [hpp] at hp
  have hrt := tRight_ok hf
  rw [hr] at hrt
  have hst := sameTell_ok hf
  refine FnOk.start t16 rfl rfl rfl ?_
  refine Tri.seq (Tri.go [] rfl trivial ?_)
  refine Tri.seq (Tri.tree (.a (.b 28 false) (.a (.b 33 false) (.a (.b 38 false) (.a (.b 43 false) (.f [] haw .nil))))) rfl ⟨by simp; omega, by simp; omega, by simp; omega, by simp; omega, trivial, trivial, ?_⟩)
  refine Tri.seq (Tri.tree (.f [] hm .nil) rfl ⟨trivial, by simp [leVs, leP, leE, leC], ?_⟩)
  refine Tri.seq (Tri.tree (.f [] hb .nil) rfl ⟨trivial, by simp [leVs, leP, leE, leL, leC], ?_⟩)
  refine Tri.seq (Tri.tree (.f [] hp .nil) rfl ⟨trivial, by simp [leVs, leP, leE, leL, leC], ?_⟩)
  refine Tri.seq (Tri.tree (.f [] hrt (.f [] hst .nil)) rfl ⟨trivial, by simp [leVs, leP, leE, leL, leC], trivial, by simp [leVs, leP, leE, leL, leC], ?_⟩)
  refine Tri.seq (Tri.go [] rfl ?_ ?_)
  · simp; omega
  have hwi := within_ok (k := at_) (n := B.length) hat (by omega)
  have hwr := mod_rng at_ (n := B.length) (by omega)
  obtain ⟨i, hi⟩ := Int.eq_ofNat_of_zero_le hwr.1
  rw [hi] at hwi hwr
  have hy := at_byt hbt i
  have hgi := rI_get (k := .u8) (show i < B.length by omega)
  have ht : (rI .u8 B).take B.length = rI .u8 B := by rw [rI_take]; simp
  rw [ht]
  refine Tri.seq (Tri.tree (.f [] hwi (.a (.at [.int .u8 (B.getD i 0)]) .nil)) rfl ?_)
  refine ⟨trivial, by simp [leVs, leP, leE, leC], ⟨by omega, hwr.2, rfl⟩, by simpa using hgi, trivial, ⟨by omega, hwr.2, rfl⟩, ⟨rfl, by simp; omega, by omega⟩, ?_⟩
  have hyy : 0 ≤ IntKind.u8.wrap (B.getD i 0 + by_) ∧ IntKind.u8.wrap (B.getD i 0 + by_) ≤ 255 := by rw [wu8]; omega
  rw [show 0 + (i : Int).toNat = i by omega, rI_mod]
  have hX := byt_set hbt i hyy
  have hXl : (B.set i (IntKind.u8.wrap (B.getD i 0 + by_))).length = B.length := by simp
  generalize B.set i (IntKind.u8.wrap (B.getD i 0 + by_)) = X at *
  show Tri _ _ _ _ _ _ _
  have hwn := within_ok (k := n) (n := B.length + 4) hn (by omega)
  have hnr := mod_rng n (n := B.length + 4) (by omega)
  obtain ⟨m, hm'⟩ := Int.eq_ofNat_of_zero_le hnr.1
  rw [hm'] at hwn hnr
  refine Tri.seq (Tri.tree (.f [] hwn .nil) rfl ⟨by simp only; omega, trivial, by simp [leVs, leP, leE, leC], ?_⟩)
  refine Tri.mid (fun ρ hl => ∃ x rows o0 o1, Byt x ∧ x.length ≤ 300 ∧ rows.take x.length = rI .u8 x ∧ ((hl = [o0, o1, .arr 1 rows] ∧ keepE ρ [3, 20] = some [(3, vFs l), (20, vC (.sl 2 0 x.length))]) ∨ (hl = [o0, o1, .dead, .arr 1 rows] ∧ keepE ρ [3, 20] = some [(3, vFs l), (20, vC (.sl 3 0 x.length))]))) ?_ ?_
  · by_cases hc : m ≤ X.length
    · refine Tri.tree (.a (.b 102 true) .nil) rfl ⟨by simp; omega, ?_⟩
      refine ⟨⟨by simp, by simp, by simp; omega, rfl⟩, X.take m, rI .u8 X, _, _, fun y hy => hX y (List.mem_of_mem_take hy), by simp; omega, ?_, .inl ⟨rfl, keep_of rfl ?_⟩⟩
      · rw [rI_take, List.length_take, Nat.min_eq_left hc]
      · simp; omega
    · refine Tri.tree (.a (.b 102 false) .nil) rfl ⟨by simp; omega, ?_⟩
      refine ⟨by simp only; omega, ⟨by simp only; omega, rfl, by simp [hXl], by simp only; omega, by simp only; omega⟩, X ++ List.replicate (m - X.length) 0, _, _, _, ?_, by simp; omega, ?_, .inr ⟨rfl, keep_of rfl ?_⟩⟩
      · refine byt_app6 hX fun y hy => ?_
        rw [List.eq_of_mem_replicate hy]
        omega
      · simp [rI, hXl]
        rw [List.take_of_length_le (by simp; omega)]
      · simp
        omega
  rintro ρ hl' ⟨x, rows, o0, o1, hx, hxl, hrows, hh⟩
  have hp2 := tellParse_ok (b := x) hx (by omega) hll'
  have hrp := rTellParse_ok (b := x) hx (by omega) hll'
  have hsa := sameTell_ok (a := (pTell x l.length).1) (pTell_fit hx (by omega) hll')
  have hrl : x.length ≤ rows.length := by
    have := congrArg List.length hrows
    simp at this
    omega
  rcases hh with ⟨rfl, hkk⟩ | ⟨rfl, hkk⟩
  · refine Tri.keep _ hkk ?_
    refine Tri.let [] [2] [3, 20] rfl ?_ ?_
    · simpa using hrl
    refine Tri.treeR (.f [] hp2 (.f [] hrp (.a (.b 129 true) (.f [] hsa .nil)))) rfl ?_
    simp [leVs, leP, leE, leC, hrows]
  · refine Tri.keep _ hkk ?_
    refine Tri.let [] [3] [3, 20] rfl ?_ ?_
    · simpa using hrl
    refine Tri.treeR (.f [] hp2 (.f [] hrp (.a (.b 129 true) (.f [] hsa .nil)))) rfl ?_
    simp [leVs, leP, leE, leC, hrows]
end Go.Proofs.Ytheaeddojcebjaa
