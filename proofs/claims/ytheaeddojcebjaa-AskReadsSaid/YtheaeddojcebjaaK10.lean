/-
  What aop says is so: boxes, lists, maps made.
-/
import Derived.Test.YtheaeddojcebjaaK9
set_option linter.unusedVariables false
set_option linter.unusedSimpArgs false
namespace Go.Proofs.Ytheaeddojcebjaa
open Go.RowKit

section
variable {P : Program} {N : Nat} {o : Oper} {ρ : Env} {ts : List Nat} {hl : List Ob} {p : Prop} {s : Res}
theorem Gh.set_at (g : Gh) (i : Nat) (l : Loc) (F : Nat → Prop) : (g.set i l F).μ i = some l := by simp [Gh.set]
theorem Gh.set_fp (g : Gh) (i : Nat) (l : Loc) (F : Nat → Prop) : (g.set i l F).fp i = F := by simp [Gh.set]
/-- One block more, as a box. -/
theorem new_box {a : Act} {w : World} {g : Gh} {h : Nat → Ob} {base : Nat} {arr : Array Value} {cs : List C} {ty : TypeId} (hR : Rl w g h) (hnew : ∀ i, isNew base 1 i → g.μ i = none ∧ h i = .dead) (hc : Cells w g arr cs)
    (hrun : (execOp a.eval o).run P w = .ok (.value (.pointer (some ⟨w.heap.size, 0, none⟩))) (w.alloc (.cells arr ty))) :
    o.wp P a w (fun a' w' => ∃ u g', a' = a.put o.dst u ∧ RV w' g' u (vC (.ptr base 0)) ∧ Rl w' g' (Res.app { v := vC (.ptr base 0), nw := [.box cs] } base h) ∧
      Go1 w g h [] base 1 w' g' (Res.app { v := vC (.ptr base 0), nw := [.box cs] } base h)) (fun _ _ _ => False) := by
  unfold Oper.wp
  rw [hrun]
  have hk : Keeps Nope w (w.alloc (.cells arr ty)) := (Keeps.refl _ _).alloc _
  have hg : Gm g (g.set base ⟨w.heap.size, false, 0, 0⟩ (· = w.heap.size)) := Gh.set_gm (hnew base (isNew1.2 rfl)).1
  have hs : Same g.I w (w.alloc (.cells arr ty)) := Same.of_keeps hk hR.lt (fun _ _ f => f)
  obtain ⟨r1, r2⟩ := alloc1 (w' := w.alloc (.cells arr ty)) hR hk hnew ⟨w.heap.size, false, 0, 0⟩ (· = w.heap.size) (.box cs) (fun b hb => by omega)
    ⟨_, arr, ty, Gh.set_at _ _ _ _, rfl, heap_alloc_new w _, hc.1, fun j c hj => by
      obtain ⟨v, v1, v2⟩ := hc.2 j c hj
      exact ⟨v, v1, v2.more hs hg⟩, fun b => by rw [Gh.set_fp]⟩ (vC (.ptr base 0)) []
  exact ⟨_, _, rfl, .e (.c (.ptr (l := ⟨w.heap.size, false, 0, 0⟩) 0 (Gh.set_at _ _ _ _) rfl)), r1, r2⟩
theorem s_box {t : TypeId} {x : Operand} {ax : AX} (ho : o.op = .box t x) (h1 : trX x = some ax) (t1 : ∀ t ∈ ax.ts, t ∈ ts) (h : aop (.box ax) ρ hl = some (p, s)) : OpR P N o ρ ts hl s := by
  simp only [aop] at h
  split at h
  · rename_i e e1
    cases h
    intro a w g hh hN hrd hnew hR he
    have hv := rv_e (ev_ok h1 he t1 e1)
    obtain ⟨k1, k2⟩ := re_cells hv
    refine new_box (arr := (a.eval x).cells) (ty := t) hR hnew ⟨k1, k2⟩ ?_
    simp [execOp, ho, Instr.box, newVar, newRow]
  · cases h
theorem s_alloc {t : TypeId} {cs : List C} (ho : o.op = .alloc t) (hz : zeroC P t = some cs) (h : aop (.alloc cs) ρ hl = some (p, s)) : OpR P N o ρ ts hl s := by
  simp only [aop] at h
  cases h
  intro a w g hh hN hrd hnew hR he
  obtain ⟨v, z1, z2⟩ := zeroC_ok hz
  refine new_box (arr := v.cells) (ty := t) hR hnew (z2 w g) ?_
  simp [execOp, ho, Instr.alloc, z1 w, newVar, newRow]
theorem s_mkMap {t : TypeId} (ho : o.op = .makeMap t none) (h : aop .mkMap ρ hl = some (p, s)) : OpR P N o ρ ts hl s := by
  simp only [aop] at h
  cases h
  intro a w g hh hN hrd hnew hR he
  have hrun : (execOp a.eval o).run P w = .ok (.value (.map (some w.heap.size))) (w.alloc (.map #[] 0)) := by simp [execOp, ho, Instr.makeMap]
  unfold Oper.wp
  rw [hrun]
  have hk : Keeps Nope w (w.alloc (.map #[] 0)) := (Keeps.refl _ _).alloc _
  obtain ⟨r1, r2⟩ := alloc1 (w' := w.alloc (.map #[] 0)) hR hk hnew ⟨w.heap.size, false, 0, 0⟩ (· = w.heap.size) (.mp []) (fun b hb => by omega)
    ⟨_, #[], 0, Gh.set_at _ _ _ _, heap_alloc_new w _, rfl, fun j c hj => by simp at hj, fun b => by rw [Gh.set_fp]⟩ (vC (.mp hl.length)) []
  exact ⟨_, _, rfl, .e (.c (.mp (l := ⟨w.heap.size, false, 0, 0⟩) (Gh.set_at _ _ _ _))), r1, r2⟩
/-- One block more, as a list. -/
theorem new_arr {a : Act} {w : World} {g : Gh} {h : Nat → Ob} {base : Nat} {arr : Array Value} {rows : List (List D)} {sz tot n : Nat} {ty : TypeId} (hR : Rl w g h) (hnew : ∀ i, isNew base 1 i → g.μ i = none ∧ h i = .dead) (hsz : 0 < sz) (hrows : RowsIn w g.I arr sz rows)
    (hs : arr.size = tot * sz) (hle : rows.length ≤ tot) (hm : tot ≤ maxLen) (hn : n ≤ tot)
    (hrun : (execOp a.eval o).run P w = .ok (.value (.slice (some ⟨w.heap.size, 0, none⟩) n tot)) (w.alloc (.cells arr ty))) :
    o.wp P a w (fun a' w' => ∃ u g', a' = a.put o.dst u ∧ RV w' g' u (vC (.sl base 0 n)) ∧ Rl w' g' (Res.app { v := vC (.sl base 0 n), nw := [.arr sz rows] } base h) ∧
      Go1 w g h [] base 1 w' g' (Res.app { v := vC (.sl base 0 n), nw := [.arr sz rows] } base h)) (fun _ _ _ => False) := by
  unfold Oper.wp
  rw [hrun]
  have hk : Keeps Nope w (w.alloc (.cells arr ty)) := (Keeps.refl _ _).alloc _
  have hsm : Same g.I w (w.alloc (.cells arr ty)) := Same.of_keeps hk hR.lt (fun _ _ f => f)
  obtain ⟨r1, r2⟩ := alloc1 (w' := w.alloc (.cells arr ty)) hR hk hnew ⟨w.heap.size, false, sz, tot⟩ (· = w.heap.size) (.arr sz rows) (fun b hb => by omega)
    ⟨hsz, _, Gh.set_at _ _ _ _, rfl, .inr ⟨rfl, hle, hm, fun b => by rw [Gh.set_fp], arr, ty, heap_alloc_new w _, hs, fun p r hr => by
      obtain ⟨q1, q2⟩ := hrows p r hr
      refine ⟨q1, fun j t hj => ?_⟩
      obtain ⟨v, v1, v2⟩ := q2 j t hj
      exact ⟨v, v1, v2.more hsm (fun _ h => h)⟩⟩⟩ (vC (.sl base 0 n)) []
  refine ⟨_, _, rfl, ?_, r1, r2⟩
  have := RC.sl (w := w.alloc (.cells arr ty)) (g := g.set base ⟨w.heap.size, false, sz, tot⟩ (· = w.heap.size)) (id := base) (l := ⟨w.heap.size, false, sz, tot⟩) 0 n (Gh.set_at _ _ _ _) rfl (by simpa using hn)
  simp only [Nat.zero_mul, Nat.sub_zero] at this
  exact .e (.c this)
theorem s_mkList {m : Bool} {t e : TypeId} {len sz : Nat} {zero : List D} {parts : Array (Nat × Operand)} {aps : List (Nat × AX)} (ho : o.op = .buildSlice t len parts) (hu : P.underlying t = some (.slice e)) (hs : sizeB P e = some sz) (hz : zeroD P e = some zero)
    (hp : listM (fun (p : Nat × Operand) => (trX p.2).map fun x => (p.1, x)) parts.toList = some aps) (t1 : ∀ r ∈ aps, ∀ t ∈ r.2.ts, t ∈ ts) (hsz : 0 < sz) (hzl : zero.length = sz) (hlen : len * sz ≤ 65536)
    (h : aop (.mkList m sz len zero aps) ρ hl = some (p, s)) (hpp : p) : OpR P N o ρ ts hl s := by
  simp only [aop] at h
  split at h
  · rename_i q rows e1
    obtain ⟨v, z1, z2, z3⟩ := zeroD_ok hz
    have key : ∀ (a : Act) (w : World) (g : Gh), EnvOn w g a ρ ts → q → ∃ arr, (execOp a.eval o).run P w = .ok (.value (.slice (some ⟨w.heap.size, 0, none⟩) len len)) (w.alloc (.cells arr e)) ∧ RowsIn w g.I arr sz rows ∧ arr.size = len * sz ∧ rows.length = len := by
      intro a w g he hq
      have hrow : RowsIn w g.I ((Array.range (len * sz)).map ((if len * sz = 0 then #[] else v.cells)[· % (if len * sz = 0 then (#[] : Array Value) else v.cells).size]!)) sz (List.replicate len zero) := by
        by_cases h0 : len * sz = 0
        · have : len = 0 := by rcases Nat.mul_eq_zero.1 h0 with h | h <;> omega
          subst this
          intro p r hr
          simp at hr
        · rw [if_neg h0]
          exact zero_rows hzl z2 z3 hsz len len (Nat.le_refl _)
      obtain ⟨arr', i1, i2, i3, i4⟩ := fillR_ok he parts.toList aps _ (List.replicate len zero) rows q hp t1 e1 hq hrow (by simp)
      refine ⟨arr', ?_, i2, by rw [i3]; simp, by rw [i4]; simp⟩
      simp only [execOp, ho]
      refine run_v ?_
      have hmap : (parts.map fun x => (x.1, a.eval x.2)).toList = parts.toList.map fun q => (q.1, a.eval q.2) := by simp
      have hlim : ¬ len * sz > 2 ^ 24 := by omega
      simp only [Instr.buildSlice, Sem.run_bind, run_underlying hu, Result.andThen_ok, run_sizeB hs]
      rw [if_neg hlim]
      by_cases h0 : len * sz = 0
      · rw [if_pos h0] at i1 ⊢
        simp only [Sem.run_bind, Result.andThen_ok, hmap, Sem.run_pure, i1, newRow, run_newObj]
        rfl
      · rw [if_neg h0] at i1 ⊢
        simp only [Sem.run_bind, Result.andThen_ok, hmap, Sem.run_pure, z1 w, i1, newRow, run_newObj]
        rfl
    have hlm : len ≤ maxLen := by
      have : len * 1 ≤ len * sz := Nat.mul_le_mul_left _ hsz
      unfold maxLen
      omega
    cases m with
    | true =>
      simp only [cond_true] at h
      cases h
      intro a w g hh hN hrd hnew hR he
      obtain ⟨arr, k1, k2, k3, k4⟩ := key a w g he hpp
      exact new_arr hR hnew hsz k2 k3 (by omega) hlm (by omega) k1
    | false =>
      simp only [cond_false] at h
      cases h
      intro a w g hh hN hrd hnew hR he
      obtain ⟨arr, k1, k2, k3, k4⟩ := key a w g he hpp
      unfold Oper.wp
      rw [k1]
      have hk : Keeps Nope w (w.alloc (.cells arr e)) := (Keeps.refl _ _).alloc _
      have hsm : Same g.I w (w.alloc (.cells arr e)) := Same.of_keeps hk hR.lt (fun _ _ f => f)
      obtain ⟨r1, r2⟩ := freeze1 (base := hl.length) hR hk (b := w.heap.size) (Nat.le_refl _) (by simp)
      rw [app_none rfl rfl]
      refine ⟨_, _, rfl, ?_, r1, r2⟩
      have hcell : ∀ (q : Nat), (w.alloc (.cells arr e)).cell? ⟨w.heap.size, 0 + q, none⟩ = arr[q]? := fun q => by
        rw [Nat.zero_add]; exact cell_of_row _ w.heap.size q arr e _ (heap_alloc_new w _)
      refine .e (.c (.t (.ls w.heap.size 0 sz len len rows (fun i j => (arr[i * sz + j]?).getD undef) (.inr rfl) (by omega) (by omega) hlm hsz (fun i r h1 => (k2 i r h1).1) (fun i r j t h1 h2 => ?_) (fun i r j t h1 h2 => ?_))))
      · obtain ⟨u, u1, u2⟩ := (k2 i r h1).2 j t h2
        rw [hcell, u1]; rfl
      · obtain ⟨u, u1, u2⟩ := (k2 i r h1).2 j t h2
        rw [u1]
        exact u2.more hsm (fun _ h => .inl h)
  · cases h
theorem s_mkSlice {t e : TypeId} {l c : Operand} {al ac : AX} {sz by_ : Nat} {zero : List D} (ho : o.op = .makeSlice t l c) (h1 : trX l = some al) (h2 : trX c = some ac) (t1 : ∀ t ∈ al.ts, t ∈ ts) (t2 : ∀ t ∈ ac.ts, t ∈ ts)
    (hu : P.underlying t = some (.slice e)) (hs : sizeB P e = some sz) (hb : bytesB P e = some by_) (hz : zeroD P e = some zero) (hsz : 0 < sz) (hzl : zero.length = sz) (h : aop (.mkSlice sz by_ zero al ac) ρ hl = some (p, s)) (hpp : p) : OpR P N o ρ ts hl s := by
  simp only [aop] at h
  split at h
  · rename_i l' c' e1 e2
    cases h
    obtain ⟨p1, p2, p3, p4⟩ := hpp
    intro a w g hh hN hrd hnew hR he
    have r1 := rv_int (ev_ok h1 he t1 e1)
    have r2 := rv_int (ev_ok h2 he t2 e2)
    obtain ⟨v, z1, z2, z3⟩ := zeroD_ok hz
    obtain ⟨L, rfl⟩ : ∃ L : Nat, l' = L := ⟨l'.toNat, by omega⟩
    obtain ⟨K, rfl⟩ : ∃ K : Nat, c' = K := ⟨c'.toNat, by omega⟩
    have hbi : ∃ i, P.info? e = some i ∧ i.bytes = by_ := by
      unfold bytesB at hb
      cases hi : P.info? e with
      | none => simp [hi] at hb
      | some i => simp [hi] at hb; exact ⟨i, rfl, hb⟩
    obtain ⟨inf, hi1, hi2⟩ := hbi
    have wr : ∀ n : Nat, (n : Int) ≤ 9223372036854775807 → IntKind.i64.wrap (n : Int) = n := fun n hn => IntWalk.i64_in _ (by omega)
    have hcond : ¬ (decide (IntKind.i64.wrap (K : Int) < 0) || decide ((by_ : Int) * IntKind.i64.wrap (K : Int) > 2 ^ 48) || decide (IntKind.i64.wrap (L : Int) < 0) || decide (IntKind.i64.wrap (L : Int) > IntKind.i64.wrap (K : Int))) = true := by
      rw [wr K (by omega), wr L (by omega)]
      have h5 : ((by_ : Int) * (K : Int)) ≤ 140737488355328 := by rw [Int.mul_comm]; exact p4
      have h6 : (2 : Int) ^ 48 = 281474976710656 := by decide
      rw [h6]
      generalize (by_ : Int) * (K : Int) = X at h5 ⊢
      intro hc
      simp only [Bool.or_eq_true, decide_eq_true_eq] at hc
      omega
    have hrun : (execOp a.eval o).run P w = .ok (.value (.slice (some ⟨w.heap.size, 0, none⟩) L K)) (w.alloc (.cells ((Array.range (K * sz)).map ((if K * sz = 0 then #[] else v.cells)[· % (if K * sz = 0 then (#[] : Array Value) else v.cells).size]!)) e)) := by
      simp only [execOp, ho, r1, r2]
      refine run_v ?_
      simp only [Instr.makeSlice, Sem.run_bind, run_underlying hu, Result.andThen_ok, asInt, asIntOf, Sem.run_pure, typeInfo, run_program, hi1, hi2]
      rw [if_neg hcond]
      simp only [Sem.run_bind, run_askRoom, Result.andThen_ok, run_sizeB hs, wr K (by omega), wr L (by omega), Int.toNat_natCast]
      by_cases h0 : K * sz = 0
      · simp only [if_pos h0, Sem.run_bind, Result.andThen_ok, Sem.run_pure, newRow, run_newObj]
        rfl
      · simp only [if_neg h0, Sem.run_bind, Result.andThen_ok, Sem.run_pure, z1 w, newRow, run_newObj]
        rfl
    have hrow : RowsIn w g.I ((Array.range (K * sz)).map ((if K * sz = 0 then #[] else v.cells)[· % (if K * sz = 0 then (#[] : Array Value) else v.cells).size]!)) sz (List.replicate L zero) := by
      by_cases h0 : K * sz = 0
      · have : K = 0 := by rcases Nat.mul_eq_zero.1 h0 with h | h <;> omega
        have : L = 0 := by omega
        subst this
        intro p r hr
        simp at hr
      · rw [if_neg h0]
        exact zero_rows hzl z2 z3 hsz L K (by omega)
    exact new_arr (P := P) (o := o) (a := a) (n := L) hR hnew hsz hrow (by simp) (by simp; omega) (by unfold maxLen; omega) (by omega) hrun
  · cases h
end
end Go.Proofs.Ytheaeddojcebjaa
