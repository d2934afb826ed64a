/-
  What aop says is so: memory read and written.
-/
import Derived.Test.YtheaeddojcebjaaK10
set_option linter.unusedVariables false
set_option linter.unusedSimpArgs false
namespace Go.Proofs.Ytheaeddojcebjaa
open Go.RowKit

section
variable {P : Program} {w : World} {g : Gh}
def loadV : Option Nat → (Nat → Value) → Value
  | none, f => f 0
  | some n, f => .agg ((List.range n).map f).toArray
/-- Cells that lie from a place on, and are to be read as one value. -/
theorem run_loadVar {t : TypeId} {n : Option Nat} (ht : cellsB P t = some n) (b off : Nat) (f : Nat → Value) (h : ∀ j, j < n.getD 1 → w.cell? ⟨b, off + j, none⟩ = some (f j)) :
    (Instr.loadAt t (.pointer (some ⟨b, off, none⟩))).run P w = .ok (loadV n f) w := by
  cases n with
  | none =>
    have := h 0 (by simp)
    simp only [Nat.add_zero] at this
    simp [Instr.loadAt, Instr.sureAddr, loadVar, run_isAgg (cellsB_none ht), this, loadV]
  | some n =>
    obtain ⟨h1, h2⟩ := cellsB_some ht
    have := run_loadCells (P := P) w ⟨b, off, none⟩ n f (fun j hj => by rw [Addr.add_mid]; exact h j (by simpa using hj))
    simp [Instr.loadAt, Instr.sureAddr, loadVar, run_isAgg h1, run_sizeB h2, this, loadV]
theorem cells_of {cs : List C} {n : Nat} {f : Nat → Value} (hn : cs.length = n) (h : ∀ (j : Nat) c, cs[j]? = some c → RC w g (f j) c) : Cells w g ((List.range n).map f).toArray cs := by
  refine ⟨by simp [hn], fun j c hj => ⟨f j, ?_, h j c hj⟩⟩
  have := (List.getElem?_eq_some_iff.1 hj).1
  rw [List.getElem?_toArray, List.getElem?_map, List.getElem?_range (by omega)]
  rfl
end
section
variable {P : Program} {N : Nat} {o : Oper} {ρ : Env} {ts : List Nat} {hl : List Ob} {p : Prop} {s : Res}
theorem s_load {t : TypeId} {x : Operand} {ax : AX} {n : Option Nat} (ho : o.op = .load t x) (h1 : trX x = some ax) (t1 : ∀ t ∈ ax.ts, t ∈ ts) (ht : cellsB P t = some n) (h : aop (.load n ax) ρ hl = some (p, s)) (hp : p) : OpR P N o ρ ts hl s := by
  simp only [aop] at h
  split at h
  · rename_i id off e1
    split at h
    · rename_i cs hid
      split at h
      · rename_i q v hs
        cases h
        refine OpR.val rfl rfl fun a w g hh hrd hR he => ?_
        have r1 := rv_c (ev_ok h1 he t1 e1)
        have hob : hh id = .box cs := (hrd id (by simp)).trans hid
        obtain ⟨l, arr, ty, m1, m2, m3, m4, m5, _⟩ := hob ▸ hR.objs id (by rw [hob]; rfl)
        generalize hx : a.eval x = u at *
        cases r1 with
        | ptr _ hμ hn =>
          rename_i l'
          obtain rfl : l = l' := Option.some.inj (m1.symm.trans hμ)
          have hcell : ∀ j, w.cell? ⟨l.blk, j, none⟩ = arr[j]? := fun j => cell_of_row _ l.blk j arr ty _ m3
          cases n with
          | none =>
            simp only [sub1] at hs
            split at hs
            · rename_i c hc
              cases hs
              obtain ⟨u, u1, u2⟩ := m5 _ c hc
              refine ⟨u, ?_, .e (.c u2)⟩
              simp only [execOp, ho, hx]
              refine run_v ?_
              have := run_loadVar (P := P) (w := w) ht l.blk off (fun _ => u) (fun j hj => by simp at hj; subst hj; rw [hcell, Nat.add_zero]; exact u1)
              exact this
            · cases hs
          | some n =>
            have hlen : off + n ≤ cs.length ∧ v = vA ((cs.drop off).take n) := by
              simp only [sub1] at hs
              cases hb : (Nat.beq off 0 && Nat.beq n cs.length) with
              | true =>
                rw [hb] at hs
                simp only [cond_true] at hs
                cases hs
                simp only [Bool.and_eq_true] at hb
                obtain rfl := Nat.eq_of_beq_eq_true hb.1
                obtain rfl := Nat.eq_of_beq_eq_true hb.2
                simp
              | false =>
                rw [hb] at hs
                simp only [cond_false] at hs
                cases hs
                exact ⟨hp, rfl⟩
            obtain ⟨hle, rfl⟩ := hlen
            have hrun := run_loadVar (P := P) (w := w) ht l.blk off (fun j => (arr[off + j]?).getD undef) (fun j hj => by
              simp at hj
              rw [hcell]
              have : off + j < arr.size := by omega
              simp [this])
            refine ⟨_, by simp only [execOp, ho, hx]; exact run_v hrun, ?_⟩
            refine Cells.all (cells_of (n := n) (by simp; omega) (fun j c hj => ?_))
            · rw [List.getElem?_take] at hj
              split at hj
              · rw [List.getElem?_drop] at hj
                obtain ⟨u, u1, u2⟩ := m5 _ c hj
                rw [u1]; exact u2
              · cases hj
      · cases h
    · cases h
  · rename_i ds e1
    split at h
    · split at h
      · rename_i d ds
        obtain rfl := ret_v h
        refine OpR.val rfl rfl fun a w g hh hrd hR he => ?_
        have r1 := rv_c (ev_ok h1 he t1 e1)
        generalize hx : a.eval x = u at *
        cases r1 with
        | im b of _ us hI hc hr =>
          refine ⟨us 0, ?_, .e (.c (.t (hr 0 d rfl)))⟩
          simp only [execOp, ho, hx]
          refine run_v ?_
          have := run_loadVar (P := P) (w := w) ht b of us (fun j hj => by simp at hj; subst hj; exact hc 0 d rfl)
          exact this
      · cases h
    · rename_i n
      cases h
      refine OpR.val rfl rfl fun a w g hh hrd hR he => ?_
      have r1 := rv_c (ev_ok h1 he t1 e1)
      generalize hx : a.eval x = u at *
      cases r1 with
      | im b of _ us hI hc hr =>
        have hrun := run_loadVar (P := P) (w := w) ht b of us (fun j hj => by
          simp at hj
          have : j < ds.length := by omega
          exact hc j _ (List.getElem?_eq_getElem this))
        refine ⟨_, by simp only [execOp, ho, hx]; exact run_v hrun, ?_⟩
        refine Cells.all (cells_of (n := n) (by simp; omega) (fun j c hj => ?_))
        · rw [List.getElem?_map, List.getElem?_take] at hj
          split at hj
          · cases hd : ds[j]? with
            | none => simp [hd] at hj
            | some d => simp [hd] at hj; subst hj; exact .t (hr j d hd)
          · simp at hj
  · cases h
theorem s_loadI {t : TypeId} {x : Operand} {ax : AX} {n : Option Nat} {r : List D} (ho : o.op = .load t x) (h1 : trX x = some ax) (t1 : ∀ t ∈ ax.ts, t ∈ ts) (ht : cellsB P t = some n) (h : aopi (.load n ax) ρ hl r = some (p, s)) (hp : p) : OpR P N o ρ ts hl s := by
  simp only [aopi] at h
  split at h
  · rename_i id i k e1
    split at h
    · rename_i sz rows hid
      have key : ∀ v : V, (∀ (w : World) (g : Gh) (b : Nat) (q : Nat) (f : Nat → Value), (∀ (j : Nat) d, r[j]? = some d → w.cell? ⟨b, q + j, none⟩ = some (f j) ∧ Rd w g.I (f j) d) → ∃ u, (Instr.loadAt t (.pointer (some ⟨b, q + k, none⟩))).run P w = .ok u w ∧ RV w g u v) →
          rows[i]? = some r → OpR P N o ρ ts hl { v := v, rd := [id] } := by
        intro v hv hri
        refine OpR.val rfl rfl fun a w g hh hrd hR he => ?_
        have r1 := rv_c (ev_ok h1 he t1 e1)
        have hob : hh id = .arr sz rows := (hrd id (by simp)).trans hid
        obtain ⟨_, l, m0, m1, hcase⟩ := hob ▸ hR.objs id (by rw [hob]; rfl)
        generalize hx : a.eval x = u at *
        cases r1 with
        | el _ _ hμ hn =>
          rename_i l'
          obtain rfl : l = l' := Option.some.inj (m0.symm.trans hμ)
          rcases hcase with ⟨hc, _⟩ | ⟨_, hle, hmx, _, arr, ty, m3, m4, m5⟩
          · rw [hc] at hn; cases hn
          · obtain ⟨q1, q2⟩ := m5 i r hri
            obtain ⟨u, u1, u2⟩ := hv w g l.blk (i * sz) (fun j => (arr[i * sz + j]?).getD undef) (fun j d hj => by
              obtain ⟨v', v1, v2⟩ := q2 j d hj
              rw [cell_of_row _ l.blk (i * sz + j) arr ty _ m3, v1]
              exact ⟨rfl, v2⟩)
            refine ⟨u, ?_, u2⟩
            simp only [execOp, ho, hx]
            rw [m1]
            exact run_v u1
      split at h
      · split at h
        · rename_i d ds hd
          cases h
          refine key _ (fun w g b q f hf => ?_) hp
          have hk : r[k]? = some d := by
            have : (r.drop k)[0]? = some d := by rw [hd]; rfl
            rw [List.getElem?_drop] at this
            simpa using this
          obtain ⟨c1, c2⟩ := hf k d hk
          refine ⟨f k, ?_, .e (.c (.t c2))⟩
          have := run_loadVar (P := P) (w := w) ht b (q + k) (fun _ => f k) (fun j hj => by simp at hj; subst hj; exact c1)
          exact this
        · cases h
      · rename_i n
        cases h
        refine key _ (fun w g b q f hf => ?_) hp.1
        have hrun := run_loadVar (P := P) (w := w) ht b (q + k) (fun j => f (k + j)) (fun j hj => by
          simp at hj
          have hlt : k + j < r.length := by omega
          rw [Nat.add_assoc]
          exact (hf (k + j) _ (List.getElem?_eq_getElem hlt)).1)
        refine ⟨_, hrun, ?_⟩
        refine Cells.all (cells_of (n := n) (by simp; omega) (fun j c hj => ?_))
        rw [List.getElem?_map, List.getElem?_take] at hj
        split at hj
        · rw [List.getElem?_drop] at hj
          cases hd : r[k + j]? with
          | none => simp [hd] at hj
          | some d => simp [hd] at hj; subst hj; exact .t (hf _ d hd).2
        · simp at hj
    · cases h
  · cases h
/-- Cells stored one behind the other into a block. -/
theorem run_storeAt {t : TypeId} {n : Nat} (hs : sizeB P t = some n) {w : World} {v : Value} {b off : Nat} {cur : Array Value} {ty : TypeId} (hb : w.heap[b]? = some (.cells cur ty (0, 0))) (hn : v.cells.size = n) (hfit : off + n ≤ cur.size) (h1 : ∀ u ∈ v.cells.toList, u.oneCell' = true) :
    (Instr.storeAt t (.pointer (some ⟨b, off, none⟩)) v).run P w = .ok () (w.setRow b (cur.toList.take off ++ v.cells.toList ++ cur.toList.drop (off + n)).toArray) := by
  have hst := run_storeCells_at (P := P) b off ty v.cells.toList 0 cur w hb (by simpa [hn] using hfit) h1
  simp only [Nat.add_zero, Array.length_toList, hn] at hst
  simp [Instr.storeAt, Instr.sureAddr, storeVar, run_sizeB hs, hn, hst]
theorem splice_get (cur xs : List Value) (off : Nat) (hfit : off + xs.length ≤ cur.length) (q : Nat) : (cur.take off ++ xs ++ cur.drop (off + xs.length))[q]? = if off ≤ q ∧ q < off + xs.length then xs[q - off]? else cur[q]? := by
  by_cases h1 : q < off
  · rw [if_neg (by omega), List.append_assoc, List.getElem?_append_left (by simp; omega), List.getElem?_take_of_lt h1]
  · by_cases h2 : q < off + xs.length
    · rw [if_pos (by omega), List.append_assoc, List.getElem?_append_right (by simp; omega), List.getElem?_append_left (by simp; omega)]
      congr 1
      simp; omega
    · rw [if_neg (by omega), List.getElem?_append_right (by simp; omega), List.getElem?_drop]
      congr 1
      simp; omega
theorem re_ones {w : World} {g : Gh} {v : Value} {e : E} (h : RE w g v e) : ∀ u ∈ v.cells.toList, u.oneCell' = true := by
  obtain ⟨h1, h2⟩ := re_cells h
  intro u hu
  obtain ⟨j, hj, rfl⟩ := List.mem_iff_getElem.1 hu
  have hj' : j < e.cells.length := by rw [← h1]; simpa using hj
  obtain ⟨u', u1, u2⟩ := h2 j _ (List.getElem?_eq_getElem hj')
  have : v.cells.toList[j] = u' := by
    have := (Array.getElem?_toList (xs := v.cells) (i := j)).trans u1
    rw [List.getElem?_eq_getElem hj] at this
    exact Option.some.inj this
  rw [this]
  exact u2.one
theorem s_store {t : TypeId} {x y : Operand} {ax ay : AX} {n : Nat} (ho : o.op = .store t x y) (h1 : trX x = some ax) (h2 : trX y = some ay) (t1 : ∀ t ∈ ax.ts, t ∈ ts) (t2 : ∀ t ∈ ay.ts, t ∈ ts) (ht : sizeB P t = some n)
    (h : aop (.store n ax ay) ρ hl = some (p, s)) (hp : p) : OpR P N o ρ ts hl s := by
  simp only [aop] at h
  split at h
  · rename_i id off e e1 e2
    split at h
    · rename_i cs hid
      cases h
      obtain ⟨p1, p2⟩ := hp
      intro a w g hh hN hrd hnew hR he
      have r1 := rv_c (ev_ok h1 he t1 e1)
      have r2 := rv_e (ev_ok h2 he t2 e2)
      have hob : hh id = .box cs := (hrd id (.inl (by simp))).trans hid
      have hlive : (hh id).live = true := by rw [hob]; rfl
      obtain ⟨l, arr, ty, m1, m2, m3, m4, m5, m6⟩ := hob ▸ hR.objs id hlive
      obtain ⟨k1, k2⟩ := re_cells r2
      generalize hx : a.eval x = u at *
      cases r1 with
      | ptr _ hμ hn =>
        rename_i l'
        obtain rfl : l = l' := Option.some.inj (m1.symm.trans hμ)
        have hrun := run_storeAt (P := P) ht m3 (k1.trans p1) (off := off) (by omega) (re_ones r2)
        generalize hX : (arr.toList.take off ++ (a.eval y).cells.toList ++ arr.toList.drop (off + n)).toArray = X at hrun
        unfold Oper.wp
        have hex : (execOp a.eval o).run P w = .ok .skip (w.setRow l.blk X) := by
          simp only [execOp, ho, hx]
          simp [hrun]
        rw [hex]
        have hk : Keeps (g.fp id) w (w.setRow l.blk X) := (Keeps.refl _ _).setRow (.inr ((m6 _).2 rfl)) _
        have hsm : Same g.I w (w.setRow l.blk X) := Same.of_keeps hk hR.lt (fun b hb hf => hR.imm id b hlive hf hb)
        have hXg : ∀ q, X[q]? = if off ≤ q ∧ q < off + n then (a.eval y).cells[q - off]? else arr[q]? := fun q => by
          have hyl : (a.eval y).cells.toList.length = n := by rw [Array.length_toList, k1, p1]
          have := splice_get arr.toList (a.eval y).cells.toList off (by rw [hyl, Array.length_toList]; omega) q
          rw [hyl] at this
          rw [← hX, List.getElem?_toArray, this]
          simp
        obtain ⟨q1, q2⟩ := turn1 (base := hl.length) hR hlive hk (.box (putAt cs off e.cells)) ⟨l, X, ty, m1, m2, setRow_heap w l.blk arr X ty _ m3, by
            rw [← hX]; simp [putAt_length, k1, p1]; omega, fun j c hj => by
            rw [putAt_get] at hj
            rw [hXg]
            split at hj
            · rename_i hc
              rw [if_pos (by omega)]
              obtain ⟨u, u1, u2⟩ := k2 _ c hj
              exact ⟨u, u1, u2.more hsm (Gm.refl g)⟩
            · rename_i hc
              have hjl := (List.getElem?_eq_some_iff.1 hj).1
              rw [if_neg (by omega)]
              obtain ⟨u, u1, u2⟩ := m5 _ c hj
              exact ⟨u, u1, u2.more hsm (Gm.refl g)⟩, m6⟩ .u [id]
        exact ⟨undef, g, rfl, .u, q1, q2⟩
    · cases h
  · rename_i id i k e e1 e2
    split at h
    · rename_i sz rows ds hid hd
      cases h
      obtain ⟨p1, p2, p3⟩ := hp
      intro a w g hh hN hrd hnew hR he
      have r1 := rv_c (ev_ok h1 he t1 e1)
      have r2 := rv_e (ev_ok h2 he t2 e2)
      have hob : hh id = .arr sz rows := (hrd id (.inl (by simp))).trans hid
      have hlive : (hh id).live = true := by rw [hob]; rfl
      obtain ⟨hsz, l, m1, m2, hcase⟩ := hob ▸ hR.objs id hlive
      obtain ⟨k1, k2⟩ := re_cells r2
      have hde := unT_ok hd
      have hen : e.cells.length = n := by rw [hde, List.length_map, p1]
      generalize hx : a.eval x = u at *
      cases r1 with
      | el _ _ hμ hn =>
        rename_i l'
        obtain rfl : l = l' := Option.some.inj (m1.symm.trans hμ)
        rcases hcase with ⟨hc, _⟩ | ⟨hnn, hle, hmx, m6, arr, ty, m3, m4, m5⟩
        · rw [hc] at hn; cases hn
        · have hfit : (i * l.sz + k) + n ≤ arr.size := by
            have : (i + 1) * sz ≤ l.tot * sz := Nat.mul_le_mul_right _ (by omega)
            rw [Nat.add_mul] at this
            rw [m2, m4]
            omega
          have hrun := run_storeAt (P := P) ht m3 (k1.trans hen) (off := i * l.sz + k) hfit (re_ones r2)
          generalize hX : (arr.toList.take (i * l.sz + k) ++ (a.eval y).cells.toList ++ arr.toList.drop (i * l.sz + k + n)).toArray = X at hrun
          unfold Oper.wp
          have hex : (execOp a.eval o).run P w = .ok .skip (w.setRow l.blk X) := by
            simp only [execOp, ho, hx]
            simp [hrun]
          rw [hex]
          have hk : Keeps (g.fp id) w (w.setRow l.blk X) := (Keeps.refl _ _).setRow (.inr ((m6 _).2 rfl)) _
          have hsm : Same g.I w (w.setRow l.blk X) := Same.of_keeps hk hR.lt (fun b hb hf => hR.imm id b hlive hf hb)
          have hXg : ∀ q, X[q]? = if i * sz + k ≤ q ∧ q < i * sz + k + n then (a.eval y).cells[q - (i * sz + k)]? else arr[q]? := fun q => by
            have hyl : (a.eval y).cells.toList.length = n := by rw [Array.length_toList, k1, hen]
            have := splice_get arr.toList (a.eval y).cells.toList (i * l.sz + k) (by rw [hyl, Array.length_toList]; omega) q
            rw [hyl] at this
            rw [← hX, List.getElem?_toArray, this, m2]
            simp
          obtain ⟨q1, q2⟩ := turn1 (base := hl.length) hR hlive hk (.arr sz (rows.modify i fun r => putAt r k ds)) ⟨hsz, l, m1, m2, .inr ⟨hnn, by rw [List.length_modify]; exact hle, hmx, m6, X, ty, setRow_heap w l.blk arr X ty _ m3, by
              rw [← hX]
              have hyl : (a.eval y).cells.size = n := by rw [k1, hen]
              simp [hyl]; omega, fun p' r hr => by
              rw [List.getElem?_modify] at hr
              have hother : ∀ (r' : List D), rows[p']? = some r' → ∀ (j : Nat) d, r'[j]? = some d → ¬ (i * sz + k ≤ p' * sz + j ∧ p' * sz + j < i * sz + k + n) → ∃ v, X[p' * sz + j]? = some v ∧ Rd (w.setRow l.blk X) g.I v d := by
                intro r' hr' j d hj hc
                rw [hXg, if_neg hc]
                obtain ⟨v, v1, v2⟩ := (m5 p' r' hr').2 j d hj
                exact ⟨v, v1, v2.more hsm (fun _ h => h)⟩
              by_cases hip : i = p'
              · subst hip
                simp only [if_true] at hr
                cases hr' : rows[i]? with
                | none => simp [hr'] at hr
                | some r0 =>
                  simp [hr'] at hr
                  subst hr
                  have hl0 := (m5 i r0 hr').1
                  refine ⟨by rw [putAt_length]; exact hl0, fun j d hj => ?_⟩
                  rw [putAt_get] at hj
                  split at hj
                  · rename_i hc
                    rw [p1] at hc
                    rw [hXg, if_pos (by omega)]
                    obtain ⟨u, u1, u2⟩ := k2 (j - k) (.t d) (by rw [hde, List.getElem?_map, hj]; rfl)
                    rw [show i * sz + j - (i * sz + k) = j - k by omega]
                    exact ⟨u, u1, by cases u2 with | t u2 => exact u2.more hsm (fun _ h => h)⟩
                  · rename_i hc
                    have hjl := (List.getElem?_eq_some_iff.1 hj).1
                    rw [p1] at hc
                    exact hother r0 hr' j d hj (by omega)
              · simp only [if_neg hip] at hr
                simp at hr
                refine ⟨(m5 p' r hr).1, fun j d hj => hother r hr j d hj ?_⟩
                have hjl := (List.getElem?_eq_some_iff.1 hj).1
                have hl0 := (m5 p' r hr).1
                rintro ⟨c1, c2⟩
                rcases Nat.lt_or_ge p' i with hlt | hge
                · have : (p' + 1) * sz ≤ i * sz := Nat.mul_le_mul_right _ hlt
                  rw [Nat.add_mul] at this
                  omega
                · have : (i + 1) * sz ≤ p' * sz := Nat.mul_le_mul_right _ (by omega)
                  rw [Nat.add_mul] at this
                  omega⟩⟩ .u [id]
          exact ⟨undef, g, rfl, .u, q1, q2⟩
    · cases h
  · cases h
end
end Go.Proofs.Ytheaeddojcebjaa
