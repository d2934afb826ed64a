/-
  What aop says is so: append, copy, clear.
-/
import Derived.Test.YtheaeddojcebjaaK11
set_option linter.unusedVariables false
set_option linter.unusedSimpArgs false
namespace Go.Proofs.Ytheaeddojcebjaa
open Go.RowKit

section
variable {P : Program} {w : World} {g : Gh}
/-- What a slice, or a text, gives that is appended, or copied. -/
def Src (P : Program) (w : World) (I : Nat → Prop) (v : Value) (sz m : Nat) (rows : List (List D)) : Prop :=
  (∀ W, (Builtin.lenOf v).run P W = .ok m W) ∧ ∃ news : Array Value, news.size = m * sz ∧ RowsIn w I news sz (rows.take m) ∧ (∀ u ∈ news.toList, u.oneCell' = true) ∧ ∀ k, k ≤ m → ∀ W : World, W.heap = w.heap → (Builtin.firstCells sz k v).run P W = .ok (news.extract 0 (k * sz)) W
theorem cell_heap {w W : World} (h : W.heap = w.heap) (p : Addr) : W.cell? p = w.cell? p := by simp [World.cell?, h]
theorem src_nil (A : Option Addr) (sz : Nat) (rows : List (List D)) (I : Nat → Prop) : Src P w I (.slice A 0 0) sz 0 rows := by
  refine ⟨fun W => by simp [Builtin.lenOf], #[], by simp, fun p r hr => by simp at hr, by simp, fun k hk W hW => ?_⟩
  obtain rfl : k = 0 := by omega
  cases A <;> simp [Builtin.firstCells, loadCells, loadCellsFrom]
theorem src_cells {b of sz m c : Nat} {rows : List (List D)} {I : Nat → Prop} (f : Nat → Nat → Value) (hsz : 0 < sz) (hm : m ≤ rows.length) (hs : ∀ (i : Nat) r, rows[i]? = some r → r.length = sz)
    (hc : ∀ (i : Nat) r (j : Nat) t, rows[i]? = some r → r[j]? = some t → w.cell? ⟨b, of + (i * sz + j), none⟩ = some (f i j) ∧ Rd w I (f i j) t) : Src P w I (.slice (some ⟨b, of, none⟩) m c) sz m rows := by
  have hq : ∀ q, q < m * sz → ∃ r t, rows[q / sz]? = some r ∧ r[q % sz]? = some t := fun q hq => by
    have h1 : q / sz < m := Nat.div_lt_of_lt_mul (by rw [Nat.mul_comm]; exact hq)
    have h2 : q / sz < rows.length := by omega
    have h3 := hs (q / sz) _ (List.getElem?_eq_getElem h2)
    have h4 : q % sz < (rows[q / sz]).length := by rw [h3]; exact Nat.mod_lt _ hsz
    exact ⟨_, _, List.getElem?_eq_getElem h2, List.getElem?_eq_getElem h4⟩
  have hqe : ∀ q, q / sz * sz + q % sz = q := fun q => by rw [Nat.mul_comm]; exact Nat.div_add_mod q sz
  refine ⟨fun W => by simp [Builtin.lenOf], ((List.range (m * sz)).map fun q => f (q / sz) (q % sz)).toArray, by simp, fun p r hr => ?_, fun u hu => ?_, fun k hk W hW => ?_⟩
  · rw [List.getElem?_take] at hr
    split at hr
    · rename_i hp
      refine ⟨hs p r hr, fun j t hj => ?_⟩
      have hjl : j < sz := by rw [← hs p r hr]; exact (List.getElem?_eq_some_iff.1 hj).1
      have hlt : p * sz + j < m * sz := by
        have : (p + 1) * sz ≤ m * sz := Nat.mul_le_mul_right _ hp
        rw [Nat.add_mul] at this
        omega
      refine ⟨f p j, ?_, (hc p r j t hr hj).2⟩
      have e1 : (p * sz + j) / sz = p := by rw [Nat.mul_comm, Nat.mul_add_div hsz, Nat.div_eq_of_lt hjl, Nat.add_zero]
      have e2 : (p * sz + j) % sz = j := by rw [Nat.mul_comm, Nat.mul_add_mod, Nat.mod_eq_of_lt hjl]
      rw [List.getElem?_toArray, List.getElem?_map, List.getElem?_range hlt]
      simp [e1, e2]
    · cases hr
  · simp only [List.mem_map, List.mem_range] at hu
    obtain ⟨q, hql, rfl⟩ := hu
    obtain ⟨r, t, h1, h2⟩ := hq q hql
    exact (hc _ r _ t h1 h2).2.one
  · have hkm : k * sz ≤ m * sz := Nat.mul_le_mul_right _ hk
    have := run_loadCells (P := P) W ⟨b, of, none⟩ (k * sz) (fun q => f (q / sz) (q % sz)) (fun q hql => by
      obtain ⟨r, t, h1, h2⟩ := hq q (by omega)
      rw [cell_heap hW, Addr.add_mid, ← (hc _ r _ t h1 h2).1, hqe])
    simp only [Builtin.firstCells, this]
    congr 1
    apply Array.ext'
    simp only [List.extract_toArray, List.extract_eq_take_drop, List.drop_zero, Nat.sub_zero, ← List.map_take, List.take_range, Nat.min_eq_left hkm]
theorem shows_ok {h : Nat → Ob} {hl : List Ob} {x : V} {v : Value} {sz m : Nat} {rows : List (List D)} {rd : List Nat} (hR : Rl w g h) (hs : shows hl x = some (sz, m, rows, rd)) (hrd : ∀ i ∈ rd, h i = hx hl i) (hv : RV w g v x) (hm : m ≤ rows.length) (sz' : Nat) (hz : m = 0 ∨ sz = sz') :
    Src P w g.I v sz' m rows := by
  unfold shows at hs
  split at hs
  · cases hs
    cases rv_d hv
    exact src_nil _ _ _ _
  · cases hs
    cases rv_d hv with
    | lsn A _ => exact src_nil _ _ _ _
    | ls b of _ _ c _ us hI hn hc hmx hsz hss hcell hr =>
      rcases hz with rfl | rfl
      · have := src_cells (P := P) (w := w) (I := g.I) (m := 0) (c := c) us hsz (Nat.zero_le _) hss (fun i r j t h1 h2 => ⟨hcell i r j t h1 h2, hr i r j t h1 h2⟩)
        obtain ⟨a1, news, a3, a4, a5, a6⟩ := this
        refine ⟨a1, #[], by simp, fun p r hr => by simp at hr, by simp, fun k hk W hW => ?_⟩
        obtain rfl : k = 0 := by omega
        simp [Builtin.firstCells, loadCells, loadCellsFrom]
      · exact src_cells us hsz hm hss (fun i r j t h1 h2 => ⟨hcell i r j t h1 h2, hr i r j t h1 h2⟩)
  · rename_i id off n
    split at hs
    · rename_i sz0 rows0 hid
      cases hs
      have hob : h id = .arr sz rows0 := (hrd id (by simp)).trans hid
      obtain ⟨hsz, l, m1, m2, hcase⟩ := hob ▸ hR.objs id (by rw [hob]; rfl)
      cases rv_c hv with
      | slz _ A hμ ho => exact src_nil _ _ _ _
      | sl _ _ hμ hn ho =>
        rename_i l'
        obtain rfl : l = l' := Option.some.inj (m1.symm.trans hμ)
        rcases hcase with ⟨hc, _⟩ | ⟨_, hle, hmx, _, arr, ty, m3, m4, m5⟩
        · rw [hc] at hn; cases hn
        · rcases hz with rfl | rfl
          · refine ⟨fun W => by simp [Builtin.lenOf], #[], by simp, fun p r hr => by simp at hr, by simp, fun k hk W hW => ?_⟩
            obtain rfl : k = 0 := by omega
            simp [Builtin.firstCells, loadCells, loadCellsFrom]
          · rw [m2]
            refine src_cells (fun i j => (arr[(off + i) * sz + j]?).getD undef) hsz hm (fun i r hr => ?_) (fun i r j t h1 h2 => ?_)
            · rw [List.getElem?_drop] at hr; exact (m5 _ r hr).1
            · rw [List.getElem?_drop] at h1
              obtain ⟨u, u1, u2⟩ := (m5 _ r h1).2 j t h2
              rw [← Nat.add_assoc, ← Nat.add_mul, cell_of_row _ l.blk _ arr ty _ m3, u1]
              exact ⟨rfl, u2⟩
    · cases hs
  · rename_i st
    cases hs
    obtain rfl := rv_str hv
    have hlen : st.data.toList.length = st.size := by simp
    rw [List.length_map, hlen] at hm
    have hex : ∀ k, k ≤ st.size → (st.extract 0 k).data.map (fun b : UInt8 => Value.int IntKind.u8 (b.toNat : Int)) = (st.data.map (fun b : UInt8 => Value.int IntKind.u8 (b.toNat : Int))).extract 0 k := fun k hk => by
      rw [← Array.map_extract]
      congr 1
      simp [ByteArray.data_extract]
    refine ⟨fun W => by simp [Builtin.lenOf], ?_⟩
    rcases hz with h0 | rfl
    · refine ⟨#[], by simp [h0], fun p r hr => by simp [h0] at hr, by simp, fun k hk W hW => ?_⟩
      obtain rfl : k = 0 := by omega
      simp only [Builtin.firstCells, hex 0 (by omega)]
      simp
    · refine ⟨st.data.map fun b => .int .u8 b.toNat, by simp, fun p r hr => ?_, fun u hu => ?_, fun k hk W hW => ?_⟩
      · rw [List.getElem?_take] at hr
        split at hr
        · rw [List.getElem?_map] at hr
          cases hb : st.data.toList[p]? with
          | none => simp [hb] at hr
          | some b =>
            simp [hb] at hr
            subst hr
            refine ⟨rfl, fun j t hj => ?_⟩
            cases j with
            | zero =>
              simp at hj
              subst hj
              exact ⟨.int .u8 b.toNat, by simp; exact ⟨b, by simpa using hb, rfl⟩, .int _ _⟩
            | succ j => simp at hj
        · cases hr
      · simp at hu
        obtain ⟨b, _, rfl⟩ := hu
        rfl
      · simp only [Builtin.firstCells, hex k hk, Nat.mul_one, Sem.run_pure]
  · cases hs
/-- append, where there is room. -/
theorem run_app_room {sT xT ty e : TypeId} {sz : Nat} (ht : P.underlying sT = some (.slice e)) (hx : (∃ e', P.underlying xT = some (.slice e')) ∨ P.underlying xT = some .string) (hsz : sizeB P e = some sz) {base : Option Addr} {n m cap : Nat} {x : Value} {news : Array Value} {w' : World}
    (hl : (Builtin.lenOf x).run P w = .ok m w) (hf : (Builtin.firstCells sz m x).run P w = .ok news w) (hroom : n + m ≤ cap) (hst : ∀ a, base = some a → (storeCells (a.add (n * sz)) news.toList).run P w = .ok () w') (hb : base = none → w' = w) :
    (Builtin.append_ #[sT, xT] ty #[.slice base n cap, x]).run P w = .ok (.slice base (n + m) cap) w' := by
  have hi : ∃ i, P.info? e = some i ∧ i.size = sz := by
    unfold sizeB at hsz
    cases hi : P.info? e with
    | none => simp [hi] at hsz
    | some i => simp [hi] at hsz; exact ⟨i, rfl, hsz⟩
  obtain ⟨i, hi1, hi2⟩ := hi
  cases base with
  | none =>
    obtain rfl := hb rfl
    rcases hx with ⟨e', hx⟩ | hx <;> simp [Builtin.append_, run_underlying ht, run_underlying hx, run_sizeB hsz, hl, hroom, hf]
  | some a =>
    have := hst a rfl
    rcases hx with ⟨e', hx⟩ | hx <;> simp [Builtin.append_, run_underlying ht, run_underlying hx, run_sizeB hsz, hl, hroom, hf, this]
set_option maxHeartbeats 1000000 in
/-- append, where there is none. -/
theorem run_app_grow {sT xT ty e : TypeId} {sz by_ : Nat} {z : Value} (ht : P.underlying sT = some (.slice e)) (hx : (∃ e', P.underlying xT = some (.slice e')) ∨ P.underlying xT = some .string) (hsz : sizeB P e = some sz) (hby : bytesB P e = some by_) (hz : ∀ w, (zeroValue e).run P w = .ok z w)
    {base : Option Addr} {n m cap : Nat} {x : Value} {olds news : Array Value} (hl : (Builtin.lenOf x).run P w = .ok m w) (hfo : (Builtin.firstCells sz n (.slice base n cap)).run P w.drew = .ok olds w.drew) (hf : (Builtin.firstCells sz m x).run P w.drew = .ok news w.drew)
    (hg : cap < n + m) (hm : n + m ≤ 9223372036854775807) (hfit : (n + m) * by_ ≤ 140737488355328) :
    (Builtin.append_ #[sT, xT] ty #[.slice base n cap, x]).run P w =
      .ok (.slice (some ⟨w.heap.size, 0, none⟩) (n + m) (grownCap w (n + m) cap e)) (w.drew.alloc (.cells (olds ++ news ++ Builtin.zeroCells z.cells (grownCap w (n + m) cap e - (n + m))) e)) := by
  have hn : ¬ (n + m ≤ cap) := by omega
  have h63' : ¬ (9223372036854775807 < ((n : Int) + (m : Int))) := by omega
  have h48 := growslice_fits hg hfit
  have h48' : ¬ (281474976710656 < Builtin.nextslicecap (n + m) cap * by_) := by omega
  have hi : ∃ i, P.info? e = some i ∧ i.size = sz ∧ i.bytes = by_ := by
    unfold sizeB at hsz
    unfold bytesB at hby
    cases hi : P.info? e with
    | none => simp [hi] at hsz
    | some i => simp [hi] at hsz hby; exact ⟨i, rfl, hsz, hby⟩
  obtain ⟨i, hi1, hi2, hi3⟩ := hi
  have hh : w.drew.heap = w.heap := rfl
  rcases hx with ⟨e', hx⟩ | hx <;> (simp [Builtin.append_, run_underlying ht, run_underlying hx, run_sizeB hsz, typeInfo, hi1, hi3, hl, hn, h63', h48', Question.forced, hfo, hf, hz, newRow, grownCap])
end

section
variable {P : Program} {N : Nat} {o : Oper} {ρ : Env} {ts : List Nat} {hl : List Ob} {p : Prop} {s : Res}
theorem RowsIn.append {w : World} {I : Nat → Prop} {a b : Array Value} {sz n : Nat} {xs ys : List (List D)} (ha : RowsIn w I a sz xs) (hb : RowsIn w I b sz ys) (hx : xs.length = n) (hs : a.size = n * sz) : RowsIn w I (a ++ b) sz (xs ++ ys) := by
  intro p r hr
  by_cases h : p < xs.length
  · rw [List.getElem?_append_left h] at hr
    obtain ⟨h1, h2⟩ := ha p r hr
    refine ⟨h1, fun j t hj => ?_⟩
    obtain ⟨v, v1, v2⟩ := h2 j t hj
    have := (Array.getElem?_eq_some_iff.1 v1).1
    exact ⟨v, by rw [Array.getElem?_append_left this]; exact v1, v2⟩
  · rw [List.getElem?_append_right (by omega)] at hr
    obtain ⟨h1, h2⟩ := hb _ r hr
    refine ⟨h1, fun j t hj => ?_⟩
    obtain ⟨v, v1, v2⟩ := h2 j t hj
    have e : (p - xs.length) * sz + j = p * sz + j - a.size := by
      rw [Nat.sub_mul, hs, hx]
      have : n * sz ≤ p * sz := Nat.mul_le_mul_right _ (by omega)
      omega
    refine ⟨v, ?_, v2⟩
    rw [Array.getElem?_append_right (by rw [hs, ← hx]; have : xs.length * sz ≤ p * sz := Nat.mul_le_mul_right _ (by omega); omega), ← e]
    exact v1
theorem RowsIn.left {w : World} {I : Nat → Prop} {a b : Array Value} {sz : Nat} {xs : List (List D)} (ha : RowsIn w I a sz xs) : RowsIn w I (a ++ b) sz xs := by
  intro p r hr
  obtain ⟨h1, h2⟩ := ha p r hr
  refine ⟨h1, fun j t hj => ?_⟩
  obtain ⟨v, v1, v2⟩ := h2 j t hj
  have := (Array.getElem?_eq_some_iff.1 v1).1
  exact ⟨v, by rw [Array.getElem?_append_left this]; exact v1, v2⟩
theorem RowsIn.more {w w' : World} {I I' : Nat → Prop} {a : Array Value} {sz : Nat} {xs : List (List D)} (hs : Same I w w') (hi : ∀ b, I b → I' b) (ha : RowsIn w I a sz xs) : RowsIn w' I' a sz xs := by
  intro p r hr
  obtain ⟨h1, h2⟩ := ha p r hr
  refine ⟨h1, fun j t hj => ?_⟩
  obtain ⟨v, v1, v2⟩ := h2 j t hj
  exact ⟨v, v1, v2.more hs hi⟩
theorem Same.drewAlloc {w : World} {I : Nat → Prop} (hI : ∀ b, I b → b < w.heap.size) (o : Obj) : Same I w (w.drew.alloc o) := Same.of_keeps (F := Nope) (((Keeps.refl _ w).drew).alloc o) hI (fun _ _ f => f)
/-- What append leaves of the old list: its value and its object, or none. -/
theorem s_appendNil {c : Call} {sT xT e : TypeId} {x y : Operand} {ax ay : AX} {sz by_ : Nat} {zero : List D} (ho : o.op = .call c) (hc : c.callee = .builtin .append) (ht0 : c.argTypes[0]? = some sT) (ht1 : c.argTypes[1]? = some xT) (hargs : c.args.toList = [x, y])
    (h1 : trX x = some ax) (h2 : trX y = some ay) (t1 : ∀ t ∈ ax.ts, t ∈ ts) (t2 : ∀ t ∈ ay.ts, t ∈ ts) (hu : P.underlying sT = some (.slice e)) (hx : (∃ e', P.underlying xT = some (.slice e')) ∨ P.underlying xT = some .string)
    (hs : sizeB P e = some sz) (hb : bytesB P e = some by_) (hz : zeroD P e = some zero) (hsz : 0 < sz) (hzl : zero.length = sz) {sz' m : Nat} {rows : List (List D)} {rd : List Nat} {vy : V} (e1 : ev ρ ax = some (vD .nil)) (e2 : ev ρ ay = some vy) (e3 : shows hl vy = some (sz', m, rows, rd))
    (p1 : m = 0 ∨ sz' = sz) (p2 : m ≤ rows.length) (p3 : m * by_ ≤ 140737488355328) (p4 : m ≤ 140737488355328) : OpR P N o ρ ts hl { v := vC (.sl hl.length 0 m), rd := rd, nw := [.arr sz (rows.take m)] } := by
  have ha : c.args = #[x, y] := by rw [← Array.toArray_toList (xs := c.args), hargs]
  intro a w g hh hN hrd hnew hR he
  have r1 := rv_d (ev_ok h1 he t1 e1)
  have r2 := ev_ok h2 he t2 e2
  obtain ⟨l1, news, n1, n2, n3, n4⟩ := shows_ok (P := P) hR e3 (fun i hi => hrd i (.inl hi)) r2 p2 sz p1
  obtain ⟨z, z1, z2, z3⟩ := zeroD_ok hz
  generalize hxv : a.eval x = u at *
  cases r1 with
  | nil A =>
    have hex : ∀ v w', (Builtin.append_ #[sT, xT] o.type #[.slice A 0 0, a.eval y]).run P w = .ok v w' → (execOp a.eval o).run P w = .ok (.value v) w' := by
      intro v w' hr
      have e : Builtin.append_ c.argTypes o.type #[.slice A 0 0, a.eval y] = Builtin.append_ #[sT, xT] o.type #[.slice A 0 0, a.eval y] := by simp only [Builtin.append_, ht0, ht1]; rfl
      simp [execOp, ho, resolve, hc, invoke, builtin, ha, hxv, e, hr]
    by_cases hm0 : m = 0
    · subst hm0
      have hrun := run_app_room (P := P) (w := w) (ty := o.type) hu hx hs (base := A) (n := 0) (cap := 0) (news := news.extract 0 (0 * sz)) (w' := w) (l1 w) (n4 0 (Nat.le_refl _) w rfl) (by omega) (fun b _ => by simp [storeCells]) (fun _ => rfl)
      unfold Oper.wp
      rw [hex _ _ hrun]
      obtain ⟨q1, q2⟩ := alloc1 (w' := w) (base := hl.length) hR (Keeps.refl _ _) hnew ⟨0, true, sz, 0⟩ (fun _ => False) (.arr sz []) (fun b hb => hb.elim) ⟨hsz, _, Gh.set_at _ _ _ _, rfl, .inl ⟨rfl, rfl, rfl, fun b hb => by rw [Gh.set_fp] at hb; exact hb⟩⟩ (vC (.sl hl.length 0 0)) rd
      refine ⟨.slice A 0 0, g.set hl.length ⟨0, true, sz, 0⟩ (fun _ => False), rfl, .e (.c (.slz (l := ⟨0, true, sz, 0⟩) 0 A (Gh.set_at _ _ _ _) rfl)), ?_, ?_⟩
      · simpa using q1
      · simpa [Res.ids] using q2
    · have hrun := run_app_grow (P := P) (w := w) (ty := o.type) hu hx hs hb z1 (base := A) (n := 0) (m := m) (cap := 0) (x := a.eval y) (olds := #[]) (news := news) (l1 w) (by cases A <;> simp [Builtin.firstCells, loadCells, loadCellsFrom]) (by have := n4 m (Nat.le_refl _) w.drew rfl; rw [← n1] at this; simpa using this) (by omega) (by omega) (by rw [Nat.zero_add]; exact p3)
      simp only [Nat.zero_add, Array.empty_append] at hrun
      have hcap := grownCap_ge w m 0 e
      have hcm := grownCap_le_maxLen w m 0 e (by unfold maxLen; omega)
      generalize hG : grownCap w m 0 e = cap at *
      have hzs : (Builtin.zeroCells z.cells (cap - m)).size = (cap - m) * sz := by rw [zeroCells_length, z2, hzl]
      have hsize : (news ++ Builtin.zeroCells z.cells (cap - m)).size = cap * sz := by
        rw [Array.size_append, hzs, n1, ← Nat.add_mul]
        congr 1
        omega
      generalize hX : news ++ Builtin.zeroCells z.cells (cap - m) = X at *
      have hk : Keeps Nope w (w.drew.alloc (.cells X e)) := ((Keeps.refl _ w).drew).alloc _
      have hsm : Same g.I w (w.drew.alloc (.cells X e)) := Same.drewAlloc hR.lt _
      unfold Oper.wp
      rw [hex _ _ hrun]
      obtain ⟨q1, q2⟩ := alloc1 (base := hl.length) hR hk hnew ⟨w.heap.size, false, sz, cap⟩ (· = w.heap.size) (.arr sz (rows.take m)) (fun b hb => by omega)
        ⟨hsz, _, Gh.set_at _ _ _ _, rfl, .inr ⟨rfl, by rw [List.length_take]; show min m rows.length ≤ cap; omega, hcm, fun b => by rw [Gh.set_fp], _, e, heap_alloc_new w.drew _, hsize, by
          rw [← hX] at hsm ⊢
          exact (n2.more hsm (fun _ h => h)).left⟩⟩ (vC (.sl hl.length 0 m)) rd
      refine ⟨_, _, rfl, ?_, q1, q2⟩
      have := RC.sl (w := w.drew.alloc (.cells X e)) (g := g.set hl.length ⟨w.heap.size, false, sz, cap⟩ (· = w.heap.size)) (id := hl.length) (l := ⟨w.heap.size, false, sz, cap⟩) 0 m (Gh.set_at _ _ _ _) rfl (by show 0 + m ≤ cap; omega)
      simp only [Nat.zero_mul, Nat.sub_zero] at this
      exact .e (.c this)
theorem swap1 {w w' : World} {g : Gh} {h : Nat → Ob} {base id : Nat} (hR : Rl w g h) (hl : (h id).live = true) (hk : Keeps (g.fp id) w w') (hnew : ∀ i, isNew base 1 i → g.μ i = none ∧ h i = .dead) (l : Loc) (F : Nat → Prop) (ob : Ob)
    (hF : ∀ b, F b → g.fp id b ∨ w.heap.size ≤ b) (ho : HO w' (g.set base l F) base ob) (v : V) (rd : List Nat) :
    Rl w' (g.set base l F) (Res.app { v := v, wr := [(id, .dead)], rd := rd, nw := [ob] } base h) ∧ Go1 w g h [id] base 1 w' (g.set base l F) (Res.app { v := v, wr := [(id, .dead)], rd := rd, nw := [ob] } base h) := by
  obtain ⟨n1, n2⟩ := hnew base (isNew1.2 rfl)
  have hne : id ≠ base := fun e => by rw [e, n2] at hl; cases hl
  have happ : ∀ i, Res.app { v := v, wr := [(id, .dead)], rd := rd, nw := [ob] } base h i = if i = id then .dead else if i = base then ob else h i := by
    intro i
    simp only [Res.app, getO]
    by_cases h1 : id = i
    · subst h1; simp
    · rw [if_neg h1, if_neg (Ne.symm h1)]
      by_cases h2 : i = base
      · subst h2; simp
      · rw [if_neg h2]
        simp only
        split
        · rw [List.getElem?_eq_none (by simp; omega)]
        · rfl
  have hg : Go1 w g h [id] base 1 w' (g.set base l F) (Res.app { v := v, wr := [(id, .dead)], rd := rd, nw := [ob] } base h) := by
    refine ⟨hk.mono (fun b _ hb => ⟨id, by simp, hl, hb⟩), Gh.set_gm n1, fun b hb => .inl hb, fun i hi hn => ?_, fun i _ hi => ?_, fun i b hi hli hb => ?_⟩
    · rw [isNew1] at hi; simp only [Gh.set]; rw [if_neg hi]; exact hn
    · rw [isNew1] at hi; simp only [Gh.set]; rw [if_neg hi]
    · rcases hi with hi | hi
      · simp at hi; subst hi
        rw [happ, if_pos rfl] at hli; cases hli
      · rw [isNew1] at hi; subst hi
        simp only [Gh.set, if_true] at hb
        rcases hF b hb with h | h
        · exact .inl ⟨id, by simp, hl, h⟩
        · exact .inr h
  refine ⟨hR.step hg (fun i hi hj => ?_) (fun i hi => ?_) (fun i hi hli => ?_) (fun i j b hi hj hli hlj _ _ => ?_) (fun i b hi hli hb => ?_) (fun b hb => Nat.lt_of_lt_of_le (hR.lt b hb) hk.size), hg⟩
  · simp at hi; rw [isNew1] at hj; rw [happ, if_neg hi, if_neg hj]
  · rw [isNew1] at hi; subst hi; rw [n2]; rfl
  · rcases hi with hi | hi
    · simp at hi; subst hi
      rw [happ, if_pos rfl] at hli; cases hli
    · rw [isNew1] at hi; subst hi
      rw [happ, if_neg (Ne.symm hne), if_pos rfl]; exact ho
  · have key : ∀ k, (k ∈ [id] ∨ isNew base 1 k) → (Res.app { v := v, wr := [(id, .dead)], rd := rd, nw := [ob] } base h k).live = true → k = base := fun k hk hl => by
      rcases hk with hk | hk
      · simp at hk; subst hk; rw [happ, if_pos rfl] at hl; cases hl
      · exact isNew1.1 hk
    rw [key i hi hli, key j hj hlj]
  · rcases hi with hi | hi
    · simp at hi; subst hi
      rw [happ, if_pos rfl] at hli; cases hli
    · rw [isNew1] at hi; subst hi
      simp only [Gh.set, if_true] at hb
      intro hI
      rcases hF b hb with h | h
      · exact hR.imm id b hl h hI
      · have := hR.lt b hI; omega
theorem s_appendSl {c : Call} {sT xT e : TypeId} {x y : Operand} {ax ay : AX} {sz by_ : Nat} {zero : List D} (ho : o.op = .call c) (hc : c.callee = .builtin .append) (ht0 : c.argTypes[0]? = some sT) (ht1 : c.argTypes[1]? = some xT) (hargs : c.args.toList = [x, y])
    (h1 : trX x = some ax) (h2 : trX y = some ay) (t1 : ∀ t ∈ ax.ts, t ∈ ts) (t2 : ∀ t ∈ ay.ts, t ∈ ts) (hu : P.underlying sT = some (.slice e)) (hx : (∃ e', P.underlying xT = some (.slice e')) ∨ P.underlying xT = some .string)
    (hs : sizeB P e = some sz) (hb : bytesB P e = some by_) (hz : zeroD P e = some zero) (hsz : 0 < sz) (hzl : zero.length = sz) {sz' m id n : Nat} {rows old : List (List D)} {rd : List Nat} {vy : V} (e1 : ev ρ ax = some (vC (.sl id 0 n))) (e2 : ev ρ ay = some vy) (e3 : shows hl vy = some (sz', m, rows, rd))
    (hid : Ytheaeddojcebjaa.hx hl id = .arr sz old)
    (p1 : m = 0 ∨ sz' = sz) (p2 : n = old.length) (p3 : m ≤ rows.length) (p4 : (n + m) * by_ ≤ 140737488355328) (p5 : n + m ≤ 140737488355328) :
    OpR P N o ρ ts hl { v := vC (.sl hl.length 0 (n + m)), wr := [(id, .dead)], rd := id :: rd, nw := [.arr sz (old ++ rows.take m)] } := by
  have ha : c.args = #[x, y] := by rw [← Array.toArray_toList (xs := c.args), hargs]
  intro a w g hh hN hrd hnew hR he
  have r1 := rv_c (ev_ok h1 he t1 e1)
  have r2 := ev_ok h2 he t2 e2
  have hob : hh id = .arr sz old := (hrd id (.inl (by simp))).trans hid
  have hlive : (hh id).live = true := by rw [hob]; rfl
  obtain ⟨_, l, m1, m2, hcase⟩ := hob ▸ hR.objs id hlive
  obtain ⟨l1, news, n1, n2, n3, n4⟩ := shows_ok (P := P) hR e3 (fun i hi => hrd i (.inl (by simp [hi]))) r2 p3 sz p1
  obtain ⟨z, z1, z2, z3⟩ := zeroD_ok hz
  generalize hxv : a.eval x = u at *
  have hex : ∀ A q cp v w', u = .slice A q cp → (Builtin.append_ #[sT, xT] o.type #[.slice A q cp, a.eval y]).run P w = .ok v w' → (execOp a.eval o).run P w = .ok (.value v) w' := by
    rintro A q cp v w' rfl hr
    have e : Builtin.append_ c.argTypes o.type #[.slice A q cp, a.eval y] = Builtin.append_ #[sT, xT] o.type #[.slice A q cp, a.eval y] := by simp only [Builtin.append_, ht0, ht1]; rfl
    simp [execOp, ho, resolve, hc, invoke, builtin, ha, hxv, e, hr]
  have hnewsall : news.extract 0 (m * sz) = news := by rw [← n1]; simp
  -- growing
  have grow : ∀ (A : Option Addr) (cp : Nat) (olds : Array Value), u = .slice A n cp → cp < n + m → (∀ W : World, W.heap = w.heap → (Builtin.firstCells sz n (.slice A n cp)).run P W = .ok olds W) → RowsIn w g.I olds sz old → olds.size = n * sz →
      o.wp P a w (fun a' w' => ∃ u g', a' = a.put o.dst u ∧ RV w' g' u (vC (.sl hl.length 0 (n + m))) ∧ Rl w' g' (Res.app { v := vC (.sl hl.length 0 (n + m)), wr := [(id, .dead)], rd := id :: rd, nw := [.arr sz (old ++ rows.take m)] } hl.length hh) ∧
        Go1 w g hh [id] hl.length 1 w' g' (Res.app { v := vC (.sl hl.length 0 (n + m)), wr := [(id, .dead)], rd := id :: rd, nw := [.arr sz (old ++ rows.take m)] } hl.length hh)) (fun _ _ _ => False) := by
    intro A cp olds hu' hcp hfo hro hso
    have hrun := run_app_grow (P := P) (w := w) (ty := o.type) hu hx hs hb z1 (base := A) (n := n) (m := m) (cap := cp) (x := a.eval y) (olds := olds) (news := news) (l1 w) (hfo w.drew rfl) (by have := n4 m (Nat.le_refl _) w.drew rfl; rwa [hnewsall] at this) hcp (by omega) p4
    have hcap := grownCap_ge w (n + m) cp e
    have hcm := grownCap_le_maxLen w (n + m) cp e (by unfold maxLen; omega)
    generalize hG : grownCap w (n + m) cp e = cap at *
    have hzs : (Builtin.zeroCells z.cells (cap - (n + m))).size = (cap - (n + m)) * sz := by rw [zeroCells_length, z2, hzl]
    have hsize : (olds ++ news ++ Builtin.zeroCells z.cells (cap - (n + m))).size = cap * sz := by
      rw [Array.size_append, Array.size_append, hzs, n1, hso, ← Nat.add_mul, ← Nat.add_mul]
      congr 1
      omega
    have hk : Keeps (g.fp id) w (w.drew.alloc (.cells (olds ++ news ++ Builtin.zeroCells z.cells (cap - (n + m))) e)) := ((Keeps.refl _ w).drew).alloc _
    have hsm : Same g.I w (w.drew.alloc (.cells (olds ++ news ++ Builtin.zeroCells z.cells (cap - (n + m))) e)) := Same.drewAlloc hR.lt _
    unfold Oper.wp
    rw [hex _ _ _ _ _ hu' hrun]
    obtain ⟨q1, q2⟩ := swap1 (base := hl.length) hR hlive hk hnew ⟨w.heap.size, false, sz, cap⟩ (· = w.heap.size) (.arr sz (old ++ rows.take m)) (fun b hb => .inr (by omega))
      ⟨hsz, _, Gh.set_at _ _ _ _, rfl, .inr ⟨rfl, by rw [List.length_append, List.length_take]; show old.length + min m rows.length ≤ cap; omega, hcm, fun b => by rw [Gh.set_fp], _, e, heap_alloc_new w.drew _, hsize,
        (RowsIn.append (hro.more hsm (fun _ h => h)) (n2.more hsm (fun _ h => h)) p2.symm hso).left⟩⟩ (vC (.sl hl.length 0 (n + m))) (id :: rd)
    refine ⟨_, _, rfl, ?_, q1, q2⟩
    have := RC.sl (w := w.drew.alloc (.cells (olds ++ news ++ Builtin.zeroCells z.cells (cap - (n + m))) e)) (g := g.set hl.length ⟨w.heap.size, false, sz, cap⟩ (· = w.heap.size)) (id := hl.length) (l := ⟨w.heap.size, false, sz, cap⟩) 0 (n + m) (Gh.set_at _ _ _ _) rfl (by show 0 + (n + m) ≤ cap; omega)
    simp only [Nat.zero_mul, Nat.sub_zero] at this
    exact .e (.c this)
  cases r1 with
  | slz _ A hμ ho' =>
    rename_i l'
    obtain rfl : l = l' := Option.some.inj (m1.symm.trans hμ)
    have hold : old = [] := List.eq_nil_of_length_eq_zero p2.symm
    subst hold
    by_cases hm0 : m = 0
    · subst hm0
      have hrun := run_app_room (P := P) (w := w) (ty := o.type) hu hx hs (base := A) (n := 0) (cap := 0) (news := news.extract 0 (0 * sz)) (w' := w) (l1 w) (n4 0 (Nat.le_refl _) w rfl) (by omega) (fun b _ => by simp [storeCells]) (fun _ => rfl)
      unfold Oper.wp
      rw [hex _ _ _ _ _ rfl hrun]
      obtain ⟨q1, q2⟩ := swap1 (w' := w) (base := hl.length) hR hlive (Keeps.refl _ _) hnew ⟨0, true, sz, 0⟩ (fun _ => False) (.arr sz []) (fun b hb => hb.elim) ⟨hsz, _, Gh.set_at _ _ _ _, rfl, .inl ⟨rfl, rfl, rfl, fun b hb => by rw [Gh.set_fp] at hb; exact hb⟩⟩ (vC (.sl hl.length 0 0)) (id :: rd)
      refine ⟨.slice A 0 0, g.set hl.length ⟨0, true, sz, 0⟩ (fun _ => False), rfl, .e (.c (.slz (l := ⟨0, true, sz, 0⟩) 0 A (Gh.set_at _ _ _ _) rfl)), ?_, ?_⟩
      · simpa using q1
      · simpa [Res.ids] using q2
    · exact grow A 0 #[] rfl (by omega) (fun W _ => by cases A <;> simp [Builtin.firstCells, loadCells, loadCellsFrom]) (fun p r hr => by simp at hr) (by simp)
  | sl _ _ hμ hn ho' =>
    rename_i l'
    obtain rfl : l = l' := Option.some.inj (m1.symm.trans hμ)
    rcases hcase with ⟨hc', _⟩ | ⟨hnn, hle, hmx, m6, arr, ty, m3, m4, m5⟩
    · rw [hc'] at hn; cases hn
    · simp only [Nat.zero_mul, Nat.sub_zero] at *
      by_cases hroom : n + m ≤ l.tot
      · have hfit : n * sz + m * sz ≤ arr.size := by rw [m4, ← Nat.add_mul]; exact Nat.mul_le_mul_right _ hroom
        have hst := run_storeCells_at (P := P) l.blk (n * sz) ty news.toList 0 arr w m3 (by rw [Array.length_toList, n1]; omega) n3
        simp only [Nat.add_zero, Array.length_toList, n1] at hst
        generalize hX : (arr.toList.take (n * sz) ++ news.toList ++ arr.toList.drop (n * sz + m * sz)).toArray = X at hst
        have hrun := run_app_room (P := P) (w := w) (ty := o.type) hu hx hs (base := some ⟨l.blk, 0, none⟩) (n := n) (m := m) (cap := l.tot) (x := a.eval y) (news := news) (w' := w.setRow l.blk X) (l1 w) (by have := n4 m (Nat.le_refl _) w rfl; rwa [hnewsall] at this) hroom
          (fun b hb => by injection hb with hb; subst hb; rw [Addr.add_mid, Nat.zero_add]; exact hst) (fun h => by cases h)
        unfold Oper.wp
        rw [hex _ _ _ _ _ rfl hrun]
        have hk : Keeps (g.fp id) w (w.setRow l.blk X) := (Keeps.refl _ _).setRow (.inr ((m6 _).2 rfl)) _
        have hsm : Same g.I w (w.setRow l.blk X) := Same.of_keeps hk hR.lt (fun b hb hf => hR.imm id b hlive hf hb)
        have hXg : ∀ q, X[q]? = if n * sz ≤ q ∧ q < n * sz + m * sz then news[q - n * sz]? else arr[q]? := fun q => by
          have := splice_get arr.toList news.toList (n * sz) (by rw [Array.length_toList, Array.length_toList, n1]; exact hfit) q
          rw [Array.length_toList, n1] at this
          rw [← hX, List.getElem?_toArray, this]
          simp
        have hXs : X.size = l.tot * sz := by rw [← hX, ← m4]; simp [n1]; omega
        obtain ⟨q1, q2⟩ := swap1 (base := hl.length) hR hlive hk hnew ⟨l.blk, false, sz, l.tot⟩ (· = l.blk) (.arr sz (old ++ rows.take m)) (fun b hb => .inl ((m6 b).2 hb))
          ⟨hsz, _, Gh.set_at _ _ _ _, rfl, .inr ⟨rfl, by rw [List.length_append, List.length_take]; show old.length + min m rows.length ≤ l.tot; omega, hmx, fun b => by rw [Gh.set_fp], X, ty, setRow_heap w l.blk arr X ty _ m3, hXs, fun p r hr => by
            by_cases hp : p < old.length
            · rw [List.getElem?_append_left hp] at hr
              obtain ⟨h1, h2⟩ := m5 p r hr
              refine ⟨h1, fun j t hj => ?_⟩
              have hjl := (List.getElem?_eq_some_iff.1 hj).1
              have : (p + 1) * sz ≤ n * sz := Nat.mul_le_mul_right _ (by omega)
              rw [Nat.add_mul] at this
              obtain ⟨v, v1, v2⟩ := h2 j t hj
              exact ⟨v, by rw [hXg, if_neg (by omega)]; exact v1, v2.more hsm (fun _ h => h)⟩
            · rw [List.getElem?_append_right (by omega)] at hr
              obtain ⟨h1, h2⟩ := n2 _ r hr
              refine ⟨h1, fun j t hj => ?_⟩
              obtain ⟨v, v1, v2⟩ := h2 j t hj
              have hlt := (Array.getElem?_eq_some_iff.1 v1).1
              rw [n1] at hlt
              have e : (p - old.length) * sz + j = p * sz + j - n * sz := by
                rw [Nat.sub_mul, p2]
                have : old.length * sz ≤ p * sz := Nat.mul_le_mul_right _ (by omega)
                omega
              have hge : n * sz ≤ p * sz := Nat.mul_le_mul_right _ (by omega)
              refine ⟨v, ?_, v2.more hsm (fun _ h => h)⟩
              rw [hXg, if_pos (by rw [e] at hlt; omega), ← e]
              exact v1⟩⟩ (vC (.sl hl.length 0 (n + m))) (id :: rd)
        refine ⟨_, _, rfl, ?_, q1, q2⟩
        have := RC.sl (w := w.setRow l.blk X) (g := g.set hl.length ⟨l.blk, false, sz, l.tot⟩ (· = l.blk)) (id := hl.length) (l := ⟨l.blk, false, sz, l.tot⟩) 0 (n + m) (Gh.set_at _ _ _ _) rfl (by show 0 + (n + m) ≤ l.tot; omega)
        simp only [Nat.zero_mul, Nat.sub_zero] at this
        exact .e (.c this)
      · have hsub : n * sz ≤ arr.size := by rw [m4]; exact Nat.mul_le_mul_right _ (by omega)
        refine grow _ l.tot (arr.extract 0 (n * sz)) rfl (by omega) (fun W hW => ?_) (fun p r hr => ?_) (by simp; omega)
        · have := run_loadCells (P := P) W ⟨l.blk, 0, none⟩ (n * sz) (fun q => (arr[q]?).getD undef) (fun q hq => by
            rw [cell_heap hW, Addr.add_mid, Nat.zero_add, cell_of_row _ l.blk q arr ty _ m3]
            have : q < arr.size := by omega
            simp [this])
          simp only [Builtin.firstCells, this]
          congr 1
          apply Array.ext (by simp; omega)
          intro i hi1 hi2
          simp at hi1 hi2
          simp [show i < arr.size by omega]
        · obtain ⟨h1, h2⟩ := m5 p r hr
          refine ⟨h1, fun j t hj => ?_⟩
          have hjl := (List.getElem?_eq_some_iff.1 hj).1
          have hp := (List.getElem?_eq_some_iff.1 hr).1
          have : (p + 1) * sz ≤ n * sz := Nat.mul_le_mul_right _ (by omega)
          rw [Nat.add_mul] at this
          obtain ⟨v, v1, v2⟩ := h2 j t hj
          refine ⟨v, ?_, v2⟩
          rw [Array.getElem?_extract, if_pos (by omega), Nat.zero_add]
          exact v1
end
end Go.Proofs.Ytheaeddojcebjaa
