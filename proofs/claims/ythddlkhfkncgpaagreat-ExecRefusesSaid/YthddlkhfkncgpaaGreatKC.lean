/-
  What aop says is so: append, copy, clear.
  What aop says is so: copy, clear, bytes as a text.
  What aop says is so: maps from numbers to data.
  What aop says is so: maps from pairs of numbers, their values data, or lists in memory of the map's own.
  What aop says is so: every operation.
  Functions, told by what they are given and what they give (FnOk), and their calls.
  Calls, as steps.
  Regions: the operations' steps, one behind the other, and in the text's order.
  Regions that draw their order.
-/
import Derived.Test.YthddlkhfkncgpaaGreatKB
import Derived.ChangeMaps4
import Derived.Maps.RangeRun
set_option linter.unusedVariables false
set_option linter.unusedSimpArgs false
namespace Go.Proofs.YthddlkhfkncgpaaGreat
open Go.RowKit

section
variable {P : Program} {w : World} {g : Gh}
/-- What a slice, or a text, gives that is appended, or copied. -/
def Src (P : Program) (w : World) (I : Nat → Prop) (v : Value) (sz m : Nat) (rows : List (List D)) : Prop :=
  (∀ W, (Builtin.lenOf v).run P W = .ok m W) ∧ ∃ news : Array Value, news.size = m * sz ∧ RowsIn w I news sz (rows.take m) ∧ (∀ u ∈ news.toList, u.oneCell' = true) ∧ ∀ k, k ≤ m → ∀ W : World, W.heap = w.heap → (Builtin.firstCells sz k v).run P W = .ok (news.extract 0 (k * sz)) W
theorem cell_heap {w W : World} (h : W.heap = w.heap) (p : Addr) : W.cell? p = w.cell? p := by simp [World.cell?, h]
theorem src_nil (A : Option Addr) (sz : Nat) (rows : List (List D)) (I : Nat → Prop) : Src P w I (.slice A 0 0) sz 0 rows := by
  refine ⟨fun W => by simp [Builtin.lenOf], #[], by simp, fun p r hr => by simp at hr, by simp, fun k hk W hW => ?_⟩
  obtain rfl : k = 0 := by omega
  cases A <;> simp [Builtin.firstCells, loadCells, loadCellsFrom]
theorem src_cells {b of sz m c : Nat} {rows : List (List D)} {I : Nat → Prop} (f : Nat → Nat → Value) (hsz : 0 < sz) (hm : m ≤ rows.length) (hs : ∀ (i : Nat) r, rows[i]? = some r → r.length = sz)
    (hc : ∀ (i : Nat) r (j : Nat) t, rows[i]? = some r → r[j]? = some t → w.cell? ⟨b, of + (i * sz + j), none⟩ = some (f i j) ∧ Rd w I (f i j) t) : Src P w I (.slice (some ⟨b, of, none⟩) m c) sz m rows := by
  have hq : ∀ q, q < m * sz → ∃ r t, rows[q / sz]? = some r ∧ r[q % sz]? = some t := fun q hq => by
    have h1 : q / sz < m := Nat.div_lt_of_lt_mul (by rw [Nat.mul_comm]; exact hq)
    have h2 : q / sz < rows.length := by omega
    have h3 := hs (q / sz) _ (List.getElem?_eq_getElem h2)
    have h4 : q % sz < (rows[q / sz]).length := by rw [h3]; exact Nat.mod_lt _ hsz
    exact ⟨_, _, List.getElem?_eq_getElem h2, List.getElem?_eq_getElem h4⟩
  have hqe : ∀ q, q / sz * sz + q % sz = q := fun q => by rw [Nat.mul_comm]; exact Nat.div_add_mod q sz
  refine ⟨fun W => by simp [Builtin.lenOf], ((List.range (m * sz)).map fun q => f (q / sz) (q % sz)).toArray, by simp, fun p r hr => ?_, fun u hu => ?_, fun k hk W hW => ?_⟩
  · rw [List.getElem?_take] at hr
    split at hr
    · rename_i hp
      refine ⟨hs p r hr, fun j t hj => ?_⟩
      have hjl : j < sz := by rw [← hs p r hr]; exact (List.getElem?_eq_some_iff.1 hj).1
      have hlt : p * sz + j < m * sz := by
        have : (p + 1) * sz ≤ m * sz := Nat.mul_le_mul_right _ hp
        rw [Nat.add_mul] at this
        omega
      refine ⟨f p j, ?_, (hc p r j t hr hj).2⟩
      have e1 : (p * sz + j) / sz = p := by rw [Nat.mul_comm, Nat.mul_add_div hsz, Nat.div_eq_of_lt hjl, Nat.add_zero]
      have e2 : (p * sz + j) % sz = j := by rw [Nat.mul_comm, Nat.mul_add_mod, Nat.mod_eq_of_lt hjl]
      rw [List.getElem?_toArray, List.getElem?_map, List.getElem?_range hlt]
      simp [e1, e2]
    · cases hr
  · simp only [List.mem_map, List.mem_range] at hu
    obtain ⟨q, hql, rfl⟩ := hu
    obtain ⟨r, t, h1, h2⟩ := hq q hql
    exact (hc _ r _ t h1 h2).2.one
  · have hkm : k * sz ≤ m * sz := Nat.mul_le_mul_right _ hk
    have := run_loadCells (P := P) W ⟨b, of, none⟩ (k * sz) (fun q => f (q / sz) (q % sz)) (fun q hql => by
      obtain ⟨r, t, h1, h2⟩ := hq q (by omega)
      rw [cell_heap hW, Addr.add_mid, ← (hc _ r _ t h1 h2).1, hqe])
    simp only [Builtin.firstCells, this]
    congr 1
    apply Array.ext'
    simp only [List.extract_toArray, List.extract_eq_take_drop, List.drop_zero, Nat.sub_zero, ← List.map_take, List.take_range, Nat.min_eq_left hkm]
theorem shows_ok {h : Nat → Ob} {hl : List Ob} {x : V} {v : Value} {sz m : Nat} {rows : List (List D)} {rd : List Nat} (hR : Rl w g h) (hs : shows hl x = some (sz, m, rows, rd)) (hrd : ∀ i ∈ rd, h i = hx hl i) (hv : RV w g v x) (hm : m ≤ rows.length) (sz' : Nat) (hz : m = 0 ∨ sz = sz') :
    Src P w g.I v sz' m rows := by
  unfold shows at hs
  split at hs
  · cases hs
    cases rv_d hv
    exact src_nil _ _ _ _
  · cases hs
    cases rv_d hv with
    | lsn A _ => exact src_nil _ _ _ _
    | ls b of _ _ c _ us hI hn hc hmx hsz hss hcell hr =>
      rcases hz with rfl | rfl
      · have := src_cells (P := P) (w := w) (I := g.I) (m := 0) (c := c) us hsz (Nat.zero_le _) hss (fun i r j t h1 h2 => ⟨hcell i r j t h1 h2, hr i r j t h1 h2⟩)
        obtain ⟨a1, news, a3, a4, a5, a6⟩ := this
        refine ⟨a1, #[], by simp, fun p r hr => by simp at hr, by simp, fun k hk W hW => ?_⟩
        obtain rfl : k = 0 := by omega
        simp [Builtin.firstCells, loadCells, loadCellsFrom]
      · exact src_cells us hsz hm hss (fun i r j t h1 h2 => ⟨hcell i r j t h1 h2, hr i r j t h1 h2⟩)
  · rename_i id off n
    split at hs
    · rename_i sz0 rows0 hid
      cases hs
      have hob : h id = .arr sz rows0 := (hrd id (by simp)).trans hid
      obtain ⟨hsz, l, m1, m2, hcase⟩ := hob ▸ hR.objs id (by rw [hob]; rfl)
      cases rv_c hv with
      | slz _ A hμ ho => exact src_nil _ _ _ _
      | sl _ _ hμ hn ho =>
        rename_i l'
        obtain rfl : l = l' := Option.some.inj (m1.symm.trans hμ)
        rcases hcase with ⟨hc, _⟩ | ⟨_, hle, hmx, _, arr, ty, m3, m4, m5⟩
        · rw [hc] at hn; cases hn
        · rcases hz with rfl | rfl
          · refine ⟨fun W => by simp [Builtin.lenOf], #[], by simp, fun p r hr => by simp at hr, by simp, fun k hk W hW => ?_⟩
            obtain rfl : k = 0 := by omega
            simp [Builtin.firstCells, loadCells, loadCellsFrom]
          · rw [m2]
            refine src_cells (fun i j => (arr[(off + i) * sz + j]?).getD undef) hsz hm (fun i r hr => ?_) (fun i r j t h1 h2 => ?_)
            · rw [List.getElem?_drop] at hr; exact (m5 _ r hr).1
            · rw [List.getElem?_drop] at h1
              obtain ⟨u, u1, u2⟩ := (m5 _ r h1).2 j t h2
              rw [← Nat.add_assoc, ← Nat.add_mul, cell_of_row _ l.blk _ arr ty _ m3, u1]
              exact ⟨rfl, u2⟩
    · cases hs
  · rename_i st
    cases hs
    obtain rfl := rv_str hv
    have hlen : st.data.toList.length = st.size := by simp
    rw [List.length_map, hlen] at hm
    have hex : ∀ k, k ≤ st.size → (st.extract 0 k).data.map (fun b : UInt8 => Value.int IntKind.u8 (b.toNat : Int)) = (st.data.map (fun b : UInt8 => Value.int IntKind.u8 (b.toNat : Int))).extract 0 k := fun k hk => by
      rw [← Array.map_extract]
      congr 1
      simp [ByteArray.data_extract]
    refine ⟨fun W => by simp [Builtin.lenOf], ?_⟩
    rcases hz with h0 | rfl
    · refine ⟨#[], by simp [h0], fun p r hr => by simp [h0] at hr, by simp, fun k hk W hW => ?_⟩
      obtain rfl : k = 0 := by omega
      simp only [Builtin.firstCells, hex 0 (by omega)]
      simp
    · refine ⟨st.data.map fun b => .int .u8 b.toNat, by simp, fun p r hr => ?_, fun u hu => ?_, fun k hk W hW => ?_⟩
      · rw [List.getElem?_take] at hr
        split at hr
        · rw [List.getElem?_map] at hr
          cases hb : st.data.toList[p]? with
          | none => simp [hb] at hr
          | some b =>
            simp [hb] at hr
            subst hr
            refine ⟨rfl, fun j t hj => ?_⟩
            cases j with
            | zero =>
              simp at hj
              subst hj
              exact ⟨.int .u8 b.toNat, by simp; exact ⟨b, by simpa using hb, rfl⟩, .int _ _⟩
            | succ j => simp at hj
        · cases hr
      · simp at hu
        obtain ⟨b, _, rfl⟩ := hu
        rfl
      · simp only [Builtin.firstCells, hex k hk, Nat.mul_one, Sem.run_pure]
  · cases hs
/-- append, where there is room. -/
theorem run_app_room {sT xT ty e : TypeId} {sz : Nat} (ht : P.underlying sT = some (.slice e)) (hx : (∃ e', P.underlying xT = some (.slice e')) ∨ P.underlying xT = some .string) (hsz : sizeB P e = some sz) {base : Option Addr} {n m cap : Nat} {x : Value} {news : Array Value} {w' : World}
    (hl : (Builtin.lenOf x).run P w = .ok m w) (hf : (Builtin.firstCells sz m x).run P w = .ok news w) (hroom : n + m ≤ cap) (hst : ∀ a, base = some a → (storeCells (a.add (n * sz)) news.toList).run P w = .ok () w') (hb : base = none → w' = w) :
    (Builtin.append_ #[sT, xT] ty #[.slice base n cap, x]).run P w = .ok (.slice base (n + m) cap) w' := by
  have hi : ∃ i, P.info? e = some i ∧ i.size = sz := by
    unfold sizeB at hsz
    cases hi : P.info? e with
    | none => simp [hi] at hsz
    | some i => simp [hi] at hsz; exact ⟨i, rfl, hsz⟩
  obtain ⟨i, hi1, hi2⟩ := hi
  cases base with
  | none =>
    obtain rfl := hb rfl
    rcases hx with ⟨e', hx⟩ | hx <;> simp [Builtin.append_, run_underlying ht, run_underlying hx, run_sizeB hsz, hl, hroom, hf]
  | some a =>
    have := hst a rfl
    rcases hx with ⟨e', hx⟩ | hx <;> simp [Builtin.append_, run_underlying ht, run_underlying hx, run_sizeB hsz, hl, hroom, hf, this]
set_option maxHeartbeats 1000000 in
/-- append, where there is none. -/
theorem run_app_grow {sT xT ty e : TypeId} {sz by_ : Nat} {z : Value} (ht : P.underlying sT = some (.slice e)) (hx : (∃ e', P.underlying xT = some (.slice e')) ∨ P.underlying xT = some .string) (hsz : sizeB P e = some sz) (hby : bytesB P e = some by_) (hz : ∀ w, (zeroValue e).run P w = .ok z w)
    {base : Option Addr} {n m cap : Nat} {x : Value} {olds news : Array Value} (hl : (Builtin.lenOf x).run P w = .ok m w) (hfo : (Builtin.firstCells sz n (.slice base n cap)).run P w.drew = .ok olds w.drew) (hf : (Builtin.firstCells sz m x).run P w.drew = .ok news w.drew)
    (hg : cap < n + m) (hm : n + m ≤ 9223372036854775807) (hfit : (n + m) * by_ ≤ 140737488355328) :
    (Builtin.append_ #[sT, xT] ty #[.slice base n cap, x]).run P w =
      .ok (.slice (some ⟨w.heap.size, 0, none⟩) (n + m) (grownCap w (n + m) cap e)) (w.drew.alloc (.cells (olds ++ news ++ Builtin.zeroCells z.cells (grownCap w (n + m) cap e - (n + m))) e)) := by
  have hn : ¬ (n + m ≤ cap) := by omega
  have h63' : ¬ (9223372036854775807 < ((n : Int) + (m : Int))) := by omega
  have h48 := growslice_fits hg hfit
  have h48' : ¬ (281474976710656 < Builtin.nextslicecap (n + m) cap * by_) := by omega
  have hi : ∃ i, P.info? e = some i ∧ i.size = sz ∧ i.bytes = by_ := by
    unfold sizeB at hsz
    unfold bytesB at hby
    cases hi : P.info? e with
    | none => simp [hi] at hsz
    | some i => simp [hi] at hsz hby; exact ⟨i, rfl, hsz, hby⟩
  obtain ⟨i, hi1, hi2, hi3⟩ := hi
  have hh : w.drew.heap = w.heap := rfl
  rcases hx with ⟨e', hx⟩ | hx <;> (simp [Builtin.append_, run_underlying ht, run_underlying hx, run_sizeB hsz, typeInfo, hi1, hi3, hl, hn, h63', h48', Question.forced, hfo, hf, hz, newRow, grownCap])
end

section
variable {P : Program} {N : Nat} {o : Oper} {ρ : Env} {ts : List Nat} {hl : List Ob} {p : Prop} {s : Res}
theorem RowsIn.append {w : World} {I : Nat → Prop} {a b : Array Value} {sz n : Nat} {xs ys : List (List D)} (ha : RowsIn w I a sz xs) (hb : RowsIn w I b sz ys) (hx : xs.length = n) (hs : a.size = n * sz) : RowsIn w I (a ++ b) sz (xs ++ ys) := by
  intro p r hr
  by_cases h : p < xs.length
  · rw [List.getElem?_append_left h] at hr
    obtain ⟨h1, h2⟩ := ha p r hr
    refine ⟨h1, fun j t hj => ?_⟩
    obtain ⟨v, v1, v2⟩ := h2 j t hj
    have := (Array.getElem?_eq_some_iff.1 v1).1
    exact ⟨v, by rw [Array.getElem?_append_left this]; exact v1, v2⟩
  · rw [List.getElem?_append_right (by omega)] at hr
    obtain ⟨h1, h2⟩ := hb _ r hr
    refine ⟨h1, fun j t hj => ?_⟩
    obtain ⟨v, v1, v2⟩ := h2 j t hj
    have e : (p - xs.length) * sz + j = p * sz + j - a.size := by
      rw [Nat.sub_mul, hs, hx]
      have : n * sz ≤ p * sz := Nat.mul_le_mul_right _ (by omega)
      omega
    refine ⟨v, ?_, v2⟩
    rw [Array.getElem?_append_right (by rw [hs, ← hx]; have : xs.length * sz ≤ p * sz := Nat.mul_le_mul_right _ (by omega); omega), ← e]
    exact v1
theorem RowsIn.left {w : World} {I : Nat → Prop} {a b : Array Value} {sz : Nat} {xs : List (List D)} (ha : RowsIn w I a sz xs) : RowsIn w I (a ++ b) sz xs := by
  intro p r hr
  obtain ⟨h1, h2⟩ := ha p r hr
  refine ⟨h1, fun j t hj => ?_⟩
  obtain ⟨v, v1, v2⟩ := h2 j t hj
  have := (Array.getElem?_eq_some_iff.1 v1).1
  exact ⟨v, by rw [Array.getElem?_append_left this]; exact v1, v2⟩
theorem RowsIn.more {w w' : World} {I I' : Nat → Prop} {a : Array Value} {sz : Nat} {xs : List (List D)} (hs : Same I w w') (hi : ∀ b, I b → I' b) (ha : RowsIn w I a sz xs) : RowsIn w' I' a sz xs := by
  intro p r hr
  obtain ⟨h1, h2⟩ := ha p r hr
  refine ⟨h1, fun j t hj => ?_⟩
  obtain ⟨v, v1, v2⟩ := h2 j t hj
  exact ⟨v, v1, v2.more hs hi⟩
theorem Same.drewAlloc {w : World} {I : Nat → Prop} (hI : ∀ b, I b → b < w.heap.size) (o : Obj) : Same I w (w.drew.alloc o) := Same.of_keeps (F := Nope) (((Keeps.refl _ w).drew).alloc o) hI (fun _ _ f => f)
/-- What append does with its second argument u, that stands for m elements (news). -/
structure AppArg (P : Program) (w : World) (sT xT ty e : TypeId) (sz by_ : Nat) (z u : Value) (m : Nat) (news : Array Value) : Prop where
  room : ∀ {base : Option Addr} {n cap : Nat} {w' : World}, n + m ≤ cap → (∀ a, base = some a → (storeCells (a.add (n * sz)) news.toList).run P w = .ok () w') → (base = none → w' = w) →
    (Builtin.append_ #[sT, xT] ty #[.slice base n cap, u]).run P w = .ok (.slice base (n + m) cap) w'
  grow : ∀ {base : Option Addr} {n cap : Nat} {olds : Array Value}, (Builtin.firstCells sz n (.slice base n cap)).run P w.drew = .ok olds w.drew → cap < n + m → n + m ≤ 9223372036854775807 → (n + m) * by_ ≤ 140737488355328 →
    (Builtin.append_ #[sT, xT] ty #[.slice base n cap, u]).run P w =
      .ok (.slice (some ⟨w.heap.size, 0, none⟩) (n + m) (grownCap w (n + m) cap e)) (w.drew.alloc (.cells (olds ++ news ++ Builtin.zeroCells z.cells (grownCap w (n + m) cap e - (n + m))) e))
/-- Where the elements that are appended come from. -/
def AppSrc (P : Program) (o : Oper) (ρ : Env) (ts : List Nat) (hl : List Ob) (sT xT e : TypeId) (sz by_ : Nat) (z : Value) (y : Operand) (m : Nat) (new : List (List D)) (rd : List Nat) : Prop :=
  ∀ (a : Act) (w : World) (g : Gh) (h : Nat → Ob), (∀ i ∈ rd, h i = hx hl i) → Rl w g h → EnvOn w g a ρ ts →
    ∃ news : Array Value, news.size = m * sz ∧ RowsIn w g.I news sz new ∧ (∀ u ∈ news.toList, u.oneCell' = true) ∧ AppArg P w sT xT o.type e sz by_ z (a.eval y) m news
theorem appSrc_list {P : Program} {o : Oper} {ρ : Env} {ts : List Nat} {hl : List Ob} {sT xT e : TypeId} {y : Operand} {ay : AX} {sz by_ : Nat} {z : Value} (h2 : trX y = some ay) (t2 : ∀ t ∈ ay.ts, t ∈ ts) (hu : P.underlying sT = some (.slice e))
    (hx : (∃ e', P.underlying xT = some (.slice e')) ∨ P.underlying xT = some .string) (hs : sizeB P e = some sz) (hb : bytesB P e = some by_) (z1 : ∀ w, (zeroValue e).run P w = .ok z w) {sz' m : Nat} {rows : List (List D)} {rd : List Nat} {vy : V} (e2 : ev ρ ay = some vy) (e3 : shows hl vy = some (sz', m, rows, rd))
    (p1 : m = 0 ∨ sz' = sz) (p2 : m ≤ rows.length) : AppSrc P o ρ ts hl sT xT e sz by_ z y m (rows.take m) rd := by
  intro a w g h hrd hR he
  have r2 := ev_ok h2 he t2 e2
  obtain ⟨l1, news, n1, n2, n3, n4⟩ := shows_ok (P := P) hR e3 hrd r2 p2 sz p1
  have hnewsall : news.extract 0 (m * sz) = news := by rw [← n1]; simp
  refine ⟨news, n1, n2, n3, fun hroom hst hb' => ?_, fun hfo hcp h63 h48 => ?_⟩
  · have := n4 m (Nat.le_refl _) w rfl
    rw [hnewsall] at this
    exact run_app_room hu hx hs (l1 w) this hroom hst hb'
  · have := n4 m (Nat.le_refl _) w.drew rfl
    rw [hnewsall] at this
    exact run_app_grow hu hx hs hb z1 (l1 w) hfo this hcp h63 h48
set_option maxHeartbeats 1000000 in
/-- So many zero elements. -/
theorem appSrc_zeros {P : Program} {o : Oper} {ρ : Env} {ts : List Nat} {hl : List Ob} {sT xT e : TypeId} {y : Operand} {ay : AX} {sz by_ : Nat} {zero : List D} {z : Value} {k k' : IntKind} (h2 : trX y = some ay) (t2 : ∀ t ∈ ay.ts, t ∈ ts) (hu : P.underlying sT = some (.slice e))
    (hx : P.underlying xT = some (.int k)) (hs : sizeB P e = some sz) (hb : bytesB P e = some by_) (hsz : 0 < sz) (hzl : zero.length = sz) (z1 : ∀ w, (zeroValue e).run P w = .ok z w) (z2 : z.cells.size = zero.length) (z3 : ∀ w I (j : Nat) d, zero[j]? = some d → ∃ u, z.cells[j]? = some u ∧ Rd w I u d)
    {m : Nat} (e2 : ev ρ ay = some (vI k' m)) (hm : m ≤ 140737488355328) (hmb : m * by_ ≤ 140737488355328) : AppSrc P o ρ ts hl sT xT e sz by_ z y m (List.replicate m zero) [] := by
  intro a w g h _ hR he
  have r2 := rv_int (ev_ok h2 he t2 e2)
  have hi : ∃ i, P.info? e = some i ∧ i.size = sz ∧ i.bytes = by_ := by
    unfold sizeB at hs
    unfold bytesB at hb
    cases hi : P.info? e with
    | none => simp [hi] at hs
    | some i => simp [hi] at hs hb; exact ⟨i, rfl, hs, hb⟩
  obtain ⟨i, hi1, hi2, hi3⟩ := hi
  have hw : IntKind.i64.wrap (m : Int) = m := IntWalk.i64_in _ (by omega)
  have hneg : ¬ ((m : Int) < 0) := by omega
  have h48 : ¬ ((281474976710656 : Int) < (m : Int) * (by_ : Int)) := by
    have : ((m : Int) * (by_ : Int)) = ((m * by_ : Nat) : Int) := by simp
    rw [this]
    omega
  have hzo : ∀ v ∈ z.cells, v.oneCell' = true := fun v hv => by
    obtain ⟨j, hj, rfl⟩ := Array.mem_iff_getElem.1 hv
    have hj' : j < zero.length := by rw [← z2]; exact hj
    obtain ⟨u', u1, u2⟩ := z3 w g.I j _ (List.getElem?_eq_getElem hj')
    rw [Array.getElem?_eq_getElem hj] at u1
    injection u1 with u1
    rw [u1]; exact u2.one
  have hzr : RowsIn w g.I (Builtin.zeroCells z.cells m) sz (List.replicate m zero) := by
    have := zero_rows (w := w) (g := g) hzl z2 z3 hsz m m (Nat.le_refl _)
    have e : Builtin.zeroCells z.cells m = (Array.range (m * sz)).map (z.cells[· % z.cells.size]!) := by simp [Builtin.zeroCells, z2, hzl]
    rw [e]; exact this
  have hnz : ∀ W : World, (if m * sz = 0 then (pure #[] : Sem (Array Value)) else do pure (Builtin.zeroCells (← zeroValue e).cells m)).run P W = .ok (Builtin.zeroCells z.cells m) W := by
    intro W
    by_cases h0 : m * sz = 0
    · have : m = 0 := by rcases Nat.mul_eq_zero.1 h0 with h | h <;> omega
      subst this
      rw [if_pos h0]
      simp [Builtin.zeroCells]
    · rw [if_neg h0]
      simp [z1]
  have hz0 : m * sz = 0 → Builtin.zeroCells z.cells m = #[] := fun h0 => by
    have : m = 0 := by rcases Nat.mul_eq_zero.1 h0 with h | h <;> omega
    subst this
    simp [Builtin.zeroCells]
  refine ⟨Builtin.zeroCells z.cells m, by rw [zeroCells_length, z2, hzl], hzr, zeroCells_one _ _ hzo (fun _ => by rw [z2, hzl]; exact hsz), fun hroom hst hb' => ?_, fun hfo hcp h63 h48' => ?_⟩
  · rename_i base n cap w'
    cases base with
    | none =>
      obtain rfl := hb' rfl
      simp [Builtin.append_, run_underlying hu, run_underlying hx, run_sizeB hs, r2, asInt, asIntOf, hw, hneg, h48, typeInfo, hi1, hi3, hroom, z1]
    | some b =>
      have := hst b rfl
      by_cases h0 : m * sz = 0
      · rw [hz0 h0] at this
        simp at this
        simp [Builtin.append_, run_underlying hu, run_underlying hx, run_sizeB hs, r2, asInt, asIntOf, hw, hneg, h48, typeInfo, hi1, hi3, hroom, h0, this]
      · simp [Builtin.append_, run_underlying hu, run_underlying hx, run_sizeB hs, r2, asInt, asIntOf, hw, hneg, h48, typeInfo, hi1, hi3, hroom, h0, z1, this]
  · rename_i base n cap olds
    have hn : ¬ (n + m ≤ cap) := by omega
    have h63' : ¬ (9223372036854775807 < ((n : Int) + (m : Int))) := by omega
    have h48a := growslice_fits hcp h48'
    have h48b : ¬ (281474976710656 < Builtin.nextslicecap (n + m) cap * by_) := by omega
    by_cases h0 : m * sz = 0
    · rw [hz0 h0]
      simp [Builtin.append_, run_underlying hu, run_underlying hx, run_sizeB hs, r2, asInt, asIntOf, hw, hneg, h48, typeInfo, hi1, hi3, hn, h63', h48b, Question.forced, hfo, h0, z1, newRow, grownCap]
    · simp [Builtin.append_, run_underlying hu, run_underlying hx, run_sizeB hs, r2, asInt, asIntOf, hw, hneg, h48, typeInfo, hi1, hi3, hn, h63', h48b, Question.forced, hfo, h0, z1, newRow, grownCap]

/-- What append leaves of the old list: its value and its object, or none. -/
theorem s_appendNil {c : Call} {sT xT e : TypeId} {x y : Operand} {ax : AX} {sz by_ : Nat} {z : Value} (ho : o.op = .call c) (hc : c.callee = .builtin .append) (ht0 : c.argTypes[0]? = some sT) (ht1 : c.argTypes[1]? = some xT) (hargs : c.args.toList = [x, y])
    (h1 : trX x = some ax) (t1 : ∀ t ∈ ax.ts, t ∈ ts)
    (hzl : z.cells.size = sz) (hsz : 0 < sz) {m : Nat} {new : List (List D)} {rd : List Nat} (e1 : ev ρ ax = some (vD .nil)) (hnl : new.length = m) (hsrc : AppSrc P o ρ ts hl sT xT e sz by_ z y m new rd)
    (p3 : m * by_ ≤ 140737488355328) (p4 : m ≤ 140737488355328) : OpR P N o ρ ts hl { v := vC (.sl hl.length 0 m), rd := rd, nw := [.arr sz new] } := by
  have ha : c.args = #[x, y] := by rw [← Array.toArray_toList (xs := c.args), hargs]
  intro a w g hh hN hrd hnew hR he
  have r1 := rv_d (ev_ok h1 he t1 e1)
  obtain ⟨news, n1, n2, n3, hA⟩ := hsrc a w g hh (fun i hi => hrd i (.inl hi)) hR he
  generalize hxv : a.eval x = u at *
  cases r1 with
  | nil A =>
    have hex : ∀ v w', (Builtin.append_ #[sT, xT] o.type #[.slice A 0 0, a.eval y]).run P w = .ok v w' → (execOp a.eval o).run P w = .ok (.value v) w' := by
      intro v w' hr
      have e : Builtin.append_ c.argTypes o.type #[.slice A 0 0, a.eval y] = Builtin.append_ #[sT, xT] o.type #[.slice A 0 0, a.eval y] := by simp only [Builtin.append_, ht0, ht1]; rfl
      simp [execOp, ho, resolve, hc, invoke, builtin, ha, hxv, e, hr]
    by_cases hm0 : m = 0
    · subst hm0
      have hn0 : news.toList = [] := List.eq_nil_of_length_eq_zero (by simp [n1])
      have hnew0 : new = [] := List.eq_nil_of_length_eq_zero hnl
      subst hnew0
      have hrun := hA.room (base := A) (n := 0) (cap := 0) (w' := w) (by omega) (fun b _ => by rw [hn0]; simp [storeCells]) (fun _ => rfl)
      unfold Oper.wp
      rw [hex _ _ hrun]
      obtain ⟨q1, q2⟩ := alloc1 (w' := w) (base := hl.length) hR (Keeps.refl _ _) hnew ⟨0, true, sz, 0⟩ (fun _ => False) (.arr sz []) (fun b hb => hb.elim) ⟨hsz, _, Gh.set_at _ _ _ _, rfl, .inl ⟨rfl, rfl, rfl, fun b hb => by rw [Gh.set_fp] at hb; exact hb⟩⟩ (vC (.sl hl.length 0 0)) rd
      refine ⟨.slice A 0 0, g.set hl.length ⟨0, true, sz, 0⟩ (fun _ => False), rfl, .e (.c (.slz (l := ⟨0, true, sz, 0⟩) 0 A (Gh.set_at _ _ _ _) rfl)), ?_, ?_⟩
      · simpa using q1
      · simpa [Res.ids] using q2
    · have hrun := hA.grow (base := A) (n := 0) (cap := 0) (olds := #[]) (by cases A <;> simp [Builtin.firstCells, loadCells, loadCellsFrom]) (by omega) (by omega) (by rw [Nat.zero_add]; exact p3)
      simp only [Nat.zero_add, Array.empty_append] at hrun
      have hcap := grownCap_ge w m 0 e
      have hcm := grownCap_le_maxLen w m 0 e (by unfold maxLen; omega)
      generalize hG : grownCap w m 0 e = cap at *
      have hzs : (Builtin.zeroCells z.cells (cap - m)).size = (cap - m) * sz := by rw [zeroCells_length, hzl]
      have hsize : (news ++ Builtin.zeroCells z.cells (cap - m)).size = cap * sz := by
        rw [Array.size_append, hzs, n1, ← Nat.add_mul]
        congr 1
        omega
      generalize hX : news ++ Builtin.zeroCells z.cells (cap - m) = X at *
      have hk : Keeps Nope w (w.drew.alloc (.cells X e)) := ((Keeps.refl _ w).drew).alloc _
      have hsm : Same g.I w (w.drew.alloc (.cells X e)) := Same.drewAlloc hR.lt _
      unfold Oper.wp
      rw [hex _ _ hrun]
      obtain ⟨q1, q2⟩ := alloc1 (base := hl.length) hR hk hnew ⟨w.heap.size, false, sz, cap⟩ (· = w.heap.size) (.arr sz new) (fun b hb => by omega)
        ⟨hsz, _, Gh.set_at _ _ _ _, rfl, .inr ⟨rfl, by rw [hnl]; show m ≤ cap; omega, hcm, fun b => by rw [Gh.set_fp], _, e, heap_alloc_new w.drew _, hsize, by
          rw [← hX] at hsm ⊢
          exact (n2.more hsm (fun _ h => h)).left⟩⟩ (vC (.sl hl.length 0 m)) rd
      refine ⟨_, _, rfl, ?_, q1, q2⟩
      have := RC.sl (w := w.drew.alloc (.cells X e)) (g := g.set hl.length ⟨w.heap.size, false, sz, cap⟩ (· = w.heap.size)) (id := hl.length) (l := ⟨w.heap.size, false, sz, cap⟩) 0 m (Gh.set_at _ _ _ _) rfl (by show 0 + m ≤ cap; omega)
      simp only [Nat.zero_mul, Nat.sub_zero] at this
      exact .e (.c this)
theorem swap1 {w w' : World} {g : Gh} {h : Nat → Ob} {base id : Nat} (hR : Rl w g h) (hl : (h id).live = true) (hk : Keeps (g.fp id) w w') (hnew : ∀ i, isNew base 1 i → g.μ i = none ∧ h i = .dead) (l : Loc) (F : Nat → Prop) (ob : Ob)
    (hF : ∀ b, F b → g.fp id b ∨ w.heap.size ≤ b) (ho : HO w' (g.set base l F) base ob) (v : V) (rd : List Nat) :
    Rl w' (g.set base l F) (Res.app { v := v, wr := [(id, .dead)], rd := rd, nw := [ob] } base h) ∧ Go1 w g h [id] base 1 w' (g.set base l F) (Res.app { v := v, wr := [(id, .dead)], rd := rd, nw := [ob] } base h) := by
  obtain ⟨n1, n2⟩ := hnew base (isNew1.2 rfl)
  have hne : id ≠ base := fun e => by rw [e, n2] at hl; cases hl
  have happ : ∀ i, Res.app { v := v, wr := [(id, .dead)], rd := rd, nw := [ob] } base h i = if i = id then .dead else if i = base then ob else h i := by
    intro i
    simp only [Res.app, getO]
    by_cases h1 : id = i
    · subst h1; simp
    · rw [if_neg h1, if_neg (Ne.symm h1)]
      by_cases h2 : i = base
      · subst h2; simp
      · rw [if_neg h2]
        simp only
        split
        · rw [List.getElem?_eq_none (by simp; omega)]
        · rfl
  have hg : Go1 w g h [id] base 1 w' (g.set base l F) (Res.app { v := v, wr := [(id, .dead)], rd := rd, nw := [ob] } base h) := by
    refine ⟨hk.mono (fun b _ hb => ⟨id, by simp, hl, hb⟩), Gh.set_gm n1, fun b hb => .inl hb, fun i hi hn => ?_, fun i _ hi => ?_, fun i b hi hli hb => ?_⟩
    · rw [isNew1] at hi; simp only [Gh.set]; rw [if_neg hi]; exact hn
    · rw [isNew1] at hi; simp only [Gh.set]; rw [if_neg hi]
    · rcases hi with hi | hi
      · simp at hi; subst hi
        rw [happ, if_pos rfl] at hli; cases hli
      · rw [isNew1] at hi; subst hi
        simp only [Gh.set, if_true] at hb
        rcases hF b hb with h | h
        · exact .inl ⟨id, by simp, hl, h⟩
        · exact .inr h
  refine ⟨hR.step hg (fun i hi hj => ?_) (fun i hi => ?_) (fun i hi hli => ?_) (fun i j b hi hj hli hlj _ _ => ?_) (fun i b hi hli hb => ?_) (fun b hb => Nat.lt_of_lt_of_le (hR.lt b hb) hk.size), hg⟩
  · simp at hi; rw [isNew1] at hj; rw [happ, if_neg hi, if_neg hj]
  · rw [isNew1] at hi; subst hi; rw [n2]; rfl
  · rcases hi with hi | hi
    · simp at hi; subst hi
      rw [happ, if_pos rfl] at hli; cases hli
    · rw [isNew1] at hi; subst hi
      rw [happ, if_neg (Ne.symm hne), if_pos rfl]; exact ho
  · have key : ∀ k, (k ∈ [id] ∨ isNew base 1 k) → (Res.app { v := v, wr := [(id, .dead)], rd := rd, nw := [ob] } base h k).live = true → k = base := fun k hk hl => by
      rcases hk with hk | hk
      · simp at hk; subst hk; rw [happ, if_pos rfl] at hl; cases hl
      · exact isNew1.1 hk
    rw [key i hi hli, key j hj hlj]
  · rcases hi with hi | hi
    · simp at hi; subst hi
      rw [happ, if_pos rfl] at hli; cases hli
    · rw [isNew1] at hi; subst hi
      simp only [Gh.set, if_true] at hb
      intro hI
      rcases hF b hb with h | h
      · exact hR.imm id b hl h hI
      · have := hR.lt b hI; omega
theorem s_appendSl {c : Call} {sT xT e : TypeId} {x y : Operand} {ax : AX} {sz by_ : Nat} {z : Value} (ho : o.op = .call c) (hc : c.callee = .builtin .append) (ht0 : c.argTypes[0]? = some sT) (ht1 : c.argTypes[1]? = some xT) (hargs : c.args.toList = [x, y])
    (h1 : trX x = some ax) (t1 : ∀ t ∈ ax.ts, t ∈ ts)
    (hzl : z.cells.size = sz) (hsz : 0 < sz) {m id n : Nat} {old new : List (List D)} {rd : List Nat} (e1 : ev ρ ax = some (vC (.sl id 0 n))) (hnl : new.length = m) (hsrc : AppSrc P o ρ ts hl sT xT e sz by_ z y m new rd)
    (hid : YthddlkhfkncgpaaGreat.hx hl id = .arr sz old) (p2 : n = old.length) (p4 : (n + m) * by_ ≤ 140737488355328) (p5 : n + m ≤ 140737488355328) :
    OpR P N o ρ ts hl { v := vC (.sl hl.length 0 (n + m)), wr := [(id, .dead)], rd := id :: rd, nw := [.arr sz (old ++ new)] } := by
  have ha : c.args = #[x, y] := by rw [← Array.toArray_toList (xs := c.args), hargs]
  intro a w g hh hN hrd hnew hR he
  have r1 := rv_c (ev_ok h1 he t1 e1)
  have hob : hh id = .arr sz old := (hrd id (.inl (by simp))).trans hid
  have hlive : (hh id).live = true := by rw [hob]; rfl
  obtain ⟨_, l, m1, m2, hcase⟩ := hob ▸ hR.objs id hlive
  obtain ⟨news, n1, n2, n3, hA⟩ := hsrc a w g hh (fun i hi => hrd i (.inl (by simp [hi]))) hR he
  generalize hxv : a.eval x = u at *
  have hex : ∀ A q cp v w', u = .slice A q cp → (Builtin.append_ #[sT, xT] o.type #[.slice A q cp, a.eval y]).run P w = .ok v w' → (execOp a.eval o).run P w = .ok (.value v) w' := by
    rintro A q cp v w' rfl hr
    have e : Builtin.append_ c.argTypes o.type #[.slice A q cp, a.eval y] = Builtin.append_ #[sT, xT] o.type #[.slice A q cp, a.eval y] := by simp only [Builtin.append_, ht0, ht1]; rfl
    simp [execOp, ho, resolve, hc, invoke, builtin, ha, hxv, e, hr]
  -- growing
  have grow : ∀ (A : Option Addr) (cp : Nat) (olds : Array Value), u = .slice A n cp → cp < n + m → (∀ W : World, W.heap = w.heap → (Builtin.firstCells sz n (.slice A n cp)).run P W = .ok olds W) → RowsIn w g.I olds sz old → olds.size = n * sz →
      o.wp P a w (fun a' w' => ∃ u g', a' = a.put o.dst u ∧ RV w' g' u (vC (.sl hl.length 0 (n + m))) ∧ Rl w' g' (Res.app { v := vC (.sl hl.length 0 (n + m)), wr := [(id, .dead)], rd := id :: rd, nw := [.arr sz (old ++ new)] } hl.length hh) ∧
        Go1 w g hh [id] hl.length 1 w' g' (Res.app { v := vC (.sl hl.length 0 (n + m)), wr := [(id, .dead)], rd := id :: rd, nw := [.arr sz (old ++ new)] } hl.length hh)) (fun _ _ _ => False) := by
    intro A cp olds hu' hcp hfo hro hso
    have hrun := hA.grow (base := A) (n := n) (cap := cp) (olds := olds) (hfo w.drew rfl) hcp (by omega) p4
    have hcap := grownCap_ge w (n + m) cp e
    have hcm := grownCap_le_maxLen w (n + m) cp e (by unfold maxLen; omega)
    generalize hG : grownCap w (n + m) cp e = cap at *
    have hzs : (Builtin.zeroCells z.cells (cap - (n + m))).size = (cap - (n + m)) * sz := by rw [zeroCells_length, hzl]
    have hsize : (olds ++ news ++ Builtin.zeroCells z.cells (cap - (n + m))).size = cap * sz := by
      rw [Array.size_append, Array.size_append, hzs, n1, hso, ← Nat.add_mul, ← Nat.add_mul]
      congr 1
      omega
    have hk : Keeps (g.fp id) w (w.drew.alloc (.cells (olds ++ news ++ Builtin.zeroCells z.cells (cap - (n + m))) e)) := ((Keeps.refl _ w).drew).alloc _
    have hsm : Same g.I w (w.drew.alloc (.cells (olds ++ news ++ Builtin.zeroCells z.cells (cap - (n + m))) e)) := Same.drewAlloc hR.lt _
    unfold Oper.wp
    rw [hex _ _ _ _ _ hu' hrun]
    obtain ⟨q1, q2⟩ := swap1 (base := hl.length) hR hlive hk hnew ⟨w.heap.size, false, sz, cap⟩ (· = w.heap.size) (.arr sz (old ++ new)) (fun b hb => .inr (by omega))
      ⟨hsz, _, Gh.set_at _ _ _ _, rfl, .inr ⟨rfl, by rw [List.length_append, hnl]; show old.length + m ≤ cap; omega, hcm, fun b => by rw [Gh.set_fp], _, e, heap_alloc_new w.drew _, hsize,
        (RowsIn.append (hro.more hsm (fun _ h => h)) (n2.more hsm (fun _ h => h)) p2.symm hso).left⟩⟩ (vC (.sl hl.length 0 (n + m))) (id :: rd)
    refine ⟨_, _, rfl, ?_, q1, q2⟩
    have := RC.sl (w := w.drew.alloc (.cells (olds ++ news ++ Builtin.zeroCells z.cells (cap - (n + m))) e)) (g := g.set hl.length ⟨w.heap.size, false, sz, cap⟩ (· = w.heap.size)) (id := hl.length) (l := ⟨w.heap.size, false, sz, cap⟩) 0 (n + m) (Gh.set_at _ _ _ _) rfl (by show 0 + (n + m) ≤ cap; omega)
    simp only [Nat.zero_mul, Nat.sub_zero] at this
    exact .e (.c this)
  cases r1 with
  | slz _ A hμ ho' =>
    rename_i l'
    obtain rfl : l = l' := Option.some.inj (m1.symm.trans hμ)
    have hold : old = [] := List.eq_nil_of_length_eq_zero p2.symm
    subst hold
    by_cases hm0 : m = 0
    · subst hm0
      have hn0 : news.toList = [] := List.eq_nil_of_length_eq_zero (by simp [n1])
      have hnew0 : new = [] := List.eq_nil_of_length_eq_zero hnl
      subst hnew0
      have hrun := hA.room (base := A) (n := 0) (cap := 0) (w' := w) (by omega) (fun b _ => by rw [hn0]; simp [storeCells]) (fun _ => rfl)
      unfold Oper.wp
      rw [hex _ _ _ _ _ rfl hrun]
      obtain ⟨q1, q2⟩ := swap1 (w' := w) (base := hl.length) hR hlive (Keeps.refl _ _) hnew ⟨0, true, sz, 0⟩ (fun _ => False) (.arr sz []) (fun b hb => hb.elim) ⟨hsz, _, Gh.set_at _ _ _ _, rfl, .inl ⟨rfl, rfl, rfl, fun b hb => by rw [Gh.set_fp] at hb; exact hb⟩⟩ (vC (.sl hl.length 0 0)) (id :: rd)
      refine ⟨.slice A 0 0, g.set hl.length ⟨0, true, sz, 0⟩ (fun _ => False), rfl, .e (.c (.slz (l := ⟨0, true, sz, 0⟩) 0 A (Gh.set_at _ _ _ _) rfl)), ?_, ?_⟩
      · simpa using q1
      · simpa [Res.ids] using q2
    · exact grow A 0 #[] rfl (by omega) (fun W _ => by cases A <;> simp [Builtin.firstCells, loadCells, loadCellsFrom]) (fun p r hr => by simp at hr) (by simp)
  | sl _ _ hμ hn ho' =>
    rename_i l'
    obtain rfl : l = l' := Option.some.inj (m1.symm.trans hμ)
    rcases hcase with ⟨hc', _⟩ | ⟨hnn, hle, hmx, m6, arr, ty, m3, m4, m5⟩
    · rw [hc'] at hn; cases hn
    · simp only [Nat.zero_mul, Nat.sub_zero] at *
      by_cases hroom : n + m ≤ l.tot
      · have hfit : n * sz + m * sz ≤ arr.size := by rw [m4, ← Nat.add_mul]; exact Nat.mul_le_mul_right _ hroom
        have hst := run_storeCells_at (P := P) l.blk (n * sz) ty news.toList 0 arr w m3 (by rw [Array.length_toList, n1]; omega) n3
        simp only [Nat.add_zero, Array.length_toList, n1] at hst
        generalize hX : (arr.toList.take (n * sz) ++ news.toList ++ arr.toList.drop (n * sz + m * sz)).toArray = X at hst
        have hrun := hA.room (base := some ⟨l.blk, 0, none⟩) (n := n) (cap := l.tot) (w' := w.setRow l.blk X) hroom
          (fun b hb => by injection hb with hb; subst hb; rw [Addr.add_mid, Nat.zero_add]; exact hst) (fun h => by cases h)
        unfold Oper.wp
        rw [hex _ _ _ _ _ rfl hrun]
        have hk : Keeps (g.fp id) w (w.setRow l.blk X) := (Keeps.refl _ _).setRow (.inr ((m6 _).2 rfl)) _
        have hsm : Same g.I w (w.setRow l.blk X) := Same.of_keeps hk hR.lt (fun b hb hf => hR.imm id b hlive hf hb)
        have hXg : ∀ q, X[q]? = if n * sz ≤ q ∧ q < n * sz + m * sz then news[q - n * sz]? else arr[q]? := fun q => by
          have := splice_get arr.toList news.toList (n * sz) (by rw [Array.length_toList, Array.length_toList, n1]; exact hfit) q
          rw [Array.length_toList, n1] at this
          rw [← hX, List.getElem?_toArray, this]
          simp
        have hXs : X.size = l.tot * sz := by rw [← hX, ← m4]; simp [n1]; omega
        obtain ⟨q1, q2⟩ := swap1 (base := hl.length) hR hlive hk hnew ⟨l.blk, false, sz, l.tot⟩ (· = l.blk) (.arr sz (old ++ new)) (fun b hb => .inl ((m6 b).2 hb))
          ⟨hsz, _, Gh.set_at _ _ _ _, rfl, .inr ⟨rfl, by rw [List.length_append, hnl]; show old.length + m ≤ l.tot; omega, hmx, fun b => by rw [Gh.set_fp], X, ty, setRow_heap w l.blk arr X ty _ m3, hXs, fun p r hr => by
            by_cases hp : p < old.length
            · rw [List.getElem?_append_left hp] at hr
              obtain ⟨h1, h2⟩ := m5 p r hr
              refine ⟨h1, fun j t hj => ?_⟩
              have hjl := (List.getElem?_eq_some_iff.1 hj).1
              have : (p + 1) * sz ≤ n * sz := Nat.mul_le_mul_right _ (by omega)
              rw [Nat.add_mul] at this
              obtain ⟨v, v1, v2⟩ := h2 j t hj
              exact ⟨v, by rw [hXg, if_neg (by omega)]; exact v1, v2.more hsm (fun _ h => h)⟩
            · rw [List.getElem?_append_right (by omega)] at hr
              obtain ⟨h1, h2⟩ := n2 _ r hr
              refine ⟨h1, fun j t hj => ?_⟩
              obtain ⟨v, v1, v2⟩ := h2 j t hj
              have hlt := (Array.getElem?_eq_some_iff.1 v1).1
              rw [n1] at hlt
              have e : (p - old.length) * sz + j = p * sz + j - n * sz := by
                rw [Nat.sub_mul, p2]
                have : old.length * sz ≤ p * sz := Nat.mul_le_mul_right _ (by omega)
                omega
              have hge : n * sz ≤ p * sz := Nat.mul_le_mul_right _ (by omega)
              refine ⟨v, ?_, v2.more hsm (fun _ h => h)⟩
              rw [hXg, if_pos (by rw [e] at hlt; omega), ← e]
              exact v1⟩⟩ (vC (.sl hl.length 0 (n + m))) (id :: rd)
        refine ⟨_, _, rfl, ?_, q1, q2⟩
        have := RC.sl (w := w.setRow l.blk X) (g := g.set hl.length ⟨l.blk, false, sz, l.tot⟩ (· = l.blk)) (id := hl.length) (l := ⟨l.blk, false, sz, l.tot⟩) 0 (n + m) (Gh.set_at _ _ _ _) rfl (by show 0 + (n + m) ≤ l.tot; omega)
        simp only [Nat.zero_mul, Nat.sub_zero] at this
        exact .e (.c this)
      · have hsub : n * sz ≤ arr.size := by rw [m4]; exact Nat.mul_le_mul_right _ (by omega)
        refine grow _ l.tot (arr.extract 0 (n * sz)) rfl (by omega) (fun W hW => ?_) (fun p r hr => ?_) (by simp; omega)
        · have := run_loadCells (P := P) W ⟨l.blk, 0, none⟩ (n * sz) (fun q => (arr[q]?).getD undef) (fun q hq => by
            rw [cell_heap hW, Addr.add_mid, Nat.zero_add, cell_of_row _ l.blk q arr ty _ m3]
            have : q < arr.size := by omega
            simp [this])
          simp only [Builtin.firstCells, this]
          congr 1
          apply Array.ext (by simp; omega)
          intro i hi1 hi2
          simp at hi1 hi2
          simp [show i < arr.size by omega]
        · obtain ⟨h1, h2⟩ := m5 p r hr
          refine ⟨h1, fun j t hj => ?_⟩
          have hjl := (List.getElem?_eq_some_iff.1 hj).1
          have hp := (List.getElem?_eq_some_iff.1 hr).1
          have : (p + 1) * sz ≤ n * sz := Nat.mul_le_mul_right _ (by omega)
          rw [Nat.add_mul] at this
          obtain ⟨v, v1, v2⟩ := h2 j t hj
          refine ⟨v, ?_, v2⟩
          rw [Array.getElem?_extract, if_pos (by omega), Nat.zero_add]
          exact v1
end
end Go.Proofs.YthddlkhfkncgpaaGreat
set_option linter.unusedVariables false
set_option linter.unusedSimpArgs false
namespace Go.Proofs.YthddlkhfkncgpaaGreat
open Go.RowKit

section
variable {P : Program} {N : Nat} {o : Oper} {ρ : Env} {ts : List Nat} {hl : List Ob} {p : Prop} {s : Res}
/-- Rows spliced into a list's block. -/
theorem splice_rows {w : World} {g : Gh} {h : Nat → Ob} {id : Nat} {l : Loc} {sz : Nat} {rows mid : List (List D)} {arr : Array Value} {ty : TypeId} {off k : Nat} {news : Array Value} {X : Array Value} (hR : Rl w g h) (hob : h id = .arr sz rows) (hsz : 0 < sz) (m1 : g.μ id = some l) (m2 : l.sz = sz)
    (hnn : l.nil = false) (hle : rows.length ≤ l.tot) (hmx : l.tot ≤ maxLen) (m6 : ∀ b, g.fp id b ↔ b = l.blk) (m3 : w.heap[l.blk]? = some (.cells arr ty (0, 0))) (m4 : arr.size = l.tot * sz) (m5 : RowsIn w g.I arr sz rows)
    (hmid : mid.length = k) (hk : off + k ≤ rows.length) (hn : news.size = k * sz) (hnr : RowsIn w g.I news sz mid) (hX : (arr.toList.take (off * sz) ++ news.toList ++ arr.toList.drop (off * sz + k * sz)).toArray = X) (base : Nat) (v : V) (rd : List Nat) :
    Rl (w.setRow l.blk X) g (Res.app { v := v, wr := [(id, .arr sz (rows.take off ++ mid ++ rows.drop (off + k)))], rd := rd } base h) ∧
      Go1 w g h [id] base 0 (w.setRow l.blk X) g (Res.app { v := v, wr := [(id, .arr sz (rows.take off ++ mid ++ rows.drop (off + k)))], rd := rd } base h) := by
  have hlive : (h id).live = true := by rw [hob]; rfl
  have hkp : Keeps (g.fp id) w (w.setRow l.blk X) := (Keeps.refl _ _).setRow (.inr ((m6 _).2 rfl)) _
  have hsm : Same g.I w (w.setRow l.blk X) := Same.of_keeps hkp hR.lt (fun b hb hf => hR.imm id b hlive hf hb)
  have hfit : off * sz + k * sz ≤ arr.size := by rw [m4, ← Nat.add_mul]; exact Nat.mul_le_mul_right _ (by omega)
  have hXg : ∀ q, X[q]? = if off * sz ≤ q ∧ q < off * sz + k * sz then news[q - off * sz]? else arr[q]? := fun q => by
    have := splice_get arr.toList news.toList (off * sz) (by rw [Array.length_toList, Array.length_toList, hn]; exact hfit) q
    rw [Array.length_toList, hn] at this
    rw [← hX, List.getElem?_toArray, this]
    simp
  have hXs : X.size = l.tot * sz := by rw [← hX, ← m4]; simp [hn]; omega
  refine turn1 hR hlive hkp (.arr sz (rows.take off ++ mid ++ rows.drop (off + k))) ⟨hsz, l, m1, m2, .inr ⟨hnn, by simp [hmid]; omega, hmx, m6, X, ty, setRow_heap w l.blk arr X ty _ m3, hXs, fun p r hr => ?_⟩⟩ v rd
  have hout : ∀ (q : Nat) r, rows[q]? = some r → (q < off ∨ off + k ≤ q) → r.length = sz ∧ ∀ (j : Nat) t, r[j]? = some t → ∃ v, X[q * sz + j]? = some v ∧ Rd (w.setRow l.blk X) g.I v t := fun q r hr hq => by
    obtain ⟨h1, h2⟩ := m5 q r hr
    refine ⟨h1, fun j t hj => ?_⟩
    have hjl := (List.getElem?_eq_some_iff.1 hj).1
    obtain ⟨v, v1, v2⟩ := h2 j t hj
    refine ⟨v, ?_, v2.more hsm (fun _ h => h)⟩
    rw [hXg, if_neg ?_]
    · exact v1
    · rw [← Nat.add_mul]
      rintro ⟨c1, c2⟩
      rcases hq with hq | hq
      · have : (q + 1) * sz ≤ off * sz := Nat.mul_le_mul_right _ (by omega)
        rw [Nat.add_mul] at this
        omega
      · have : (off + k) * sz ≤ q * sz := Nat.mul_le_mul_right _ (by omega)
        omega
  by_cases c1 : p < off
  · rw [List.append_assoc, List.getElem?_append_left (by simp; omega), List.getElem?_take_of_lt c1] at hr
    exact hout p r hr (.inl c1)
  · by_cases c2 : p < off + k
    · rw [List.append_assoc, List.getElem?_append_right (by simp; omega), List.getElem?_append_left (by simp [hmid]; omega)] at hr
      have hlt : min off rows.length = off := by omega
      simp only [List.length_take, hlt] at hr
      obtain ⟨h1, h2⟩ := hnr _ r hr
      refine ⟨h1, fun j t hj => ?_⟩
      obtain ⟨v, v1, v2⟩ := h2 j t hj
      have hvl := (Array.getElem?_eq_some_iff.1 v1).1
      rw [hn] at hvl
      have e : (p - off) * sz + j = p * sz + j - off * sz := by
        rw [Nat.sub_mul]
        have : off * sz ≤ p * sz := Nat.mul_le_mul_right _ (by omega)
        omega
      have hge : off * sz ≤ p * sz := Nat.mul_le_mul_right _ (by omega)
      refine ⟨v, ?_, v2.more hsm (fun _ h => h)⟩
      rw [hXg, if_pos (by rw [e] at hvl; omega), ← e]
      exact v1
    · rw [List.getElem?_append_right (by simp [hmid]; omega), List.getElem?_drop] at hr
      have e : off + k + (p - (rows.take off ++ mid).length) = p := by simp [hmid]; omega
      rw [e] at hr
      exact hout p r hr (.inr (by omega))
theorem RowsIn.cut {w : World} {I : Nat → Prop} {news : Array Value} {sz m k : Nat} {rows : List (List D)} (h : RowsIn w I news sz (rows.take m)) (hk : k ≤ m) : RowsIn w I (news.extract 0 (k * sz)) sz (rows.take k) := by
  intro p r hr
  rw [List.getElem?_take] at hr
  split at hr
  · rename_i hp
    obtain ⟨h1, h2⟩ := h p r (by rw [List.getElem?_take_of_lt (by omega)]; exact hr)
    refine ⟨h1, fun j t hj => ?_⟩
    have hjl := (List.getElem?_eq_some_iff.1 hj).1
    have : (p + 1) * sz ≤ k * sz := Nat.mul_le_mul_right _ hp
    rw [Nat.add_mul] at this
    obtain ⟨v, v1, v2⟩ := h2 j t hj
    have hvl := (Array.getElem?_eq_some_iff.1 v1).1
    refine ⟨v, ?_, v2⟩
    rw [Array.getElem?_extract, if_pos (by omega), Nat.zero_add]
    exact v1
  · cases hr
theorem s_copy {c : Call} {dT e : TypeId} {x y : Operand} {ax ay : AX} {sz : Nat} (ho : o.op = .call c) (hc : c.callee = .builtin .copy) (ht0 : c.argTypes[0]? = some dT) (hargs : c.args.toList = [x, y])
    (h1 : trX x = some ax) (h2 : trX y = some ay) (t1 : ∀ t ∈ ax.ts, t ∈ ts) (t2 : ∀ t ∈ ay.ts, t ∈ ts) (hu : P.underlying dT = some (.slice e)) (hs : sizeB P e = some sz) (hsz : 0 < sz) (h : aop (.copy sz ax ay) ρ hl = some (p, s)) (hp : p) : OpR P N o ρ ts hl s := by
  have ha : c.args = #[x, y] := by rw [← Array.toArray_toList (xs := c.args), hargs]
  simp only [aop] at h
  split at h
  · rename_i id off n sz' m src rd e1 e2
    split at h
    · rename_i sz0 rows hid
      cases h
      obtain ⟨p1, rfl, p2, p3⟩ := hp
      cases hvy : ev ρ ay with
      | none => simp [hvy] at e2
      | some vy =>
        simp [hvy] at e2
        intro a w g hh hN hrd hnew hR he
        have r1 := rv_c (ev_ok h1 he t1 e1)
        have r2 := ev_ok h2 he t2 hvy
        have hob : hh id = .arr sz0 rows := (hrd id (.inl (by simp))).trans hid
        have hlive : (hh id).live = true := by rw [hob]; rfl
        obtain ⟨_, l, m1, m2, hcase⟩ := hob ▸ hR.objs id hlive
        obtain ⟨l1, news, n1, n2, n3, n4⟩ := shows_ok (P := P) hR e2 (fun i hi => hrd i (.inl (by simp [hi]))) r2 p3 sz0 p1
        generalize hxv : a.eval x = u at *
        have hex : ∀ A q cp v w', u = .slice A q cp → (Builtin.copy_ #[dT, 0] o.type #[.slice A q cp, a.eval y]).run P w = .ok v w' → (execOp a.eval o).run P w = .ok (.value v) w' := by
          rintro A q cp v w' rfl hr
          have e : Builtin.copy_ c.argTypes o.type #[.slice A q cp, a.eval y] = Builtin.copy_ #[dT, 0] o.type #[.slice A q cp, a.eval y] := by simp only [Builtin.copy_, ht0]; rfl
          simp [execOp, ho, resolve, hc, invoke, builtin, ha, hxv, e, hr]
        cases r1 with
        | slz _ A hμ ho' =>
          rename_i l'
          obtain rfl : l = l' := Option.some.inj (m1.symm.trans hμ)
          have hrun : (Builtin.copy_ #[dT, 0] o.type #[.slice A 0 0, a.eval y]).run P w = .ok (.int .i64 0) w := by
            have h4 := n4 0 (Nat.zero_le _) w rfl
            have hmin : Nat.min m 0 = 0 := Nat.min_zero _
            cases A with
            | none => simp [Builtin.copy_, run_underlying hu, l1 w, run_sizeB hs, h4, goInt]
            | some a' => simp [Builtin.copy_, run_underlying hu, l1 w, run_sizeB hs, h4, goInt, storeCells]
          unfold Oper.wp
          rw [hex _ _ _ _ _ rfl hrun]
          have hmz : min m 0 = 0 := Nat.min_zero _
          have hsame : rows.take off ++ src.take (min m 0) ++ rows.drop (off + min m 0) = rows := by rw [hmz]; simp
          rw [hsame, hmz]
          obtain ⟨q1, q2⟩ := turn1 (base := hl.length) hR hlive (Keeps.refl _ w) (.arr sz0 rows) (hob ▸ hR.objs id hlive) (vI .i64 (0 : Nat)) (id :: rd)
          exact ⟨_, g, rfl, rv_i _ _, q1, q2⟩
        | sl _ _ hμ hn ho' =>
          rename_i l'
          obtain rfl : l = l' := Option.some.inj (m1.symm.trans hμ)
          rcases hcase with ⟨hc', _⟩ | ⟨hnn, hle, hmx, m6, arr, ty, m3, m4, m5⟩
          · rw [hc'] at hn; cases hn
          · have hsrc : (src.take (min m n)).length = min m n := by rw [List.length_take]; omega
            have hnl : (news.extract 0 (min m n * sz0)).size = min m n * sz0 := by
              have : min m n * sz0 ≤ m * sz0 := Nat.mul_le_mul_right _ (by omega)
              simp; omega
            have hfit : off * sz0 + min m n * sz0 ≤ arr.size := by rw [m4, ← Nat.add_mul]; exact Nat.mul_le_mul_right _ (by omega)
            have hst := run_storeCells_at (P := P) l.blk (off * sz0) ty (news.extract 0 (min m n * sz0)).toList 0 arr w m3 (by rw [Array.length_toList, hnl]; omega) (fun v hv => n3 v (by
              rw [Array.toList_extract] at hv
              exact List.mem_of_mem_take (i := min m n * sz0) (by simpa [List.extract_eq_take_drop] using hv)))
            simp only [Nat.add_zero, Array.length_toList, hnl] at hst
            generalize hX : (arr.toList.take (off * sz0) ++ (news.extract 0 (min m n * sz0)).toList ++ arr.toList.drop (off * sz0 + min m n * sz0)).toArray = X at hst
            have hrun : (Builtin.copy_ #[dT, 0] o.type #[.slice (some ⟨l.blk, off * l.sz, none⟩) n (l.tot - off), a.eval y]).run P w = .ok (.int .i64 (min m n : Nat)) (w.setRow l.blk X) := by
              have h4 := n4 (min m n) (by omega) w rfl
              have hmin : Nat.min m n = min m n := rfl
              rw [m2]
              generalize news.extract 0 (min m n * sz0) = Z at h4 hst
              simp [Builtin.copy_, run_underlying hu, l1 w, run_sizeB hs, hmin, h4, hst, goInt]
            unfold Oper.wp
            rw [hex _ _ _ _ _ rfl hrun]
            obtain ⟨q1, q2⟩ := splice_rows hR hob hsz m1 m2 hnn hle hmx m6 m3 m4 m5 hsrc (by omega) hnl (n2.cut (by omega)) hX hl.length (vI .i64 (min m n : Nat)) (id :: rd)
            exact ⟨_, g, rfl, rv_i _ _, q1, q2⟩
    · cases h
  · cases h
theorem s_clear {c : Call} {dT e : TypeId} {x : Operand} {ax : AX} {sz : Nat} {zero : List D} (ho : o.op = .call c) (hc : c.callee = .builtin .clear) (ht0 : c.argTypes[0]? = some dT) (hargs : c.args.toList = [x])
    (h1 : trX x = some ax) (t1 : ∀ t ∈ ax.ts, t ∈ ts) (hu : P.underlying dT = some (.slice e)) (hs : sizeB P e = some sz) (hz : zeroD P e = some zero) (hsz : 0 < sz) (hzl : zero.length = sz) (h : aop (.clear sz zero ax) ρ hl = some (p, s)) (hp : p) : OpR P N o ρ ts hl s := by
  have ha : c.args = #[x] := by rw [← Array.toArray_toList (xs := c.args), hargs]
  simp only [aop] at h
  split at h
  · rename_i id off n e1
    split at h
    · rename_i sz0 rows hid
      cases h
      obtain ⟨rfl, p2⟩ := hp
      intro a w g hh hN hrd hnew hR he
      have r1 := rv_c (ev_ok h1 he t1 e1)
      have hob : hh id = .arr sz0 rows := (hrd id (.inl (by simp))).trans hid
      have hlive : (hh id).live = true := by rw [hob]; rfl
      obtain ⟨_, l, m1, m2, hcase⟩ := hob ▸ hR.objs id hlive
      obtain ⟨z, z1, z2, z3⟩ := zeroD_ok hz
      generalize hxv : a.eval x = u at *
      have hex : ∀ v w', (Builtin.clear_ #[dT] o.type #[u]).run P w = .ok v w' → (execOp a.eval o).run P w = .ok (.value v) w' := by
        intro v w' hr
        have e : Builtin.clear_ c.argTypes o.type #[u] = Builtin.clear_ #[dT] o.type #[u] := by simp [Builtin.clear_, ht0]
        simp [execOp, ho, resolve, hc, invoke, builtin, ha, hxv, e, hr]
      have htup : RV w g (.tuple #[]) (.tup []) := .tup #[] [] rfl (fun j e hj => by simp at hj)
      have zero_case : n = 0 → (∃ A cp, u = .slice A 0 cp) → o.wp P a w (fun a' w' => ∃ u g', a' = a.put o.dst u ∧ RV w' g' u (.tup []) ∧ Rl w' g' (Res.app { v := .tup [], wr := [(id, .arr sz0 (rows.take off ++ List.replicate n zero ++ rows.drop (off + n)))], rd := [id] } hl.length hh) ∧
          Go1 w g hh [id] hl.length 0 w' g' (Res.app { v := .tup [], wr := [(id, .arr sz0 (rows.take off ++ List.replicate n zero ++ rows.drop (off + n)))], rd := [id] } hl.length hh)) (fun _ _ _ => False) := by
        rintro rfl ⟨A, cp, rfl⟩
        have hrun : (Builtin.clear_ #[dT] o.type #[.slice A 0 cp]).run P w = .ok (.tuple #[]) w := by cases A <;> simp [Builtin.clear_, run_underlying hu]
        unfold Oper.wp
        rw [hex _ _ hrun]
        have hsame : rows.take off ++ List.replicate 0 zero ++ rows.drop (off + 0) = rows := by simp
        rw [hsame]
        obtain ⟨q1, q2⟩ := turn1 (base := hl.length) hR hlive (Keeps.refl _ w) (.arr sz0 rows) (hob ▸ hR.objs id hlive) (.tup []) [id]
        exact ⟨_, g, rfl, htup, q1, q2⟩
      cases r1 with
      | slz _ A hμ ho' => exact zero_case rfl ⟨A, 0, rfl⟩
      | sl _ _ hμ hn ho' =>
        rename_i l'
        obtain rfl : l = l' := Option.some.inj (m1.symm.trans hμ)
        rcases hcase with ⟨hc', _⟩ | ⟨hnn, hle, hmx, m6, arr, ty, m3, m4, m5⟩
        · rw [hc'] at hn; cases hn
        · rcases Nat.eq_zero_or_pos n with rfl | hpos
          · exact zero_case rfl ⟨_, _, rfl⟩
          · obtain ⟨q, rfl⟩ : ∃ q, n = q + 1 := ⟨n - 1, by omega⟩
            have hnl : (Builtin.zeroCells z.cells (q + 1)).size = (q + 1) * sz0 := by rw [zeroCells_length, z2, hzl]
            have hfit : off * sz0 + (q + 1) * sz0 ≤ arr.size := by rw [m4, ← Nat.add_mul]; exact Nat.mul_le_mul_right _ (by omega)
            have hzo : ∀ v ∈ z.cells, v.oneCell' = true := fun v hv => by
              obtain ⟨j, hj, rfl⟩ := Array.mem_iff_getElem.1 hv
              have hj' : j < zero.length := by rw [← z2]; exact hj
              obtain ⟨u', u1, u2⟩ := z3 w g.I j _ (List.getElem?_eq_getElem hj')
              rw [Array.getElem?_eq_getElem hj] at u1
              injection u1 with u1
              rw [u1]; exact u2.one
            have hst := run_storeCells_at (P := P) l.blk (off * sz0) ty (Builtin.zeroCells z.cells (q + 1)).toList 0 arr w m3 (by rw [Array.length_toList, hnl]; omega) (zeroCells_one _ _ hzo (fun _ => by rw [z2, hzl]; exact hsz))
            simp only [Nat.add_zero, Array.length_toList, hnl] at hst
            generalize hX : (arr.toList.take (off * sz0) ++ (Builtin.zeroCells z.cells (q + 1)).toList ++ arr.toList.drop (off * sz0 + (q + 1) * sz0)).toArray = X at hst
            have hrun : (Builtin.clear_ #[dT] o.type #[.slice (some ⟨l.blk, off * l.sz, none⟩) (q + 1) (l.tot - off)]).run P w = .ok (.tuple #[]) (w.setRow l.blk X) := by
              rw [m2]
              simp [Builtin.clear_, run_underlying hu, z1 w, hst]
            unfold Oper.wp
            rw [hex _ _ hrun]
            have hzr : RowsIn w g.I (Builtin.zeroCells z.cells (q + 1)) sz0 (List.replicate (q + 1) zero) := by
              have := zero_rows (w := w) (g := g) hzl z2 z3 hsz (q + 1) (q + 1) (Nat.le_refl _)
              have e : Builtin.zeroCells z.cells (q + 1) = (Array.range ((q + 1) * sz0)).map (z.cells[· % z.cells.size]!) := by simp [Builtin.zeroCells, z2, hzl]
              rw [e]; exact this
            obtain ⟨q1, q2⟩ := splice_rows hR hob hsz m1 m2 hnn hle hmx m6 m3 m4 m5 (by simp) (by omega) hnl hzr hX hl.length (.tup []) [id]
            exact ⟨_, g, rfl, .tup #[] [] rfl (fun j e hj => by simp at hj), q1, q2⟩
    · cases h
  · cases h
theorem s_bstr {src dst e : TypeId} {x : Operand} {ax : AX} {r : List Int} (ho : o.op = .convert src dst x) (h1 : trX x = some ax) (t1 : ∀ t ∈ ax.ts, t ∈ ts)
    (hs : P.underlying src = some (.slice e)) (hd : P.underlying dst = some .string) (he : P.underlying e = some (.int .u8)) (h : aopb (.bstr ax) ρ hl r = some (p, s)) (hp : p) : OpR P N o ρ ts hl s := by
  simp only [aopb] at h
  split at h
  · rename_i sz m rows rd e1
    cases h
    obtain ⟨p1, p2, p3⟩ := hp
    cases hv : ev ρ ax with
    | none => simp [hv] at e1
    | some vx =>
      simp only [hv, Option.bind_some] at e1
      cases hst : isStr vx with
      | true => simp [hst] at e1
      | false =>
        simp only [hst, cond_false] at e1
        refine OpR.val rfl rfl fun a w g hh hrd hR hE => ?_
        have r1 := ev_ok h1 hE t1 hv
        obtain ⟨l1, news, n1, n2, n3, n4⟩ := shows_ok (P := P) hR e1 hrd r1 p2 1 p1
        have hsl : ∃ A n c, a.eval x = .slice A n c := by
          refine sl_value r1 ?_
          unfold shows at e1
          split at e1
          · exact .inl rfl
          · exact .inr (.inl ⟨_, _, _, rfl⟩)
          · exact .inr (.inr ⟨_, _, _, rfl⟩)
          · simp [isStr] at hst
          · cases e1
        obtain ⟨A, n, cp, hxv⟩ := hsl
        rw [hxv] at l1 n4
        have hnm : n = m := by
          have := l1 w
          simp only [Builtin.lenOf, Sem.run_pure] at this
          injection this
        subst hnm
        have hrl : r.length = n := by
          have := congrArg List.length p3
          simp at this
          omega
        have hnews : news = (r.map (Value.int .u8)).toArray := by
          apply Array.ext (by simp [n1, hrl])
          intro i hi1 hi2
          have hir : i < r.length := by simpa using hi2
          obtain ⟨_, h2⟩ := n2 i [.int .u8 r[i]] (by rw [p3, List.getElem?_map, List.getElem?_eq_getElem hir]; rfl)
          obtain ⟨v, v1, v2⟩ := h2 0 _ rfl
          cases v2
          rw [Nat.mul_one, Nat.add_zero, Array.getElem?_eq_getElem hi1] at v1
          injection v1 with v1
          rw [v1]
          simp
        have hfold : ∀ (l : List Int) (s : ByteArray), l.foldl (fun r n => r.push (UInt8.ofNat n.toNat)) s = ⟨s.data ++ (l.map fun n => UInt8.ofNat n.toNat).toArray⟩ := by
          intro l
          induction l with
          | nil => intro s; simp
          | cons n l ih =>
            intro s
            rw [List.foldl_cons, ih]
            congr 1
            rw [List.map_cons]
            apply Array.ext'
            simp [ByteArray.push]
        have hb : bytesOf r = r.foldl (fun r n => r.push (UInt8.ofNat n.toNat)) ByteArray.empty := by
          rw [hfold]
          simp [bytesOf, ByteArray.empty, ByteArray.emptyWithCapacity]
          rfl
        refine ⟨.string (bytesOf r), ?_, rv_s _⟩
        simp only [execOp, ho, hxv]
        refine run_v ?_
        have h4 := n4 n (Nat.le_refl _) w rfl
        rw [Nat.mul_one, show news.extract 0 n = news from by rw [show n = news.size by rw [n1, Nat.mul_one]]; simp, hnews] at h4
        cases A with
        | none =>
          have : r = [] := by
            simp only [Builtin.firstCells, Sem.run_pure] at h4
            injection h4 with h4
            have := congrArg Array.size h4
            simp at this
            exact List.eq_nil_of_length_eq_zero this.symm
          subst this
          simp [convert, run_underlying hs, run_underlying hd, run_underlying he, Conv.bytesToString, bytesOf, ByteArray.empty, ByteArray.emptyWithCapacity]
          rfl
        | some ad =>
          simp only [Builtin.firstCells, Nat.mul_one] at h4
          have := run_bytesToString (P := P) w ad n cp r h4
          rw [← hb] at this
          simp [convert, run_underlying hs, run_underlying hd, run_underlying he, this]
  · cases h
end
end Go.Proofs.YthddlkhfkncgpaaGreat
set_option linter.unusedVariables false
set_option linter.unusedSimpArgs false
namespace Go.Proofs.YthddlkhfkncgpaaGreat
open Go.RowKit
open Go.ChangeMaps (setBlock)

theorem Keeps.setB {F : Nat → Prop} {a w : World} (h : Keeps F a w) {b : Nat} (hp : F b) (o : Obj) : Keeps F a (setBlock w b o) :=
  ⟨h.os, h.tape, h.output, by simp [setBlock]; exact h.size, fun k hk hF => by
    simp only [setBlock]
    rw [Array.getElem?_setIfInBounds_ne (by rintro rfl; exact hF hp)]
    exact h.block k hk hF⟩
section
variable {P : Program} {N : Nat} {o : Oper} {ρ : Env} {ts : List Nat} {hl : List Ob} {p : Prop} {s : Res}
theorem mapB_ok {t : TypeId} {ag : Bool} {z : List D} (h : mapB P t = some (ag, z)) : ∃ kt et, P.underlying t = some (.map kt et) ∧ P.underlying kt = some (.int .i64) ∧ aggB P et = some ag ∧ zeroM P et ag = some z := by
  unfold mapB at h
  split at h
  · rename_i kt et hu
    split at h
    · rename_i ag' hk ha
      split at h
      · rename_i z' hz
        cases h
        exact ⟨kt, et, hu, hk, ha, hz⟩
      · cases h
    · cases h
  · cases h
theorem zeroM_ok {t : TypeId} {ag : Bool} {ds : List D} (h : zeroM P t ag = some ds) : ∃ v, (∀ w, (zeroValue t).run P w = .ok v w) ∧ ∀ w g, RE w g v (valE ag ds) := by
  unfold zeroM at h
  have hz : ∀ v, (P.info? t).bind (·.zero) = some v → ∀ w, (zeroValue t).run P w = .ok v w := by
    intro v hv w
    cases hi : P.info? t with
    | none => simp [hi] at hv
    | some i => cases hz : i.zero with
      | none => simp [hi, hz] at hv
      | some v' => simp [hi, hz] at hv; subst hv; simp [zeroValue, typeInfo, hi, hz]
  split at h
  · rename_i cs hv
    obtain ⟨l1, l2⟩ := listM_ok h
    refine ⟨_, hz _ hv, fun w g => .agg cs _ (by simpa using l1.symm ▸ rfl) fun j c hj => ?_⟩
    rw [List.getElem?_map] at hj
    cases hd : ds[j]? with
    | none => rw [hd] at hj; cases hj
    | some d =>
      rw [hd] at hj
      cases hj
      obtain ⟨u, u1, u2⟩ := l2 j d hd
      exact ⟨u, by simpa using u1, .t (toD_ok u2 w g.I)⟩
  · rename_i v hv
    split at h
    · rename_i d hd
      cases h
      exact ⟨_, hz _ hv, fun w g => .c (.t (toD_ok hd w g.I))⟩
    · cases h
  · cases h
/-- Entries as they are told. -/
def Ents (w : World) (g : Gh) (ag : Bool) (arr : Array MapEntry) (es : List (Nat × Int × List D)) : Prop :=
  arr.size = es.length ∧ ∀ (j : Nat) e, es[j]? = some e → ∃ x, arr[j]? = some x ∧ x.born = e.1 ∧ x.key = .int .i64 e.2.1 ∧ RE w g x.val (valE ag e.2.2)
theorem findNow_i64 (n : Int) : ∀ (l : List MapEntry) (es : List (Nat × Int × List D)) (i : Nat), l.length = es.length → (∀ (j : Nat) e, es[j]? = some e → ∃ x, l[j]? = some x ∧ x.key = .int .i64 e.2.1) →
    Instr.findNow (.int .i64) (.int .i64 n) l i = some ((l[es.findIdx fun e => e.2.1 == n]?).map fun x => (i + (es.findIdx fun e => e.2.1 == n), x.val))
  | [], [], i, _, _ => rfl
  | [], _ :: _, _, h, _ => by simp at h
  | _ :: _, [], _, h, _ => by simp at h
  | x :: l, e :: es, i, h, hk => by
    obtain ⟨y, y1, y2⟩ := hk 0 e rfl
    cases y1
    have ih := findNow_i64 n l es (i + 1) (by simpa using h) fun j e' hj => hk (j + 1) e' hj
    unfold Instr.findNow
    rw [y2, List.findIdx_cons]
    by_cases hc : e.2.1 = n
    · subst hc
      simp [Instr.sameNow]
    · have h1 : (n == e.2.1) = false := by simpa using fun hh => hc hh.symm
      have h2 : (e.2.1 == n) = false := by simpa using hc
      simp only [Instr.sameNow, if_true, h1, h2, cond_false]
      rw [ih]
      simp only [List.getElem?_cons_succ]
      rw [show i + (List.findIdx (fun e => e.2.1 == n) es + 1) = i + 1 + List.findIdx (fun e => e.2.1 == n) es by omega]
theorem Ents.find {w : World} {g : Gh} {ag : Bool} {arr : Array MapEntry} {es : List (Nat × Int × List D)} (h : Ents w g ag arr es) (n : Int) :
    Instr.findNow (.int .i64) (.int .i64 n) arr.toList 0 = some ((arr[es.findIdx fun e => e.2.1 == n]?).map fun x => ((es.findIdx fun e => e.2.1 == n), x.val)) := by
  have := findNow_i64 n arr.toList es 0 (by simpa using h.1) fun j e hj => by
    obtain ⟨x, x1, _, x2, _⟩ := h.2 j e hj
    exact ⟨x, by simpa using x1, x2⟩
  simpa using this
theorem isKey_i64 (n : Int) : Go.MapKept.IsKey (.int .i64) (.int .i64 n) := by simp [Go.MapKept.IsKey]
theorem find_key {es : List (Nat × Int × List D)} {n : Int} {e : Nat × Int × List D} (h : es[es.findIdx fun e => e.2.1 == n]? = some e) : e.2.1 = n := by
  obtain ⟨hlt, rfl⟩ := List.getElem?_eq_some_iff.1 h
  simpa using List.findIdx_getElem (w := hlt)
theorem s_lookup {t : TypeId} {x k : Operand} {ax ak : AX} {ok ag : Bool} {z : List D} {r : Option (List D)} (ho : o.op = .lookup t x k ok) (h1 : trX x = some ax) (h2 : trX k = some ak) (t1 : ∀ t ∈ ax.ts, t ∈ ts) (t2 : ∀ t ∈ ak.ts, t ∈ ts)
    (hm : mapB P t = some (ag, z)) (h : aopm (.lookup ok ag z ax ak) ρ hl r = some (p, s)) (hp : p) : OpR P N o ρ ts hl s := by
  simp only [aopm] at h
  obtain ⟨kt, et, ht, hk, hag, hz⟩ := mapB_ok hm
  split at h
  · rename_i id n e1 e2
    split at h
    · rename_i ag' m hid
      have main : ∀ ds, ((∃ i, r = some i ∧ i = ds ∧ m.get n = some ds ∧ ag' = ag) ∨ (r = none ∧ m.get n = none ∧ ds = z)) →
          OpR P N o ρ ts hl { v := bif ok then .tup [valE ag ds, .c (.t (.bool r.isSome))] else .e (valE ag ds), rd := [id] } := by
        intro ds hr
        refine OpR.val rfl rfl fun a w g hh hrd hR he => ?_
        have r1 := rv_c (ev_ok h1 he t1 e1)
        have r2 := rv_int (ev_ok h2 he t2 e2)
        have hob : hh id = .mp ag' m := (hrd id (by simp)).trans hid
        have hlive : (hh id).live = true := by rw [hob]; rfl
        obtain ⟨l, arr, m1, m2, m3, m4, m5⟩ := hob ▸ hR.objs id hlive
        generalize hx : a.eval x = u at *
        cases r1 with
        | mp hμ =>
          rename_i l'
          obtain rfl : l = l' := Option.some.inj (m1.symm.trans hμ)
          have hen : Ents w g ag' arr m.es := ⟨m3, m4⟩
          have hf := hen.find n
          obtain ⟨zv, z1, z2⟩ := zeroM_ok hz
          have key : ∃ v b, (Instr.lookup t (.map (some l.blk)) (.int .i64 n) ok).run P w = .ok (if ok then .tuple #[v, .bool b] else v) w ∧ RE w g v (valE ag ds) ∧ b = r.isSome := by
            rcases hr with ⟨i, rfl, rfl, hg, rfl⟩ | ⟨rfl, hg, rfl⟩
            · unfold Mp.get Mp.at at hg
              obtain ⟨e, he1, he2⟩ := Option.map_eq_some_iff.1 hg
              obtain ⟨y, y1, y2, y3, y4⟩ := m4 _ e he1
              rw [y1, Option.map_some] at hf
              refine ⟨y.val, true, ?_, he2 ▸ y4, rfl⟩
              simp [Instr.lookup, run_underlying ht, Go.MapKept.run_getObj_map m2, Go.MapKept.run_checkKey hk (isKey_i64 n), Go.MapKept.run_findKey hk hf, Result.andThen]
            · unfold Mp.get Mp.at at hg
              have hg' := Option.map_eq_none_iff.1 hg
              have : arr[m.es.findIdx fun e => e.2.1 == n]? = none := by
                rw [List.getElem?_eq_none_iff] at hg'
                rw [Array.getElem?_eq_none_iff]
                omega
              rw [this, Option.map_none] at hf
              refine ⟨zv, false, ?_, z2 w g, rfl⟩
              simp [Instr.lookup, run_underlying ht, Go.MapKept.run_getObj_map m2, Go.MapKept.run_checkKey hk (isKey_i64 n), Go.MapKept.run_findKey hk hf, Result.andThen, z1]
          obtain ⟨v, b, hrun, hv, rfl⟩ := key
          refine ⟨_, by simp only [execOp, ho, hx, r2]; simp [hrun]; rfl, ?_⟩
          cases ok with
          | true =>
            refine .tup #[v, .bool r.isSome] _ rfl fun j e hj => ?_
            match j, hj with
            | 0, hj => cases hj; exact ⟨v, rfl, hv⟩
            | 1, hj => cases hj; exact ⟨_, rfl, .c (.t (.bool _))⟩
          | false => exact .e hv
      cases r with
      | some ds =>
        simp only at h
        cases h
        exact main ds (.inl ⟨ds, rfl, rfl, hp.1, hp.2⟩)
      | none =>
        simp only at h
        cases h
        exact main z (.inr ⟨rfl, hp, rfl⟩)
    · cases h
  · cases h
theorem agD_ok {w : World} {g : Gh} {v : Value} {ag : Bool} {e : E} {ds : List D} (h : agD ag e = some ds) (hv : RE w g v e) : RE w g v (valE ag ds) := by
  unfold agD at h
  split at h
  · rename_i cs
    rw [unT_ok h] at hv
    exact hv
  · cases h
    exact hv
  · cases h
theorem valE_go {w w' : World} {g g' : Gh} {v : Value} {ag : Bool} {ds : List D} (hs : Same g.I w w') (hg : Gm g g') (h : RE w g v (valE ag ds)) : RE w' g' v (valE ag ds) := h.more hs hg
theorem s_mapSet {t : TypeId} {x k v : Operand} {ax ak av : AX} {q : Bool × List D} (ho : o.op = .mapUpdate t x k v) (h1 : trX x = some ax) (h2 : trX k = some ak) (h3 : trX v = some av) (t1 : ∀ t ∈ ax.ts, t ∈ ts) (t2 : ∀ t ∈ ak.ts, t ∈ ts) (t3 : ∀ t ∈ av.ts, t ∈ ts)
    (hm : mapB P t = some q) (h : aop (.mapSet ax ak av) ρ hl = some (p, s)) : OpR P N o ρ ts hl s := by
  simp only [aop] at h
  obtain ⟨kt, et, ht, hk, hag, hz⟩ := mapB_ok (ag := q.1) (z := q.2) hm
  split at h
  · rename_i id n e e1 e2 e3
    split at h
    · rename_i ag m hid
      split at h
      · rename_i ds hds
        cases h
        intro a w g hh hN hrd hnew hR he
        have r1 := rv_c (ev_ok h1 he t1 e1)
        have r2 := rv_int (ev_ok h2 he t2 e2)
        have r3 := agD_ok hds (rv_e (ev_ok h3 he t3 e3))
        have hob : hh id = .mp ag m := (hrd id (.inl (by simp))).trans hid
        have hlive : (hh id).live = true := by rw [hob]; rfl
        obtain ⟨l, arr, m1, m2, m3, m4, m5⟩ := hob ▸ hR.objs id hlive
        generalize hx : a.eval x = u at *
        cases r1 with
        | mp hμ =>
          rename_i l'
          obtain rfl : l = l' := Option.some.inj (m1.symm.trans hμ)
          have hen : Ents w g ag arr m.es := ⟨m3, m4⟩
          have hf := hen.find n
          have key : ∃ arr' ck', (Instr.mapUpdate t (.map (some l.blk)) (.int .i64 n) (a.eval v)).run P w = .ok () (setBlock w l.blk (.map arr' ck')) ∧ ck' = (m.set n ds).ck ∧ Ents w g ag arr' (m.set n ds).es := by
            by_cases hlt : m.at n < m.es.length
            · have hg : m.es[m.at n]? = some m.es[m.at n] := List.getElem?_eq_getElem hlt
              have hkey := find_key hg
              obtain ⟨y, y1, y2, y3, y4⟩ := m4 _ _ hg
              have y1' : arr[m.es.findIdx fun e => e.2.1 == n]? = some y := y1
              rw [y1', Option.map_some] at hf
              refine ⟨arr.modify (m.at n) fun e => { e with key := .int .i64 n, val := a.eval v }, m.ck, ?_, by simp [Mp.set, hlt], ?_⟩
              · have hy : y.key = .int .i64 n := by rw [y3, hkey]
                simp [Instr.mapUpdate, run_underlying ht, Go.MapKept.run_getObj_map m2, Go.MapKept.run_checkKey hk (isKey_i64 n), Go.MapKept.run_findKey hk hf, y1', hy, Go.MapKept.run_keyThatStays (isKey_i64 n), Go.MapKept.run_setObj_map _ m2, Result.andThen, setBlock, Mp.at]
              · refine ⟨by simp [Mp.set, hlt, m3], fun j e' hj => ?_⟩
                simp only [Mp.set, if_pos hlt] at hj
                rw [List.getElem?_modify] at hj
                rw [Array.getElem?_modify]
                cases hej : m.es[j]? with
                | none => rw [hej] at hj; simp at hj
                | some e0 =>
                  rw [hej] at hj
                  obtain ⟨x0, x1, x2, x3, x4⟩ := m4 j e0 hej
                  by_cases hjn : m.at n = j
                  · subst hjn
                    rw [hg] at hej
                    cases hej
                    simp at hj
                    subst hj
                    exact ⟨{ x0 with key := .int .i64 n, val := a.eval v }, by simp [x1], x2, by simp [hkey], r3⟩
                  · rw [if_neg hjn]
                    simp [hjn] at hj
                    subst hj
                    exact ⟨x0, x1, x2, x3, x4⟩
            · have : arr[m.es.findIdx fun e => e.2.1 == n]? = none := by
                rw [Array.getElem?_eq_none_iff, m3]
                unfold Mp.at at hlt
                omega
              rw [this, Option.map_none] at hf
              refine ⟨arr.push { key := .int .i64 n, val := a.eval v, born := m.ck }, m.ck + 1, ?_, by simp [Mp.set, hlt], ?_⟩
              · simp [Instr.mapUpdate, run_underlying ht, Go.MapKept.run_getObj_map m2, Go.MapKept.run_checkKey hk (isKey_i64 n), Go.MapKept.run_findKey hk hf, Go.MapKept.run_setObj_map _ m2, Result.andThen, setBlock]
              · refine ⟨by simp [Mp.set, hlt, m3], fun j e' hj => ?_⟩
                simp only [Mp.set, if_neg hlt] at hj
                rw [Array.getElem?_push, m3]
                by_cases hjl : j = m.es.length
                · subst hjl
                  simp at hj
                  subst hj
                  exact ⟨{ key := .int .i64 n, val := a.eval v, born := m.ck }, by simp, rfl, rfl, r3⟩
                · rw [if_neg hjl]
                  rw [List.getElem?_append_left (by have := (List.getElem?_eq_some_iff.1 hj).1; simp at this; omega)] at hj
                  exact m4 j e' hj
          obtain ⟨arr', ck', hrun, hck, hen'⟩ := key
          have hex : (execOp a.eval o).run P w = .ok .skip (setBlock w l.blk (.map arr' ck')) := by
            simp only [execOp, ho, hx, r2]
            simp [hrun]
          unfold Oper.wp
          rw [hex]
          have hkp : Keeps (g.fp id) w (setBlock w l.blk (.map arr' ck')) := (Keeps.refl _ _).setB ((m5 _).2 rfl) _
          have hsm : Same g.I w (setBlock w l.blk (.map arr' ck')) := Same.of_keeps hkp hR.lt (fun b hb hf => hR.imm id b hlive hf hb)
          obtain ⟨q1, q2⟩ := turn1 (base := hl.length) hR hlive hkp (.mp ag (m.set n ds)) ⟨l, arr', m1, by rw [← hck]; exact (Go.MapKept.heap_set m2).1, hen'.1, fun j e hj => by
            obtain ⟨x, x1, x2, x3, x4⟩ := hen'.2 j e hj
            exact ⟨x, x1, x2, x3, x4.more hsm (Gm.refl g)⟩, m5⟩ .u [id]
          exact ⟨undef, g, rfl, .u, q1, q2⟩
      · cases h
    · cases h
  · cases h
theorem s_delete {c : Call} {t : TypeId} {x k : Operand} {ax ak : AX} {q : Bool × List D} (ho : o.op = .call c) (hc : c.callee = .builtin .delete) (ht0 : c.argTypes[0]? = some t) (hargs : c.args.toList = [x, k]) (h1 : trX x = some ax) (h2 : trX k = some ak)
    (t1 : ∀ t ∈ ax.ts, t ∈ ts) (t2 : ∀ t ∈ ak.ts, t ∈ ts) (hm : mapB P t = some q) (h : aop (.delete ax ak) ρ hl = some (p, s)) : OpR P N o ρ ts hl s := by
  have ha : c.args = #[x, k] := by rw [← Array.toArray_toList (xs := c.args), hargs]
  simp only [aop] at h
  obtain ⟨kt, et, ht, hk, hag, hz⟩ := mapB_ok (ag := q.1) (z := q.2) hm
  split at h
  · rename_i id n e1 e2
    split at h
    · rename_i ag m hid
      cases h
      intro a w g hh hN hrd hnew hR he
      have r1 := rv_c (ev_ok h1 he t1 e1)
      have r2 := rv_int (ev_ok h2 he t2 e2)
      have hob : hh id = .mp ag m := (hrd id (.inl (by simp))).trans hid
      have hlive : (hh id).live = true := by rw [hob]; rfl
      obtain ⟨l, arr, m1, m2, m3, m4, m5⟩ := hob ▸ hR.objs id hlive
      generalize hx : a.eval x = u at *
      cases r1 with
      | mp hμ =>
        rename_i l'
        obtain rfl : l = l' := Option.some.inj (m1.symm.trans hμ)
        have hen : Ents w g ag arr m.es := ⟨m3, m4⟩
        have hf := hen.find n
        have key : ∃ arr', (Builtin.delete_ c.argTypes o.type #[.map (some l.blk), .int .i64 n]).run P w = .ok (.tuple #[]) (setBlock w l.blk (.map arr' m.ck)) ∧ Ents w g ag arr' (m.del n).es := by
          by_cases hlt : m.at n < m.es.length
          · have hg : m.es[m.at n]? = some m.es[m.at n] := List.getElem?_eq_getElem hlt
            obtain ⟨y, y1, y2, y3, y4⟩ := m4 _ _ hg
            have y1' : arr[m.es.findIdx fun e => e.2.1 == n]? = some y := y1
            rw [y1', Option.map_some] at hf
            have hjs : m.at n < arr.size := by omega
            refine ⟨arr.eraseIdxIfInBounds (m.at n), ?_, ?_⟩
            · simp [Builtin.delete_, ht0, run_underlying ht, Go.MapKept.run_getObj_map m2, Go.MapKept.run_checkKey hk (isKey_i64 n), Go.MapKept.run_findKey hk hf, Go.MapKept.run_setObj_map _ m2, Result.andThen, setBlock, Mp.at]
            · have hsub : (arr.eraseIdxIfInBounds (m.at n)).toList = arr.toList.eraseIdx (m.at n) := by
                unfold Array.eraseIdxIfInBounds
                rw [dif_pos hjs]
                simp
              refine ⟨?_, fun j e' hj => ?_⟩
              · rw [← Array.length_toList, hsub]
                simp [Mp.del, List.length_eraseIdx, hjs, hlt, m3]
              · rw [← Array.getElem?_toList, hsub, List.getElem?_eraseIdx]
                simp only [Mp.del] at hj
                rw [List.getElem?_eraseIdx] at hj
                split at hj
                · rename_i hc'
                  rw [if_pos hc']
                  obtain ⟨x0, x1, x2⟩ := m4 _ _ hj
                  exact ⟨x0, by simpa using x1, x2⟩
                · rename_i hc'
                  rw [if_neg hc']
                  obtain ⟨x0, x1, x2⟩ := m4 _ _ hj
                  exact ⟨x0, by simpa using x1, x2⟩
          · have : arr[m.es.findIdx fun e => e.2.1 == n]? = none := by
              rw [Array.getElem?_eq_none_iff, m3]
              unfold Mp.at at hlt
              omega
            rw [this, Option.map_none] at hf
            refine ⟨arr, ?_, ?_⟩
            · simp [Builtin.delete_, ht0, run_underlying ht, Go.MapKept.run_getObj_map m2, Go.MapKept.run_checkKey hk (isKey_i64 n), Go.MapKept.run_findKey hk hf, Go.MapKept.run_setObj_map _ m2, Result.andThen, setBlock]
            · simp only [Mp.del]
              rw [List.eraseIdx_of_length_le (by omega)]
              exact hen
        obtain ⟨arr', hrun, hen'⟩ := key
        have hex : (execOp a.eval o).run P w = .ok (.value (.tuple #[])) (setBlock w l.blk (.map arr' m.ck)) := by
          simp [execOp, ho, resolve, hc, invoke, builtin, ha, hx, r2, hrun]
        unfold Oper.wp
        rw [hex]
        have hkp : Keeps (g.fp id) w (setBlock w l.blk (.map arr' m.ck)) := (Keeps.refl _ _).setB ((m5 _).2 rfl) _
        have hsm : Same g.I w (setBlock w l.blk (.map arr' m.ck)) := Same.of_keeps hkp hR.lt (fun b hb hf => hR.imm id b hlive hf hb)
        obtain ⟨q1, q2⟩ := turn1 (base := hl.length) hR hlive hkp (.mp ag (m.del n)) ⟨l, arr', m1, (Go.MapKept.heap_set m2).1, hen'.1, fun j e hj => by
          obtain ⟨x, x1, x2, x3, x4⟩ := hen'.2 j e hj
          exact ⟨x, x1, x2, x3, x4.more hsm (Gm.refl g)⟩, m5⟩ (.tup []) [id]
        exact ⟨_, g, rfl, .tup #[] [] rfl (fun j e hj => by simp at hj), q1, q2⟩
    · cases h
  · cases h
theorem s_lenM {c : Call} {kt et t : TypeId} {x : Operand} {ax : AX} (ho : o.op = .call c) (hc : c.callee = .builtin .len) (ht0 : c.argTypes[0]? = some t) (hu : P.underlying t = some (.map kt et)) (hargs : c.args.toList = [x]) (h1 : trX x = some ax)
    (t1 : ∀ t ∈ ax.ts, t ∈ ts) (h : aop (.lenM ax) ρ hl = some (p, s)) : OpR P N o ρ ts hl s := by
  have ha : c.args = #[x] := by rw [← Array.toArray_toList (xs := c.args), hargs]
  simp only [aop] at h
  split at h
  · rename_i id e1
    split at h
    · rename_i ag m hid
      cases h
      refine OpR.val rfl rfl fun a w g hh hrd hR he => ?_
      have r1 := rv_c (ev_ok h1 he t1 e1)
      have hob : hh id = .mp ag m := (hrd id (by simp)).trans hid
      have hlive : (hh id).live = true := by rw [hob]; rfl
      obtain ⟨l, arr, m1, m2, m3, m4, m5⟩ := hob ▸ hR.objs id hlive
      generalize hx : a.eval x = u at *
      cases r1 with
      | mp hμ =>
        rename_i l'
        obtain rfl : l = l' := Option.some.inj (m1.symm.trans hμ)
        refine ⟨.int .i64 m.es.length, ?_, .e (.c (.t (.int _ _)))⟩
        simp [execOp, ho, resolve, hc, invoke, builtin, ha, hx, Builtin.len_, ht0, run_underlying hu, Go.MapKept.run_getObj_map m2, Result.andThen, m3, goInt]
    · rename_i ag m out hid
      cases h
      refine OpR.val rfl rfl fun a w g hh hrd hR he => ?_
      have r1 := rv_c (ev_ok h1 he t1 e1)
      have hob : hh id = .cm ag m out := (hrd id (by simp)).trans hid
      have hlive : (hh id).live = true := by rw [hob]; rfl
      obtain ⟨l, arr, bs, m1, m2, m3, m4, m5⟩ := hob ▸ hR.objs id hlive
      generalize hx : a.eval x = u at *
      cases r1 with
      | mp hμ =>
        rename_i l'
        obtain rfl : l = l' := Option.some.inj (m1.symm.trans hμ)
        refine ⟨.int .i64 m.es.length, ?_, .e (.c (.t (.int _ _)))⟩
        simp [execOp, ho, resolve, hc, invoke, builtin, ha, hx, Builtin.len_, ht0, run_underlying hu, Go.MapKept.run_getObj_map m2, Result.andThen, m3.1, goInt]
    · cases h
  · cases h
theorem s_rangeM {t : TypeId} {x : Operand} {ax : AX} {q : Bool × List D} (ho : o.op = .range t x) (h1 : trX x = some ax) (t1 : ∀ t ∈ ax.ts, t ∈ ts) (hm : mapB P t = some q) (h : aop (.rangeM ax) ρ hl = some (p, s)) : OpR P N o ρ ts hl s := by
  simp only [aop] at h
  obtain ⟨kt, et, ht, hk, hag, hz⟩ := mapB_ok (ag := q.1) (z := q.2) hm
  split at h
  · rename_i id e1
    split at h
    · rename_i ag m hid
      cases h
      intro a w g hh hN hrd hnew hR he
      have r1 := rv_c (ev_ok h1 he t1 e1)
      have hob : hh id = .mp ag m := (hrd id (.inl (by simp))).trans hid
      have hlive : (hh id).live = true := by rw [hob]; rfl
      obtain ⟨l, arr, m1, m2, m3, m4, m5⟩ := hob ▸ hR.objs id hlive
      generalize hx : a.eval x = u at *
      cases r1 with
      | mp hμ =>
        rename_i l'
        obtain rfl : l = l' := Option.some.inj (m1.symm.trans hμ)
        have hrun := run_range_map w t kt et l.blk arr m.ck ht m2
        have hex : (execOp a.eval o).run P w = .ok (.value (.pointer (some ⟨w.heap.size, 0, none⟩))) (w.alloc (.mapIter (some l.blk) m.ck #[] m.ck)) := by
          simp only [execOp, ho, hx]
          simp [hrun]
        unfold Oper.wp
        rw [hex]
        have hk : Keeps Nope w (w.alloc (.mapIter (some l.blk) m.ck #[] m.ck)) := (Keeps.refl _ _).alloc _
        have hne : id ≠ hl.length := fun e => by
          have := (hnew hl.length (isNew1.2 rfl)).1
          rw [← e, m1] at this
          cases this
        obtain ⟨q1, q2⟩ := alloc1 (w' := w.alloc (.mapIter (some l.blk) m.ck #[] m.ck)) hR hk hnew ⟨w.heap.size, false, 0, 0⟩ (· = w.heap.size) (.it id m.ck [] m.ck) (fun b hb => by omega)
          ⟨_, l, Gh.set_at _ _ _ _, rfl, by simp only [Gh.set]; rw [if_neg hne]; exact m1, heap_alloc_new w _, fun b => by rw [Gh.set_fp]⟩ (vC (.ptr hl.length 0)) [id]
        exact ⟨_, _, rfl, .e (.c (.ptr (l := ⟨w.heap.size, false, 0, 0⟩) 0 (Gh.set_at _ _ _ _) rfl)), q1, q2⟩
    · cases h
  · cases h
theorem find_ents {Q : MapEntry → Nat × Int × List D → Prop} {b : Nat} : ∀ (l : List MapEntry) (es : List (Nat × Int × List D)), l.length = es.length → (∀ (j : Nat) e, es[j]? = some e → ∃ x, l[j]? = some x ∧ x.born = e.1 ∧ Q x e) → ∀ {e}, es.find? (fun e => e.1 == b) = some e → ∃ x, l.find? (fun x => x.born == b) = some x ∧ Q x e
  | _, [], _, _, e, he => by simp at he
  | [], _ :: _, h, _, _, _ => by simp at h
  | x :: l, e0 :: es, h, hq, e, he => by
    obtain ⟨y, y1, y2, y3⟩ := hq 0 e0 rfl
    cases y1
    rw [List.find?_cons] at he ⊢
    rw [y2]
    cases hb : e0.1 == b with
    | true => rw [hb] at he; cases he; exact ⟨x, rfl, y3⟩
    | false => rw [hb] at he; exact find_ents l es (by simpa using h) (fun j e hj => hq (j + 1) e hj) he
theorem s_entry {x : Operand} {ax : AX} {n : Int} {ds : List D} (ho : o.op = .entry x) (h1 : trX x = some ax) (t1 : ∀ t ∈ ax.ts, t ∈ ts) (h : aope (.entry ax) ρ hl n ds = some (p, s)) (hp : p) : OpR P N o ρ ts hl s := by
  simp only [aope] at h
  split at h
  · rename_i id e1
    split at h
    · rename_i mid since seen last hid
      split at h
      · rename_i ag m hmid
        cases h
        obtain ⟨hck, b, hb1, hb2⟩ := hp
        refine OpR.val rfl rfl fun a w g hh hrd hR he => ?_
        have r1 := rv_c (ev_ok h1 he t1 e1)
        have hob : hh id = .it mid since seen last := (hrd id (by simp)).trans hid
        have hom : hh mid = .mp ag m := (hrd mid (by simp)).trans hmid
        obtain ⟨l, lm, m1, m2, m3, m4, m5⟩ := hob ▸ hR.objs id (by rw [hob]; rfl)
        obtain ⟨lm', arr, n1, n2, n3, n4, n5⟩ := hom ▸ hR.objs mid (by rw [hom]; rfl)
        obtain rfl : lm = lm' := Option.some.inj (m3.symm.trans n1)
        generalize hx : a.eval x = u at *
        cases r1 with
        | ptr _ hμ hn =>
          rename_i l'
          obtain rfl : l = l' := Option.some.inj (m1.symm.trans hμ)
          obtain ⟨y, y1, y2, y3⟩ := find_ents (Q := fun x e => x.key = .int .i64 e.2.1 ∧ RE w g x.val (valE ag e.2.2)) (b := b) arr.toList m.es (by simpa using n3) (fun j e hj => by
            obtain ⟨x, x1, x2, x3, x4⟩ := n4 j e hj
            exact ⟨x, by simpa using x1, x2, x3, x4⟩) hb2
          have hf : arr.find? (fun x => x.born == b) = some y := by rw [← Array.find?_toList]; exact y1
          have hbk : seen.toArray.back? = some b := by rw [← hb1]; simp [Array.back?, List.getLast?_eq_getElem?]
          refine ⟨.tuple #[y.key, y.val], ?_, .tup _ _ rfl fun j e hj => ?_⟩
          · simp only [execOp, ho, hx]
            refine run_v ?_
            simp only [Instr.entry, getObj, Sem.run_bind, Sem.run, m4, n2, Result.andThen, hbk, hck, bne_self_eq_false, Bool.false_eq_true, if_false, hf]
            rfl
          · match j, hj with
            | 0, hj => cases hj; exact ⟨_, rfl, by rw [y2]; exact .c (.t (.int _ _))⟩
            | 1, hj => cases hj; exact ⟨_, rfl, y3⟩
      · cases h
    · cases h
  · cases h
end
end Go.Proofs.YthddlkhfkncgpaaGreat
set_option linter.unusedVariables false
set_option linter.unusedSimpArgs false
namespace Go.Proofs.YthddlkhfkncgpaaGreat
open Go.RowKit
open Go.ChangeMaps (setBlock)

section
variable {P : Program} {N : Nat} {o : Oper} {ρ : Env} {ts : List Nat} {hl : List Ob} {p : Prop} {s : Res}
theorem isI64_ok {t : TypeId} (h : isI64 P t = true) : P.underlying t = some (.int .i64) := by
  unfold isI64 at h
  split at h
  · assumption
  · cases h
theorem keyB_ok {kt : TypeId} (h : keyB P kt = true) : ∃ fs f g, P.underlying kt = some (.struct fs) ∧ fs.toList = [f, g] ∧ f.name ≠ "_" ∧ g.name ≠ "_" ∧ f.offset = 0 ∧ g.offset = 1 ∧ P.underlying f.type = some (.int .i64) ∧ P.underlying g.type = some (.int .i64) ∧ flat P 6 kt = some [.int, .int] := by
  unfold keyB at h
  split at h
  · rename_i fs hu
    split at h
    · rename_i f g hfs
      simp only [Bool.and_eq_true, decide_eq_true_eq] at h
      obtain ⟨⟨⟨⟨⟨⟨h1, h2⟩, h3⟩, h4⟩, h5⟩, h6⟩, h7⟩ := h
      refine ⟨fs, f, g, hu, hfs, h1, h2, h3, h4, isI64_ok h5, isI64_ok h6, ?_⟩
      split at h7
      · assumption
      · cases h7
    · cases h
  · cases h
theorem mapC_ok {t : TypeId} {ag : Bool} {z : List D} (h : mapC P t = some (ag, z)) : ∃ kt et, P.underlying t = some (.map kt et) ∧ keyB P kt = true ∧ zeroM P et ag = some z := by
  unfold mapC at h
  split at h
  · rename_i kt et hu
    split at h
    · rename_i ag' hk ha
      split at h
      · rename_i z' hz
        cases h
        exact ⟨kt, et, hu, hk, hz⟩
      · cases h
    · cases h
  · cases h
/-- A key may be one. -/
theorem run_checkKeyC {kt : TypeId} (h : keyB P kt = true) (k : Int × Int) (e : Bool) (n : Nat) (w : World) : (Instr.checkKey e (n + 2) kt (keyV k)).run P w = .ok () w := by
  obtain ⟨fs, f, g, hu, hfs, h1, h2, h3, h4, h5, h6, _⟩ := keyB_ok h
  have a1 : aggB P f.type = some false := by simp [aggB, h5]
  have a2 : aggB P g.type = some false := by simp [aggB, h6]
  have hfor : fs = #[f, g] := by rw [← Array.toArray_toList (xs := fs), hfs]
  subst hfor
  rw [keyV, Instr.checkKey]
  simp [run_underlying hu, h1, h2, part, run_isAgg a1, run_isAgg a2, h3, h4, Instr.checkKey, run_underlying h5, run_underlying h6, Result.andThen]
theorem run_equalC {kt : TypeId} (h : keyB P kt = true) (k l : Int × Int) (w : World) : (Op.equal kt (keyV k) (keyV l)).run P w = .ok (k == l) w := by
  obtain ⟨fs, f, g, hu, _, _, _, _, _, _, _, hfl⟩ := keyB_ok h
  have hag : aggB P kt = some true := by simp [aggB, hu]
  have hc : ∀ k : Int × Int, Cells w ⟨fun _ => False, fun _ => none, fun _ _ => False⟩ #[.int .i64 k.1, .int .i64 k.2] [.t (.int .i64 k.1), .t (.int .i64 k.2)] := fun k => ⟨rfl, fun j c hj => by
    match j, hj with
    | 0, hj => cases hj; exact ⟨_, rfl, .t (.int _ _)⟩
    | 1, hj => cases hj; exact ⟨_, rfl, .t (.int _ _)⟩⟩
  have := flat_eq (P := P) (w := w) (g := ⟨fun _ => False, fun _ => none, fun _ _ => False⟩) 6 kt [.int, .int] true (keyV k) (keyV l) _ _ (k.1 == l.1 && (k.2 == l.2 && true)) 10000 (by omega) hfl hag ⟨_, rfl, hc k⟩ ⟨_, rfl, hc l⟩ (by simp [eqCs, eqD])
  unfold Op.equal Op.maxDepth
  rw [this]
  congr 1
  rw [Bool.and_true]
  rfl
theorem findAsk {kt : TypeId} (h : keyB P kt = true) (k : Int × Int) (w : World) : ∀ (l : List MapEntry) (es : List (Nat × (Int × Int) × MV)) (i : Nat), l.length = es.length → (∀ (j : Nat) e, es[j]? = some e → ∃ x, l[j]? = some x ∧ x.key = keyV e.2.1) →
    (Instr.findAsking kt (keyV k) l i).run P w = .ok ((l[es.findIdx fun e => e.2.1 == k]?).map fun x => (i + (es.findIdx fun e => e.2.1 == k), x.val)) w
  | [], [], i, _, _ => by simp [Instr.findAsking]
  | [], _ :: _, _, h, _ => by simp at h
  | _ :: _, [], _, h, _ => by simp at h
  | x :: l, e :: es, i, hl, hk => by
    obtain ⟨y, y1, y2⟩ := hk 0 e rfl
    cases y1
    have ih := findAsk h k w l es (i + 1) (by simpa using hl) fun j e' hj => hk (j + 1) e' hj
    rw [Instr.findAsking, List.findIdx_cons]
    simp only [Sem.run_bind, y2, run_equalC h, Result.andThen_ok]
    by_cases hc : e.2.1 = k
    · subst hc
      simp
    · have h1 : (k == e.2.1) = false := by simpa using fun hh => hc hh.symm
      have h2 : (e.2.1 == k) = false := by simpa using hc
      simp only [h1, h2, Bool.false_eq_true, if_false, cond_false]
      rw [ih]
      simp only [List.getElem?_cons_succ]
      rw [show i + (List.findIdx (fun e => e.2.1 == k) es + 1) = i + 1 + List.findIdx (fun e => e.2.1 == k) es by omega]
theorem run_findKeyC {kt : TypeId} (h : keyB P kt = true) (k : Int × Int) {w : World} {g : Gh} {ag : Bool} {bs : Nat → Nat} {arr : Array MapEntry} {m : Cm} {out : Option (Nat × Nat × Nat)} (he : EntC w g ag bs arr m out) (w' : World) :
    (Instr.findKey kt (keyV k) arr.toList).run P w' = .ok ((arr[m.at k]?).map fun x => (m.at k, x.val)) w' := by
  obtain ⟨fs, f, g', hu, _⟩ := keyB_ok h
  have hk : ∀ (j : Nat) e, m.es[j]? = some e → ∃ x, arr.toList[j]? = some x ∧ x.key = keyV e.2.1 := fun j e hj => by
    obtain ⟨x, x1, _, x2, _⟩ := he.2 j e hj
    exact ⟨x, by simpa using x1, x2⟩
  have hf := findAsk h k w' arr.toList m.es 0 (by simpa using he.1) hk
  have hf' : (Instr.findAsking kt (keyV k) arr.toList 0).run P w' = .ok ((arr[m.at k]?).map fun x => (m.at k, x.val)) w' := by simpa [Cm.at] using hf
  unfold Instr.findKey
  simp only [Sem.run_bind, run_underlying hu, Result.andThen_ok]
  cases ha : arr.toList with
  | nil =>
    have : arr = #[] := by simpa using ha
    subst this
    simp [Instr.findNow]
  | cons x l =>
    rw [← ha]
    have : Instr.findNow (.struct fs) (keyV k) arr.toList 0 = none := by rw [ha]; rfl
    rw [this]
    exact hf'
theorem keyStays (k : Int × Int) (w : World) : (Instr.keyThatStays (keyV k) (keyV k)).run P w = .ok (keyV k) w := by
  have : Instr.sameBits 10000 (keyV k) (keyV k) = true := by simp [keyV, Instr.sameBits]
  simp [Instr.keyThatStays, this]
theorem Cm.find_key {m : Cm} {k : Int × Int} {e : Nat × (Int × Int) × MV} (h : m.es[m.at k]? = some e) : e.2.1 = k := by
  obtain ⟨hlt, rfl⟩ := List.getElem?_eq_some_iff.1 h
  have h : (m.es[m.at k].2.1 == k) = true := List.findIdx_getElem (w := hlt)
  simpa using h
theorem rv_key {w : World} {g : Gh} {v : Value} {a b : Int} (h : RV w g v (vA [.t (.int .i64 a), .t (.int .i64 b)])) : v = keyV (a, b) := by
  have h := rv_e h
  cases h with
  | agg arr cs hs h =>
    obtain ⟨u, u1, u2⟩ := h 0 _ rfl
    obtain ⟨x, x1, x2⟩ := h 1 _ rfl
    cases u2 with | t u2 => cases x2 with | t x2 =>
      cases u2
      cases x2
      have : arr = #[.int .i64 a, .int .i64 b] := by
        apply Array.ext_getElem?
        intro i
        match i with
        | 0 => simpa using u1
        | 1 => simpa using x1
        | i + 2 => rw [Array.getElem?_eq_none (by simp at hs; omega), Array.getElem?_eq_none (by simp)]
      rw [this]
      rfl
theorem s_mkMapC {t : TypeId} {ag : Bool} {r : Option Operand} {ar : Option AX} {q : Bool × List D} (ho : o.op = .makeMap t r) (h1 : trXo r = some ar) (t1 : ∀ y ∈ ar.toList, ∀ t ∈ y.ts, t ∈ ts) (hm : mapC P t = some q) (h : aop (.mkMapC ag ar) ρ hl = some (p, s)) : OpR P N o ρ ts hl s := by
  obtain ⟨kt, et, hu, _⟩ := mapC_ok (ag := q.1) (z := q.2) hm
  have main : s = { v := vC (.mp hl.length), nw := [.cm ag ⟨0, []⟩ none] } → (∀ (a : Act) (w : World) (g : Gh), EnvOn w g a ρ ts → (execOp a.eval o).run P w = .ok (.value (.map (some w.heap.size))) (w.alloc (.map #[] 0))) → OpR P N o ρ ts hl s := by
    rintro rfl hrun a w g hh hN hrd hnew hR he
    unfold Oper.wp
    rw [hrun a w g he]
    have hk : Keeps Nope w (w.alloc (.map #[] 0)) := (Keeps.refl _ _).alloc _
    obtain ⟨r1, r2⟩ := alloc1 (w' := w.alloc (.map #[] 0)) hR hk hnew ⟨w.heap.size, false, 0, 0⟩ (· = w.heap.size) (.cm ag ⟨0, []⟩ none) (fun b hb => by omega)
      ⟨_, #[], fun _ => 0, Gh.set_at _ _ _ _, heap_alloc_new w _, ⟨rfl, fun j c hj => by simp at hj⟩, fun j k ⟨_, st, k', sz, rows, hj⟩ => by simp at hj, fun b => by
        rw [Gh.set_fp]
        refine ⟨.inl, fun h => ?_⟩
        rcases h with h | ⟨j, ⟨_, st, k', sz, rows, hj⟩, _⟩
        · exact h
        · simp at hj⟩ (vC (.mp hl.length)) []
    exact ⟨_, _, rfl, .e (.c (.mp (l := ⟨w.heap.size, false, 0, 0⟩) (Gh.set_at _ _ _ _))), r1, r2⟩
  cases r with
  | none =>
    cases h1
    simp only [aop] at h
    cases h
    exact main rfl fun a w g he => by simp [execOp, ho, Instr.makeMap]
  | some x =>
    simp only [trXo, Option.map_eq_some_iff] at h1
    obtain ⟨ax, h1, rfl⟩ := h1
    simp only [aop] at h
    split at h
    · rename_i k n e1
      cases h
      refine main rfl fun a w g he => ?_
      have r1 := rv_int (ev_ok h1 he (t1 ax (by simp)) e1)
      simp [execOp, ho, Instr.makeMap, r1, run_underlying hu, asInt, asIntOf]
    · cases h
theorem s_mkFnM' : True := trivial
/-- The map's block is turned. -/
theorem cm_turn {w : World} {g : Gh} {h : Nat → Ob} {id : Nat} {ag ag' : Bool} {m m' : Cm} {out out' : Option (Nat × Nat × Nat)} {l : Loc} {arr arr' : Array MapEntry} {bs : Nat → Nat} (hR : Rl w g h) (hob : h id = .cm ag m out) (m1 : g.μ id = some l) (m2 : w.heap[l.blk]? = some (.map arr m.ck)) (m3 : EntC w g ag bs arr m out)
    (m4 : ∀ j k, inn m out j → inn m out k → bs j = bs k → j = k) (m5 : ∀ b, g.fp id b ↔ b = l.blk ∨ ∃ j, inn m out j ∧ b = bs j) (hE : EntC w g ag' bs arr' m' out') (hin : ∀ j, inn m' out' j → inn m out j) (base : Nat) (v : V) (rd : List Nat) :
    Keeps (g.fp id) w (setBlock w l.blk (.map arr' m'.ck)) ∧ (Rl (setBlock w l.blk (.map arr' m'.ck)) (⟨g.I, g.μ, fun i b => if i = id then b = l.blk ∨ ∃ j, inn m' out' j ∧ b = bs j else g.fp i b⟩ : Gh) (Res.app { v := v, wr := [(id, .cm ag' m' out')], rd := rd } base h) ∧
      Go1 w g h [id] base 0 (setBlock w l.blk (.map arr' m'.ck)) (⟨g.I, g.μ, fun i b => if i = id then b = l.blk ∨ ∃ j, inn m' out' j ∧ b = bs j else g.fp i b⟩ : Gh) (Res.app { v := v, wr := [(id, .cm ag' m' out')], rd := rd } base h)) := by
  have hlive : (h id).live = true := by rw [hob]; rfl
  have hkp : Keeps (g.fp id) w (setBlock w l.blk (.map arr' m'.ck)) := (Keeps.refl _ _).setB ((m5 _).2 (.inl rfl)) _
  have hsm : Same g.I w (setBlock w l.blk (.map arr' m'.ck)) := Same.of_keeps hkp hR.lt (fun b hb hf => hR.imm id b hlive hf hb)
  refine ⟨hkp, ?_⟩
  have hne : ∀ j, inn m out j → bs j ≠ l.blk := fun j hj e => by
    obtain ⟨a, ty, h1⟩ := m3.blk hj
    rw [e, m2] at h1
    cases h1
  have happ : ∀ i, Res.app { v := v, wr := [(id, .cm ag' m' out')], rd := rd } base h i = if i = id then .cm ag' m' out' else h i := by
    intro i
    simp only [Res.app, getO]
    by_cases h1 : id = i
    · subst h1; simp
    · rw [if_neg h1, if_neg (Ne.symm h1)]; simp
  have hsub : ∀ b, (b = l.blk ∨ ∃ j, inn m' out' j ∧ b = bs j) → g.fp id b := fun b hb => (m5 b).2 (hb.imp_right fun ⟨j, h1, h2⟩ => ⟨j, hin j h1, h2⟩)
  have hgm : Gm g (⟨g.I, g.μ, fun i b => if i = id then b = l.blk ∨ ∃ j, inn m' out' j ∧ b = bs j else g.fp i b⟩ : Gh) := ⟨fun _ h => h, fun _ _ h => h⟩
  have hg : Go1 w g h [id] base 0 (setBlock w l.blk (.map arr' m'.ck)) (⟨g.I, g.μ, fun i b => if i = id then b = l.blk ∨ ∃ j, inn m' out' j ∧ b = bs j else g.fp i b⟩ : Gh) (Res.app { v := v, wr := [(id, .cm ag' m' out')], rd := rd } base h) := by
    refine ⟨hkp.mono (fun b _ hb => ⟨id, by simp, hlive, hb⟩), hgm, fun b hb => .inl hb, fun i _ hn => hn, fun i hi _ => ?_, fun i b hi hli hb => ?_⟩
    · simp at hi
      funext b
      simp only [if_neg hi]
    · rcases hi with hi | hi
      · simp at hi; subst hi
        simp only [if_true] at hb
        exact .inl ⟨i, by simp, hlive, hsub b hb⟩
      · simp [isNew] at hi; omega
  refine ⟨hR.step hg (fun i hi _ => ?_) (fun i hi => by simp [isNew] at hi; omega) (fun i hi hli => ?_) (fun i j b hi hj _ _ _ _ => ?_) (fun i b hi hli hb => ?_) (fun b hb => Nat.lt_of_lt_of_le (hR.lt b hb) hkp.size), hg⟩
  · simp at hi; rw [happ, if_neg hi]
  · rcases hi with hi | hi
    · simp at hi; subst hi; rw [happ, if_pos rfl]
      refine ⟨l, arr', bs, m1, (Go.MapKept.heap_set m2).1, hE.more hsm hgm (fun j hj => ?_), fun j k hj hk => m4 j k (hin j hj) (hin k hk), fun b => by simp only [if_true]⟩
      exact (Go.MapKept.heap_set m2).2 _ (hne j (hin j hj))
    · simp [isNew] at hi; omega
  · have : ∀ k, (k ∈ [id] ∨ isNew base 0 k) → k = id := fun k hk => by
      rcases hk with hk | hk
      · simpa using hk
      · simp [isNew] at hk; omega
    rw [this i hi, this j hj]
  · rcases hi with hi | hi
    · simp at hi; subst hi
      simp only [if_true] at hb
      exact hR.imm i b hlive (hsub b hb)
    · simp [isNew] at hi; omega
theorem rv_mp {w : World} {g : Gh} {v : Value} {id : Nat} (h : RC w g v (.mp id)) {l : Loc} (hl : g.μ id = some l) : v = .map (some l.blk) := by
  cases h with
  | mp hμ => rw [Option.some.inj (hl.symm.trans hμ)]
theorem MvR.data {w : World} {g : Gh} {ag : Bool} {b : Nat} {v : Value} {ds : List D} {o : Option (Nat × Nat)} (h : MvR w g ag b v (.o ds) o) (ho : o = none) : RE w g v (valE ag ds) := by subst ho; exact h
theorem s_lookupC {t : TypeId} {x k : Operand} {ax ak : AX} {ag : Bool} {z : List D} {r : Option (List D)} (ho : o.op = .lookup t x k false) (h1 : trX x = some ax) (h2 : trX k = some ak) (t1 : ∀ t ∈ ax.ts, t ∈ ts) (t2 : ∀ t ∈ ak.ts, t ∈ ts)
    (hm : mapC P t = some (ag, z)) (h : aopm (.lookupC ag z ax ak) ρ hl r = some (p, s)) (hp : p) : OpR P N o ρ ts hl s := by
  simp only [aopm] at h
  obtain ⟨kt, et, ht, hk, hz⟩ := mapC_ok hm
  split at h
  · rename_i id n1 n2 e1 e2
    split at h
    · rename_i ag' m hid
      have main : ∀ ds, ((r = some ds ∧ m.get (n1, n2) = some (.o ds) ∧ ag' = ag) ∨ (r = none ∧ m.get (n1, n2) = none ∧ ds = z)) →
          OpR P N o ρ ts hl { v := .e (valE ag ds), rd := [id] } := by
        intro ds hr
        refine OpR.val rfl rfl fun a w g hh hrd hR he => ?_
        have r1 := rv_c (ev_ok h1 he t1 e1)
        have r2 := rv_key (ev_ok h2 he t2 e2)
        have hob : hh id = .cm ag' m none := (hrd id (by simp)).trans hid
        obtain ⟨l, arr, bs, m1, m2, m3, m4, m5⟩ := hob ▸ hR.objs id (by rw [hob]; rfl)
        have r1 := rv_mp r1 m1
        obtain ⟨zv, z1, z2⟩ := zeroM_ok hz
        have hf := run_findKeyC hk (n1, n2) m3 w
        have key : ∃ v, (Instr.lookup t (.map (some l.blk)) (keyV (n1, n2)) false).run P w = .ok v w ∧ RE w g v (valE ag ds) := by
          rcases hr with ⟨rfl, hg, rfl⟩ | ⟨rfl, hg, rfl⟩
          · unfold Cm.get at hg
            obtain ⟨e, he1, he2⟩ := Option.map_eq_some_iff.1 hg
            obtain ⟨y, y1, y2, y3, y4⟩ := m3.2 _ e he1
            rw [y1, Option.map_some] at hf
            refine ⟨y.val, ?_, (he2 ▸ y4).data rfl⟩
            simp [Instr.lookup, run_underlying ht, Go.MapKept.run_getObj_map m2, run_checkKeyC hk, hf, Result.andThen]
          · unfold Cm.get at hg
            have hg' := Option.map_eq_none_iff.1 hg
            have : arr[m.at (n1, n2)]? = none := by
              rw [List.getElem?_eq_none_iff] at hg'
              rw [Array.getElem?_eq_none_iff, m3.1]
              exact hg'
            rw [this, Option.map_none] at hf
            refine ⟨zv, ?_, z2 w g⟩
            simp [Instr.lookup, run_underlying ht, Go.MapKept.run_getObj_map m2, run_checkKeyC hk, hf, Result.andThen, z1]
        obtain ⟨v, hrun, hv⟩ := key
        refine ⟨v, ?_, .e hv⟩
        simp only [execOp, ho, r1, r2]
        exact run_v hrun
      cases r with
      | some ds => simp only at h; cases h; exact main ds (.inl ⟨rfl, hp.1, hp.2⟩)
      | none => simp only at h; cases h; exact main z (.inr ⟨rfl, hp, rfl⟩)
    · cases h
  · cases h
theorem s_lookupO {t : TypeId} {x k : Operand} {ax ak : AX} {ag : Bool} {z : List D} (ho : o.op = .lookup t x k false) (h1 : trX x = some ax) (h2 : trX k = some ak) (t1 : ∀ t ∈ ax.ts, t ∈ ts) (t2 : ∀ t ∈ ak.ts, t ∈ ts)
    (hm : mapC P t = some (ag, z)) (h : aop (.lookupC ag z ax ak) ρ hl = some (p, s)) (hp : p) : OpR P N o ρ ts hl s := by
  simp only [aop] at h
  obtain ⟨kt, et, ht, hk, hz⟩ := mapC_ok hm
  split at h
  · rename_i id n1 n2 e1 e2
    split at h
    · rename_i ag' m j lid n hid
      cases h
      obtain ⟨hp1, hp2, hp3⟩ := hp
      refine OpR.val rfl rfl fun a w g hh hrd hR he => ?_
      have r1 := rv_c (ev_ok h1 he t1 e1)
      have r2 := rv_key (ev_ok h2 he t2 e2)
      have hob : hh id = .cm ag' m (some (j, lid, n)) := (hrd id (by simp)).trans hid
      obtain ⟨l, arr, bs, m1, m2, m3, m4, m5⟩ := hob ▸ hR.objs id (by rw [hob]; rfl)
      have r1 := rv_mp r1 m1
      have hf := run_findKeyC hk (n1, n2) m3 w
      obtain ⟨y, y1, y2, y3, y4⟩ := m3.2 j m.es[j] (List.getElem?_eq_getElem hp2)
      rw [hp1, y1, Option.map_some] at hf
      simp only [outAt, if_true, MvR] at y4
      refine ⟨y.val, ?_, .e (.c y4)⟩
      simp only [execOp, ho, r1, r2]
      refine run_v ?_
      simp [Instr.lookup, run_underlying ht, Go.MapKept.run_getObj_map m2, run_checkKeyC hk, hf, Result.andThen]
    · cases h
  · cases h
/-- A key is set to data. -/
theorem EntC.set {w : World} {g : Gh} {ag : Bool} {bs : Nat → Nat} {arr : Array MapEntry} {m : Cm} (h : EntC w g ag bs arr m none) {j : Nat} {ds : List D} {v : Value} (hv : RE w g v (valE ag ds)) {k : Value} (hk : ∀ e, m.es[j]? = some e → k = keyV e.2.1) :
    EntC w g ag bs (arr.modify j fun e => { e with key := k, val := v }) (m.put j (.o ds)) none := by
  refine ⟨by simp [Cm.put, h.1], fun q e' hq => ?_⟩
  simp only [Cm.put] at hq
  rw [List.getElem?_modify] at hq
  rw [Array.getElem?_modify]
  cases hej : m.es[q]? with
  | none => rw [hej] at hq; simp at hq
  | some e0 =>
    rw [hej] at hq
    obtain ⟨x0, x1, x2, x3, x4⟩ := h.2 q e0 hej
    by_cases hjn : j = q
    · subst hjn
      have hk' := hk _ hej
      simp at hq
      subst hq
      exact ⟨{ x0 with key := k, val := v }, by simp [x1], x2, hk', hv⟩
    · rw [if_neg hjn]
      simp [hjn] at hq
      subst hq
      exact ⟨x0, x1, x2, x3, x4⟩
theorem EntC.new {w : World} {g : Gh} {ag : Bool} {bs : Nat → Nat} {arr : Array MapEntry} {m : Cm} (h : EntC w g ag bs arr m none) {k : Int × Int} {ds : List D} {v : Value} (hv : RE w g v (valE ag ds)) :
    EntC w g ag bs (arr.push { key := keyV k, val := v, born := m.ck }) (m.new k (.o ds)) none := by
  refine ⟨by simp [Cm.new, h.1], fun j e' hj => ?_⟩
  simp only [Cm.new] at hj
  rw [Array.getElem?_push, h.1]
  by_cases hjl : j = m.es.length
  · subst hjl
    simp at hj
    subst hj
    exact ⟨{ key := keyV k, val := v, born := m.ck }, by simp, rfl, rfl, hv⟩
  · rw [if_neg hjl]
    rw [List.getElem?_append_left (by have := (List.getElem?_eq_some_iff.1 hj).1; simp at this; omega)] at hj
    exact h.2 j e' hj
theorem inn_put {m : Cm} {i j : Nat} {ds : List D} (h : inn (m.put i (.o ds)) none j) : inn m none j := by
  obtain ⟨h1, st, k, sz, rows, h2⟩ := h
  refine ⟨h1, ?_⟩
  simp only [Cm.put, List.getElem?_modify] at h2
  cases hm : m.es[j]? with
  | none => rw [hm] at h2; simp at h2
  | some e =>
    rw [hm] at h2
    by_cases hij : i = j
    · simp [hij] at h2
    · simp [hij] at h2
      exact ⟨st, k, sz, rows, by rw [h2]⟩
theorem inn_new {m : Cm} {k0 : Int × Int} {j : Nat} {ds : List D} (h : inn (m.new k0 (.o ds)) none j) : inn m none j := by
  obtain ⟨h1, st, k, sz, rows, h2⟩ := h
  refine ⟨h1, ?_⟩
  simp only [Cm.new] at h2
  rcases Nat.lt_trichotomy j m.es.length with hlt | rfl | hgt
  · rw [List.getElem?_append_left hlt] at h2
    exact ⟨st, k, sz, rows, h2⟩
  · simp at h2
  · rw [List.getElem?_eq_none (by simp; omega)] at h2
    cases h2
theorem s_mapSetC {t : TypeId} {x k v : Operand} {ax ak av : AX} {q : Bool × List D} (ho : o.op = .mapUpdate t x k v) (h1 : trX x = some ax) (h2 : trX k = some ak) (h3 : trX v = some av) (t1 : ∀ t ∈ ax.ts, t ∈ ts) (t2 : ∀ t ∈ ak.ts, t ∈ ts) (t3 : ∀ t ∈ av.ts, t ∈ ts)
    (hm : mapC P t = some q) (h : aop (.mapSetC ax ak av) ρ hl = some (p, s)) : OpR P N o ρ ts hl s := by
  simp only [aop] at h
  obtain ⟨kt, et, ht, hk, hz⟩ := mapC_ok (ag := q.1) (z := q.2) hm
  split at h
  · rename_i id n1 n2 e e1 e2 e3
    split at h
    · rename_i ag m hid
      split at h
      · rename_i ds hds
        cases h
        intro a w g hh hN hrd hnew hR he
        have r1 := rv_c (ev_ok h1 he t1 e1)
        have r2 := rv_key (ev_ok h2 he t2 e2)
        have r3 := agD_ok hds (rv_e (ev_ok h3 he t3 e3))
        have hob : hh id = .cm ag m none := (hrd id (.inl (by simp))).trans hid
        obtain ⟨l, arr, bs, m1, m2, m3, m4, m5⟩ := hob ▸ hR.objs id (by rw [hob]; rfl)
        have r1 := rv_mp r1 m1
        have hf := run_findKeyC hk (n1, n2) m3 w
        have key : ∃ arr', (Instr.mapUpdate t (.map (some l.blk)) (keyV (n1, n2)) (a.eval v)).run P w = .ok () (setBlock w l.blk (.map arr' (m.set (n1, n2) (.o ds)).ck)) ∧ EntC w g ag bs arr' (m.set (n1, n2) (.o ds)) none ∧ ∀ j, inn (m.set (n1, n2) (.o ds)) none j → inn m none j := by
          by_cases hlt : m.at (n1, n2) < m.es.length
          · have hg : m.es[m.at (n1, n2)]? = some m.es[m.at (n1, n2)] := List.getElem?_eq_getElem hlt
            have hkey := Cm.find_key hg
            obtain ⟨y, y1, y2, y3, y4⟩ := m3.2 _ _ hg
            rw [y1, Option.map_some] at hf
            have hset : m.set (n1, n2) (.o ds) = m.put (m.at (n1, n2)) (.o ds) := if_pos hlt
            rw [hset]
            refine ⟨_, ?_, m3.set r3 (k := keyV (n1, n2)) (fun e he => by rw [hg] at he; cases he; rw [hkey]), fun j => inn_put⟩
            have hy : y.key = keyV (n1, n2) := by rw [y3, hkey]
            simp [Instr.mapUpdate, run_underlying ht, Go.MapKept.run_getObj_map m2, run_checkKeyC hk, hf, y1, hy, keyStays, Go.MapKept.run_setObj_map _ m2, Result.andThen, setBlock, Cm.put]
          · have : arr[m.at (n1, n2)]? = none := by rw [Array.getElem?_eq_none_iff, m3.1]; omega
            rw [this, Option.map_none] at hf
            have hset : m.set (n1, n2) (.o ds) = m.new (n1, n2) (.o ds) := if_neg hlt
            rw [hset]
            refine ⟨_, ?_, m3.new r3, fun j => inn_new⟩
            simp [Instr.mapUpdate, run_underlying ht, Go.MapKept.run_getObj_map m2, run_checkKeyC hk, hf, Go.MapKept.run_setObj_map _ m2, Result.andThen, setBlock, Cm.new]
        obtain ⟨arr', hrun, hen', hin⟩ := key
        have hex : (execOp a.eval o).run P w = .ok .skip (setBlock w l.blk (.map arr' (m.set (n1, n2) (.o ds)).ck)) := by
          simp only [execOp, ho, r1, r2]
          simp [hrun]
        unfold Oper.wp
        rw [hex]
        obtain ⟨hkp, q1, q2⟩ := cm_turn hR hob m1 m2 m3 m4 m5 hen' hin hl.length .u [id]
        exact ⟨undef, _, rfl, .u, q1, q2⟩
      · cases h
    · cases h
  · cases h
theorem EntC.same {w : World} {g : Gh} {ag : Bool} {bs : Nat → Nat} {arr : Array MapEntry} {m : Cm} {out : Option (Nat × Nat × Nat)} (h : EntC w g ag bs arr m out) {j : Nat} {k : Value} (hk : ∀ e, m.es[j]? = some e → k = keyV e.2.1) :
    EntC w g ag bs (arr.modify j fun e => { e with key := k }) m out := by
  refine ⟨by simp [h.1], fun q e hq => ?_⟩
  obtain ⟨x0, x1, x2, x3, x4⟩ := h.2 q e hq
  rw [Array.getElem?_modify]
  by_cases hjn : j = q
  · subst hjn
    exact ⟨{ x0 with key := k }, by simp [x1], x2, hk _ hq, x4⟩
  · rw [if_neg hjn]
    exact ⟨x0, x1, x2, x3, x4⟩
theorem s_mapEntryO {t : TypeId} {x k : Operand} {ax ak : AX} {ag : Bool} {z : List D} (ho : o.op = .mapEntry t x k) (h1 : trX x = some ax) (h2 : trX k = some ak) (t1 : ∀ t ∈ ax.ts, t ∈ ts) (t2 : ∀ t ∈ ak.ts, t ∈ ts)
    (hm : mapC P t = some (ag, z)) (h : aop (.mapEntry ag z ax ak) ρ hl = some (p, s)) (hp : p) : OpR P N o ρ ts hl s := by
  simp only [aop] at h
  obtain ⟨kt, et, ht, hk, hz⟩ := mapC_ok hm
  split at h
  · rename_i id n1 n2 e1 e2
    split at h
    · rename_i ag' m j lid n hid
      cases h
      obtain ⟨hp1, hp2, hp3⟩ := hp
      intro a w g hh hN hrd hnew hR he
      have r1 := rv_c (ev_ok h1 he t1 e1)
      have r2 := rv_key (ev_ok h2 he t2 e2)
      have hob : hh id = .cm ag' m (some (j, lid, n)) := (hrd id (.inl (by simp))).trans hid
      obtain ⟨l, arr, bs, m1, m2, m3, m4, m5⟩ := hob ▸ hR.objs id (by rw [hob]; rfl)
      have r1 := rv_mp r1 m1
      have hf := run_findKeyC hk (n1, n2) m3 w
      have hg : m.es[j]? = some m.es[j] := List.getElem?_eq_getElem hp2
      obtain ⟨y, y1, y2, y3, y4⟩ := m3.2 j _ hg
      rw [hp1, y1, Option.map_some] at hf
      have hkey : m.es[j].2.1 = (n1, n2) := Cm.find_key (m := m) (by rw [hp1]; exact hg)
      have hy : y.key = keyV (n1, n2) := by rw [y3, hkey]
      have hst : m.st j = y.born := by simp [Cm.st, hg, y2]
      have hrun : (Instr.mapEntry t (.map (some l.blk)) (keyV (n1, n2))).run P w = .ok (.tuple #[y.val, .int .i64 (m.st j)]) (setBlock w l.blk (.map (arr.modify j fun e => { e with key := keyV (n1, n2) }) m.ck)) := by
        simp [Instr.mapEntry, run_underlying ht, Go.MapKept.run_getObj_map m2, run_checkKeyC hk, hf, y1, hy, keyStays, Go.MapKept.run_setObj_map _ m2, Result.andThen, setBlock, goInt, hst]
      have hex : (execOp a.eval o).run P w = .ok (.value (.tuple #[y.val, .int .i64 (m.st j)])) (setBlock w l.blk (.map (arr.modify j fun e => { e with key := keyV (n1, n2) }) m.ck)) := by
        simp only [execOp, ho, r1, r2]
        exact run_v hrun
      unfold Oper.wp
      rw [hex]
      obtain ⟨hkp, q1, q2⟩ := cm_turn hR hob m1 m2 m3 m4 m5 (m3.same (j := j) (k := keyV (n1, n2)) (fun e he => by rw [hg] at he; cases he; rw [hkey])) (fun j hj => hj) hl.length (.tup [.c (.sl lid 0 n), .c (.t (.int .i64 (m.st j)))]) [id]
      have hsm : Same g.I w (setBlock w l.blk (.map (arr.modify j fun e => { e with key := keyV (n1, n2) }) m.ck)) := Same.of_keeps hkp hR.lt (fun b hb hf => hR.imm id b (by rw [hob]; rfl) hf hb)
      simp only [outAt, if_true, MvR] at y4
      refine ⟨_, _, rfl, .tup _ _ rfl fun q e hq => ?_, q1, q2⟩
      match q, hq with
      | 0, hq => cases hq; exact ⟨_, rfl, .c (y4.more hsm ⟨fun _ h => h, fun _ _ h => h⟩)⟩
      | 1, hq => cases hq; exact ⟨_, rfl, .c (.t (.int _ _))⟩
    · cases h
  · cases h
theorem s_mapEntryN {t : TypeId} {x k : Operand} {ax ak : AX} {ag : Bool} {z : List D} {r : Option (List D)} (ho : o.op = .mapEntry t x k) (h1 : trX x = some ax) (h2 : trX k = some ak) (t1 : ∀ t ∈ ax.ts, t ∈ ts) (t2 : ∀ t ∈ ak.ts, t ∈ ts)
    (hm : mapC P t = some (ag, z)) (h : aopm (.mapEntry ag z ax ak) ρ hl r = some (p, s)) (hp : p) : OpR P N o ρ ts hl s := by
  simp only [aopm] at h
  obtain ⟨kt, et, ht, hk, hz⟩ := mapC_ok hm
  split at h
  · rename_i id n1 n2 e1 e2
    split at h
    · rename_i ag' m hid
      split at h
      · cases h
      · cases h
        obtain ⟨hp1, rfl⟩ := hp
        intro a w g hh hN hrd hnew hR he
        have r1 := rv_c (ev_ok h1 he t1 e1)
        have r2 := rv_key (ev_ok h2 he t2 e2)
        have hob : hh id = .cm ag' m none := (hrd id (.inl (by simp))).trans hid
        obtain ⟨l, arr, bs, m1, m2, m3, m4, m5⟩ := hob ▸ hR.objs id (by rw [hob]; rfl)
        have r1 := rv_mp r1 m1
        obtain ⟨zv, z1, z2⟩ := zeroM_ok hz
        have hf := run_findKeyC hk (n1, n2) m3 w
        have : arr[m.at (n1, n2)]? = none := by
          unfold Cm.get at hp1
          have hg' := Option.map_eq_none_iff.1 hp1
          rw [List.getElem?_eq_none_iff] at hg'
          rw [Array.getElem?_eq_none_iff, m3.1]
          exact hg'
        rw [this, Option.map_none] at hf
        have hrun : (Instr.mapEntry t (.map (some l.blk)) (keyV (n1, n2))).run P w = .ok (.tuple #[zv, .int .i64 m.ck]) (setBlock w l.blk (.map (arr.push { key := keyV (n1, n2), val := zv, born := m.ck }) (m.new (n1, n2) (.o z)).ck)) := by
          simp [Instr.mapEntry, run_underlying ht, Go.MapKept.run_getObj_map m2, run_checkKeyC hk, hf, z1, Go.MapKept.run_setObj_map _ m2, Result.andThen, setBlock, goInt, Cm.new]
        have hex : (execOp a.eval o).run P w = .ok (.value (.tuple #[zv, .int .i64 m.ck])) (setBlock w l.blk (.map (arr.push { key := keyV (n1, n2), val := zv, born := m.ck }) (m.new (n1, n2) (.o z)).ck)) := by
          simp only [execOp, ho, r1, r2]
          exact run_v hrun
        unfold Oper.wp
        rw [hex]
        obtain ⟨hkp, q1, q2⟩ := cm_turn hR hob m1 m2 m3 m4 m5 (m3.new (k := (n1, n2)) (z2 w g)) (fun j => inn_new) hl.length (.tup [valE ag' z, .c (.t (.int .i64 m.ck))]) [id]
        refine ⟨_, _, rfl, .tup _ _ rfl fun q e hq => ?_, q1, q2⟩
        match q, hq with
        | 0, hq => cases hq; exact ⟨_, rfl, z2 _ _⟩
        | 1, hq => cases hq; exact ⟨_, rfl, .c (.t (.int _ _))⟩
    · cases h
  · cases h
theorem find_born (b : Int) : ∀ (l : List MapEntry) (es : List (Nat × (Int × Int) × MV)), l.length = es.length → (∀ (j : Nat) e, es[j]? = some e → ∃ x, l[j]? = some x ∧ x.born = e.1) → l.findIdx (fun e => (e.born : Int) == b) = es.findIdx fun e => (e.1 : Int) == b
  | [], [], _, _ => rfl
  | [], _ :: _, h, _ => by simp at h
  | _ :: _, [], h, _ => by simp at h
  | x :: l, e :: es, h, hk => by
    obtain ⟨y, y1, y2⟩ := hk 0 e rfl
    cases y1
    rw [List.findIdx_cons, List.findIdx_cons, y2, find_born b l es (by simpa using h) fun j e' hj => hk (j + 1) e' hj]
theorem EntC.out {w : World} {g : Gh} {bs : Nat → Nat} {arr : Array MapEntry} {m : Cm} {out : Option (Nat × Nat × Nat)} {j lid n : Nat} (h : EntC w g false bs arr m out) (ho : out = none ∨ ∃ a b, out = some (j, a, b)) {v : Value} (hv : RC w g v (.sl lid 0 n)) :
    EntC w g false bs (arr.modify j fun e => { e with val := v }) m (some (j, lid, n)) := by
  refine ⟨by simp [h.1], fun q e hq => ?_⟩
  obtain ⟨x0, x1, x2, x3, x4⟩ := h.2 q e hq
  rw [Array.getElem?_modify]
  by_cases hjn : j = q
  · subst hjn
    refine ⟨{ x0 with val := v }, by simp [x1], x2, x3, ?_⟩
    simp only [outAt, if_true, MvR]
    exact hv
  · rw [if_neg hjn]
    refine ⟨x0, x1, x2, x3, ?_⟩
    have : outAt out q = none := by
      rcases ho with rfl | ⟨a, b, rfl⟩
      · rfl
      · simp [outAt, hjn]
    rw [this] at x4
    have : outAt (some (j, lid, n)) q = none := by simp [outAt, hjn]
    rw [this]
    exact x4
theorem inn_out {m : Cm} {out : Option (Nat × Nat × Nat)} {j lid n q : Nat} (ho : out = none ∨ ∃ a b, out = some (j, a, b)) (h : inn m (some (j, lid, n)) q) : inn m out q := by
  obtain ⟨h1, h2⟩ := h
  refine ⟨?_, h2⟩
  rcases ho with rfl | ⟨a, b, rfl⟩
  · rfl
  · by_cases hj : j = q
    · simp [outAt, hj] at h1
    · simp [outAt, hj]
theorem s_entryStore {t : TypeId} {x st v : Operand} {ax ast av : AX} (ho : o.op = .entryStore t x st v) (h1 : trX x = some ax) (h2 : trX st = some ast) (h3 : trX v = some av) (t1 : ∀ t ∈ ax.ts, t ∈ ts) (t2 : ∀ t ∈ ast.ts, t ∈ ts) (t3 : ∀ t ∈ av.ts, t ∈ ts)
    (h : aop (.entryStore ax ast av) ρ hl = some (p, s)) (hp : p) : OpR P N o ρ ts hl s := by
  simp only [aop] at h
  split at h
  · rename_i id b lid n e1 e2 e3
    have main : ∀ m out, hx hl id = .cm false m out → (out = none ∨ ∃ a c, out = some (m.idx b, a, c)) → m.idx b < m.es.length → s = { v := .u, wr := [(id, .cm false m (some (m.idx b, lid, n)))], rd := [id] } → OpR P N o ρ ts hl s := by
      rintro m out hid hout hlt rfl a w g hh hN hrd hnew hR he
      have r1 := rv_c (ev_ok h1 he t1 e1)
      have r2 := rv_int (ev_ok h2 he t2 e2)
      have r3 := rv_c (ev_ok h3 he t3 e3)
      have hob : hh id = .cm false m out := (hrd id (.inl (by simp))).trans hid
      obtain ⟨l, arr, bs, m1, m2, m3, m4, m5⟩ := hob ▸ hR.objs id (by rw [hob]; rfl)
      have r1 := rv_mp r1 m1
      have hfi : arr.findIdx? (fun e => (e.born : Int) == b) = some (m.idx b) := by
        have h0 := find_born b arr.toList m.es (by simpa using m3.1) fun j e hj => by
          obtain ⟨x, x1, x2, _⟩ := m3.2 j e hj
          exact ⟨x, by simpa using x1, x2⟩
        have h0' : arr.toList.findIdx (fun e => (e.born : Int) == b) = m.idx b := h0
        have h1 : arr.toList.findIdx? (fun e => (e.born : Int) == b) = some (m.idx b) := List.findIdx?_eq_some_iff_findIdx_eq.2 ⟨by simpa [m3.1] using hlt, h0'⟩
        rw [← Array.toArray_toList (xs := arr), List.findIdx?_toArray]
        exact h1
      have hrun : (Instr.entryStore t (.map (some l.blk)) (.int .i64 b) (a.eval v)).run P w = .ok () (setBlock w l.blk (.map (arr.modify (m.idx b) fun e => { e with val := a.eval v }) m.ck)) := by
        simp [Instr.entryStore, Go.MapKept.run_getObj_map m2, hfi, Go.MapKept.run_setObj_map _ m2, Result.andThen, setBlock, asInt, asIntOf]
      have hex : (execOp a.eval o).run P w = .ok .skip (setBlock w l.blk (.map (arr.modify (m.idx b) fun e => { e with val := a.eval v }) m.ck)) := by
        simp only [execOp, ho, r1, r2]
        simp [hrun]
      unfold Oper.wp
      rw [hex]
      obtain ⟨hkp, q1, q2⟩ := cm_turn hR hob m1 m2 m3 m4 m5 (m3.out hout r3) (fun j => inn_out hout) hl.length .u [id]
      exact ⟨undef, _, rfl, .u, q1, q2⟩
    split at h
    · rename_i m hid
      cases h
      exact main m none hid (.inl rfl) hp rfl
    · rename_i m j a c hid
      cases h
      obtain ⟨rfl, hp⟩ := hp
      exact main m _ hid (.inr ⟨a, c, rfl⟩) hp rfl
    · cases h
  · cases h
end
end Go.Proofs.YthddlkhfkncgpaaGreat
set_option linter.unusedVariables false
set_option linter.unusedSimpArgs false
namespace Go.Proofs.YthddlkhfkncgpaaGreat
open Go.RowKit

theorem mem_xts {x : AX} {l : List AX} (h : x ∈ l) : ∀ t ∈ x.ts, t ∈ xts l := fun t ht => List.mem_flatMap.2 ⟨x, h, ht⟩
theorem get0 {α β : Type} {a : Array α} {f : α → Option β} {b : β} (h : a[0]?.bind f = some b) : ∃ x, a[0]? = some x ∧ f x = some b := by
  cases hx : a[0]? with
  | none => simp [hx] at h
  | some x => simp [hx] at h; exact ⟨x, rfl, h⟩
theorem get1 {α β : Type} {a : Array α} {f : α → Option β} {b : β} (h : a[1]?.bind f = some b) : ∃ x, a[1]? = some x ∧ f x = some b := by
  cases hx : a[1]? with
  | none => simp [hx] at h
  | some x => simp [hx] at h; exact ⟨x, rfl, h⟩
theorem listM_one {α β : Type} {f : α → Option β} {l : List α} {b : β} (h : listM f l = some [b]) : ∃ a, l = [a] ∧ f a = some b := by
  obtain ⟨h1, h2⟩ := listM_ok h
  match l, h1 with
  | [a], _ => obtain ⟨a', e1, e2⟩ := h2 0 b rfl; simp at e1; subst e1; exact ⟨a, rfl, e2⟩
theorem listM_two {α β : Type} {f : α → Option β} {l : List α} {b c : β} (h : listM f l = some [b, c]) : ∃ a d, l = [a, d] ∧ f a = some b ∧ f d = some c := by
  obtain ⟨h1, h2⟩ := listM_ok h
  match l, h1 with
  | [a, d], _ =>
    obtain ⟨a', e1, e2⟩ := h2 0 b rfl; simp at e1; subst e1
    obtain ⟨a'', e3, e4⟩ := h2 1 c rfl; simp at e3; subst e3
    exact ⟨a, d, rfl, e2, e4⟩
theorem trX_nilf {y : Operand} (h : trX y = some (.k (.c .nilf))) : y = .const .nilFunc := by
  cases y with
  | const v =>
    simp only [trX] at h
    cases he : toE v with
    | none => rw [he] at h; cases h
    | some e =>
      rw [he] at h
      cases h
      unfold toE at he
      split at he
      · rename_i cs; cases hq : listM toC cs.toList <;> simp [hq] at he
      · cases hq : toC v with
        | none => simp [hq] at he
        | some c =>
          simp [hq] at he
          subst he
          unfold toC at hq
          split at hq
          · cases hq
          · cases hq
          · rfl
          · cases hd : toD v <;> simp [hd] at hq
  | _ => simp [trX] at h
section
variable {P : Program} {N : Nat} {o : Oper} {ρ : Env} {hl : List Ob} {p : Prop} {s : Res}
theorem aop_ok {ao : AOp} (h : trOp P o = some ao) (ha : aop ao ρ hl = some (p, s)) (hp : p) : OpR P N o ρ ao.ts hl s := by
  cases hop : o.op with
  | move x => simp only [trOp, hop] at h; obtain ⟨ax, hx, rfl⟩ := Option.map_eq_some_iff.1 h; exact s_mv (.inl hop) hx (mem_xts (by simp [AOp.xs])) ha
  | assign x => simp only [trOp, hop] at h; obtain ⟨ax, hx, rfl⟩ := Option.map_eq_some_iff.1 h; exact s_mv (.inr hop) hx (mem_xts (by simp [AOp.xs])) ha
  | pick c x y =>
    simp only [trOp, hop] at h
    split at h
    · rename_i ac aa ab h1 h2 h3
      cases h
      exact s_pick hop h1 h2 h3 (mem_xts (by simp [AOp.xs])) (mem_xts (by simp [AOp.xs])) (mem_xts (by simp [AOp.xs])) ha
    · cases h
  | box t x => simp only [trOp, hop] at h; obtain ⟨ax, hx, rfl⟩ := Option.map_eq_some_iff.1 h; exact s_box hop hx (mem_xts (by simp [AOp.xs])) ha
  | alloc t => simp only [trOp, hop] at h; obtain ⟨cs, hx, rfl⟩ := Option.map_eq_some_iff.1 h; exact s_alloc hop hx ha
  | build t parts =>
    simp only [trOp, hop] at h
    split at h
    · rename_i z fs hz hu
      split at h
      · rename_i fs' hf
        obtain ⟨aps, hl', rfl⟩ := Option.map_eq_some_iff.1 h
        exact s_buildS hop hz hf hl' (fun r hr => mem_xts (by simp only [AOp.xs]; exact List.mem_map.2 ⟨r, hr, rfl⟩)) ha hp
      · cases h
    · rename_i z n e hz hu
      split at h
      · rename_i m hs
        obtain ⟨aps, hl', rfl⟩ := Option.map_eq_some_iff.1 h
        exact s_buildA hop hz hu hs hl' (fun r hr => mem_xts (by simp only [AOp.xs]; exact List.mem_map.2 ⟨r, hr, rfl⟩)) ha hp
      · cases h
    · cases h
  | buildSlice t len parts =>
    simp only [trOp, hop] at h
    split at h
    · rename_i e hu
      split at h
      · rename_i sz z ps h1 h2 h3
        split at h
        · rename_i hc
          cases h
          exact s_mkList hop hu h1 h2 h3 (fun r hr => mem_xts (by simp only [AOp.xs]; exact List.mem_map.2 ⟨r, hr, rfl⟩)) hc.1 hc.2.1 hc.2.2 ha hp
        · cases h
      · cases h
    · cases h
  | load t x =>
    simp only [trOp, hop] at h
    split at h
    · rename_i n ax h1 h2
      cases h
      exact s_load hop h2 (mem_xts (by simp [AOp.xs])) h1 ha hp
    · cases h
  | store t x y =>
    simp only [trOp, hop] at h
    split at h
    · rename_i n ax ay h1 h2 h3
      cases h
      exact s_store hop h2 h3 (mem_xts (by simp [AOp.xs])) (mem_xts (by simp [AOp.xs])) h1 ha hp
    · cases h
  | binOp op t x y u =>
    simp only [trOp, hop] at h
    split at h
    · rename_i ax ay h1 h2
      split at h
      · rename_i fs hu
        split at h
        · rename_i ks hf
          split at h
          · cases h
          · rename_i hg
            cases h
            exact s_eqAgg (neg := false) hop h1 h2 (mem_xts (by simp [AOp.xs])) (mem_xts (by simp [AOp.xs])) (.inl ⟨hf, _, hu⟩) (by simpa using hg) ha
        · rename_i ks hf
          split at h
          · cases h
          · rename_i hg
            cases h
            exact s_eqAgg (neg := true) hop h1 h2 (mem_xts (by simp [AOp.xs])) (mem_xts (by simp [AOp.xs])) (.inl ⟨hf, _, hu⟩) (by simpa using hg) ha
        · cases h
      · rename_i n e hu
        split at h
        · rename_i k he hs
          split at h
          · cases h
          · rename_i hg
            cases h
            exact s_eqAgg (neg := false) hop h1 h2 (mem_xts (by simp [AOp.xs])) (mem_xts (by simp [AOp.xs])) (.inr ⟨_, _, _, hu, he, hs, rfl⟩) (by simpa using hg) ha
        · rename_i k he hs
          split at h
          · cases h
          · rename_i hg
            cases h
            exact s_eqAgg (neg := true) hop h1 h2 (mem_xts (by simp [AOp.xs])) (mem_xts (by simp [AOp.xs])) (.inr ⟨_, _, _, hu, he, hs, rfl⟩) (by simpa using hg) ha
        · cases h
      · rename_i e hu
        split at h
        · rename_i n hs
          cases h
          exact s_eqPtr (neg := false) hop h1 h2 (mem_xts (by simp [AOp.xs])) (mem_xts (by simp [AOp.xs])) hu hs ha
        · rename_i n hs
          cases h
          exact s_eqPtr (neg := true) hop h1 h2 (mem_xts (by simp [AOp.xs])) (mem_xts (by simp [AOp.xs])) hu hs ha
        · cases h
      · rename_i k hu
        cases h
        exact s_bin hop h1 h2 (mem_xts (by simp [AOp.xs])) (mem_xts (by simp [AOp.xs])) ha hp
      · rename_i hu
        cases h
        exact s_bin hop h1 h2 (mem_xts (by simp [AOp.xs])) (mem_xts (by simp [AOp.xs])) ha hp
      · rename_i hu
        split at h
        · cases h
          exact s_binB (neg := false) hop h1 h2 (mem_xts (by simp [AOp.xs])) (mem_xts (by simp [AOp.xs])) hu ha
        · cases h
          exact s_binB (neg := true) hop h1 h2 (mem_xts (by simp [AOp.xs])) (mem_xts (by simp [AOp.xs])) hu ha
        · cases h
      · split at h
        · cases h; cases ha
        · cases h; cases ha
        · cases h
      · rename_i q1 q2 q3 hu
        split at h
        · cases h
          exact s_eqFn (neg := false) hop h1 (trX_nilf h2) (mem_xts (by simp [AOp.xs])) hu ha
        · cases h
          exact s_eqFn (neg := true) hop h1 (trX_nilf h2) (mem_xts (by simp [AOp.xs])) hu ha
        · cases h
      · cases h
    · cases h
  | unOp op t x => simp only [trOp, hop] at h; obtain ⟨ax, hx, rfl⟩ := Option.map_eq_some_iff.1 h; exact s_un hop hx (mem_xts (by simp [AOp.xs])) ha
  | convert src dst x =>
    simp only [trOp, hop] at h
    split at h
    · rename_i ax k0 k h1 h2 h3
      cases h
      exact s_conv hop h1 (mem_xts (by simp [AOp.xs])) h2 h3 ha
    · rename_i ax h1 h2 h3
      cases h
      exact s_same hop h1 (mem_xts (by simp [AOp.xs])) h2 h3 ha
    · rename_i ax e h1 h2 h3
      split at h
      · cases h; cases ha
      · cases h
    · cases h
  | makeSlice t l c =>
    simp only [trOp, hop] at h
    split at h
    · rename_i e hu
      split at h
      · rename_i sz by_ z al ac h1 h2 h3 h4 h5
        split at h
        · rename_i hc
          cases h
          exact s_mkSlice hop h4 h5 (mem_xts (by simp [AOp.xs])) (mem_xts (by simp [AOp.xs])) hu h1 h2 h3 hc.1 hc.2 ha hp
        · cases h
      · cases h
    · cases h
  | slice t x lo hi mx =>
    simp only [trOp, hop] at h
    split at h
    · rename_i e ax al ah hu h1 h2 h3
      split at h
      · rename_i sz hs
        split at h
        · rename_i hz
          cases h
          exact s_slice hop h1 h2 h3 (mem_xts (by simp [AOp.xs])) (fun y hy => mem_xts (by simp [AOp.xs, hy])) (fun y hy => mem_xts (by simp [AOp.xs, hy])) hu hs hz ha hp
        · cases h
      · rename_i sz hs
        split at h
        · cases h
          have e1 : lo = none := by
            cases lo with
            | none => rfl
            | some y => simp only [trXo] at h2; cases hy : trX y <;> simp [hy] at h2
          have e2 : hi = some (.const (.int .i64 0)) := by
            cases hi with
            | none => simp [trXo] at h3
            | some y =>
              simp only [trXo] at h3
              cases y with
              | tmp t => simp [trX] at h3
              | func f => simp [trX] at h3
              | «global» g => simp [trX] at h3
              | const v =>
                cases hv : toE v with
                | none => simp [trX, hv] at h3
                | some e =>
                  simp [trX, hv] at h3
                  subst h3
                  unfold toE at hv
                  split at hv
                  · rename_i cs; cases hq : listM toC cs.toList <;> simp [hq] at hv
                  · rename_i v' hno
                    cases hq : toC v with
                    | none => simp [hq] at hv
                    | some c =>
                      simp [hq] at hv
                      subst hv
                      unfold toC at hq
                      split at hq
                      · cases hq
                      · cases hq
                      · cases hq
                      · cases hd : toD v with
                        | none => simp [hd] at hq
                        | some d =>
                          simp [hd] at hq
                          subst hq
                          unfold toD at hd
                          split at hd <;> simp at hd
                          obtain ⟨rfl, rfl⟩ := hd
                          rfl
          exact s_clip hop h1 (mem_xts (by simp [AOp.xs])) hu hs e1 e2 rfl ha
        · cases h
      · cases h
    · rename_i ax al ah hu h1 h2 h3
      split at h
      · cases h
        exact s_sliceS hop h1 h2 h3 (mem_xts (by simp [AOp.xs])) (fun y hy => mem_xts (by simp [AOp.xs, hy])) (fun y hy => mem_xts (by simp [AOp.xs, hy])) hu ha hp
      · cases h
    · rename_i n e ax al ah hu h1 h2 h3
      split at h
      · rename_i hs
        cases h
        exact s_sliceA hop h1 h2 h3 (mem_xts (by simp [AOp.xs])) (fun y hy => mem_xts (by simp [AOp.xs, hy])) (fun y hy => mem_xts (by simp [AOp.xs, hy])) hu hs ha hp
      · cases h
    · cases h
  | fieldAddr t x i =>
    simp only [trOp, hop] at h
    split at h
    · rename_i fs ax h1 h2
      unfold fieldsB at h1
      split at h1
      · rename_i fds hu
        obtain ⟨l1, l2⟩ := listM_ok h1
        split at h
        · rename_i off n hi
          cases h
          obtain ⟨fd, f1, f2⟩ := l2 i _ hi
          cases hs : sizeB P fd.type with
          | none => simp [hs] at f2
          | some m =>
            simp [hs] at f2
            obtain ⟨rfl, rfl⟩ := f2
            exact s_fieldAddr hop h2 (mem_xts (by simp [AOp.xs])) hu (by simpa using f1) hs ha
        · cases h
      · cases h1
    · cases h
  | field t x i =>
    simp only [trOp, hop] at h
    split at h
    · rename_i fs ax hu h2
      split at h
      · rename_i fd hf
        obtain ⟨n, hc, rfl⟩ := Option.map_eq_some_iff.1 h
        exact s_field hop h2 (mem_xts (by simp [AOp.xs])) hu hf hc ha hp
      · cases h
    · cases h
  | indexAddr t x i =>
    simp only [trOp, hop] at h
    split at h
    · rename_i e ax ai hu h1 h2
      split at h
      · rename_i sz hs
        split at h
        · cases h
          exact s_idxAddr hop h1 h2 (mem_xts (by simp [AOp.xs])) (mem_xts (by simp [AOp.xs])) hu hs ha hp
        · cases h
      · cases h
    · rename_i n e ax ai hu h1 h2
      obtain ⟨sz, hs, rfl⟩ := Option.map_eq_some_iff.1 h
      exact s_idxArr hop h1 h2 (mem_xts (by simp [AOp.xs])) (mem_xts (by simp [AOp.xs])) hu hs ha hp
    · cases h
  | index t x i =>
    simp only [trOp, hop] at h
    split at h
    · rename_i len e ax ai hu h1 h2
      split at h
      · rename_i sz n hs hc
        cases h
        exact s_index hop h1 h2 (mem_xts (by simp [AOp.xs])) (mem_xts (by simp [AOp.xs])) hu hs hc ha hp
      · cases h
    · rename_i ax ai hu h1 h2
      cases h
      exact s_strIdx hop h1 h2 (mem_xts (by simp [AOp.xs])) (mem_xts (by simp [AOp.xs])) hu ha hp
    · cases h
  | extract x i => simp only [trOp, hop] at h; obtain ⟨ax, hx, rfl⟩ := Option.map_eq_some_iff.1 h; exact s_extract hop hx (mem_xts (by simp [AOp.xs])) ha
  | nilCheck x => simp only [trOp, hop] at h; obtain ⟨ax, hx, rfl⟩ := Option.map_eq_some_iff.1 h; exact s_nilCheck hop hx (mem_xts (by simp [AOp.xs])) ha
  | makeFunc fn fst caps =>
    cases fn with
    | func f =>
      simp only [trOp, hop] at h
      split at h
      · rename_i hf
        obtain ⟨cs, hc, rfl⟩ := Option.map_eq_some_iff.1 h
        have : fst = #[] := by simpa using hf
        subst this
        exact s_mkFn hop hc (fun y hy => mem_xts (by simpa [AOp.xs] using hy)) ha
      · rename_i x hf
        split at h
        · rename_i hcp
          obtain ⟨ax, hx, rfl⟩ := Option.map_eq_some_iff.1 h
          have : fst = #[x] := by rw [← Array.toArray_toList (xs := fst), hf]
          subst this
          have : caps = #[] := by simpa using hcp
          subst this
          exact s_mkFnM hop hx (mem_xts (by simp [AOp.xs])) ha
        · cases h
      · cases h
    | _ => simp only [trOp, hop] at h; cases h
  | makeMap t r =>
    simp only [trOp, hop] at h
    split at h
    · split at h
      · cases h; exact s_mkMap hop ha
      · split at h
        · rename_i hm; cases h; exact s_mkMapC hop rfl (fun y hy => by simp at hy) hm ha
        · cases h
    · split at h
      · rename_i r' ag z ar hm hr
        cases h
        exact s_mkMapC (ar := some ar) hop (by simp [trXo, hr]) (fun y hy => mem_xts (by simpa [AOp.xs] using hy)) hm ha
      · cases h
  | range t x =>
    simp only [trOp, hop] at h
    split at h
    · rename_i q ax hm hx
      cases h
      exact s_rangeM hop hx (mem_xts (by simp [AOp.xs])) hm ha
    · cases h
  | entry x => simp only [trOp, hop] at h; obtain ⟨ax, hx, rfl⟩ := Option.map_eq_some_iff.1 h; cases ha
  | next x b =>
    cases b with
    | true => simp only [trOp, hop] at h; cases h
    | false =>
      simp only [trOp, hop] at h
      split at h
      · cases h; cases ha
      · cases h
  | lookup t x k ok =>
    simp only [trOp, hop] at h
    split at h
    · cases h; cases ha
    · rename_i ax ak h0 h1 h2
      split at h
      · rename_i ag z hm
        cases h
        exact s_lookupO hop h1 h2 (mem_xts (by simp [AOp.xs])) (mem_xts (by simp [AOp.xs])) hm ha hp
      · cases h
    · cases h
  | mapUpdate t m k v =>
    simp only [trOp, hop] at h
    split at h
    · rename_i q ax ak av hm h1 h2 h3
      cases h
      exact s_mapSet hop h1 h2 h3 (mem_xts (by simp [AOp.xs])) (mem_xts (by simp [AOp.xs])) (mem_xts (by simp [AOp.xs])) hm ha
    · rename_i ax ak av h0 h1 h2 h3
      split at h
      · rename_i q hm
        cases h
        exact s_mapSetC hop h1 h2 h3 (mem_xts (by simp [AOp.xs])) (mem_xts (by simp [AOp.xs])) (mem_xts (by simp [AOp.xs])) hm ha
      · cases h
    · cases h
  | mapEntry t m k =>
    simp only [trOp, hop] at h
    split at h
    · rename_i ag z ax ak hm h1 h2
      cases h
      exact s_mapEntryO hop h1 h2 (mem_xts (by simp [AOp.xs])) (mem_xts (by simp [AOp.xs])) hm ha hp
    · cases h
  | entryStore t m st v =>
    simp only [trOp, hop] at h
    split at h
    · rename_i q ax ast av hm h1 h2 h3
      cases h
      exact s_entryStore hop h1 h2 h3 (mem_xts (by simp [AOp.xs])) (mem_xts (by simp [AOp.xs])) (mem_xts (by simp [AOp.xs])) ha hp
    · cases h
  | call c =>
    simp only [trOp, hop] at h
    split at h
    · cases h
    · rename_i args hargs
      split at h
      · split at h
        · split at h
          · cases h; cases ha
          · cases h
        · cases h
      · obtain ⟨x, hx, rfl⟩ := Option.map_eq_some_iff.1 h
        cases ha
      · rename_i hcl
        split at h
        · rename_i e ax hu
          cases h
          obtain ⟨t, ht, hu⟩ := get0 hu
          obtain ⟨x, hx, hax⟩ := listM_one hargs
          exact s_len (st := false) hop hcl ht (by simpa using ⟨_, hu⟩) hx hax (mem_xts (by simp [AOp.xs])) ha
        · rename_i ax hu
          cases h
          obtain ⟨t, ht, hu⟩ := get0 hu
          obtain ⟨x, hx, hax⟩ := listM_one hargs
          exact s_len (st := true) hop hcl ht (by simpa using hu) hx hax (mem_xts (by simp [AOp.xs])) ha
        · rename_i kt et ax hu
          cases h
          obtain ⟨t, ht, hu⟩ := get0 hu
          obtain ⟨x, hx, hax⟩ := listM_one hargs
          exact s_lenM hop hcl ht hu hx hax (mem_xts (by simp [AOp.xs])) ha
        · rename_i n e ax hu
          cases h
          obtain ⟨t, ht, hu⟩ := get0 hu
          obtain ⟨x, hx, hax⟩ := listM_one hargs
          exact s_len_arr hop hcl ht hu hx ha
        · cases h
      · rename_i hcl
        split at h
        · rename_i e ax hu
          cases h
          obtain ⟨t, ht, hu⟩ := get0 hu
          obtain ⟨x, hx, hax⟩ := listM_one hargs
          exact s_cap hop hcl ht hu hx hax (mem_xts (by simp [AOp.xs])) ha
        · cases h
      · rename_i hcl
        split at h
        · rename_i ax ay
          cases h
          obtain ⟨x, y, hx, h1, h2⟩ := listM_two hargs
          exact s_minmax (mx := true) hop hcl hx h1 h2 (mem_xts (by simp [AOp.xs])) (mem_xts (by simp [AOp.xs])) ha
        · cases h
      · rename_i hcl
        split at h
        · rename_i ax ay
          cases h
          obtain ⟨x, y, hx, h1, h2⟩ := listM_two hargs
          exact s_minmax (mx := false) hop hcl hx h1 h2 (mem_xts (by simp [AOp.xs])) (mem_xts (by simp [AOp.xs])) ha
        · cases h
      · rename_i hcl
        split at h
        · rename_i e t2 ax ay hu1 hu2
          obtain ⟨sT, ht0, hu1⟩ := get0 hu1
          obtain ⟨xT, ht1, hu2⟩ := get1 hu2
          obtain ⟨x, y, hx, h1, h2⟩ := listM_two hargs
          have key : ∀ (sz by_ : Nat) (z : List D), ((∃ e', P.underlying xT = some (.slice e')) ∨ P.underlying xT = some .string) → sizeB P e = some sz → bytesB P e = some by_ → zeroD P e = some z → 0 < sz → z.length = sz → aop (.append sz by_ z ax ay) ρ hl = some (p, s) → OpR P N o ρ (AOp.append sz by_ z ax ay).ts hl s := by
            intro sz by_ z hxt hs hb hz hsz hzl ha
            simp only [aop] at ha
            split at ha
            · rename_i sz' m rows rd e1 e2
              cases ha
              cases hvy : ev ρ ay with
              | none => simp [hvy] at e2
              | some vy =>
                simp only [hvy, Option.bind_some] at e2
                obtain ⟨zv, z1, z2, z3⟩ := zeroD_ok hz
                exact s_appendNil hop hcl ht0 ht1 hx h1 (mem_xts (by simp [AOp.xs])) (z2.trans hzl) hsz e1 (by rw [List.length_take]; have := hp.2.1; omega) (appSrc_list h2 (mem_xts (by simp [AOp.xs])) hu1 hxt hs hb z1 hvy e2 hp.1 hp.2.1) hp.2.2.1 hp.2.2.2
            · rename_i id n sz' m rows rd e1 e2
              split at ha
              · rename_i sz0 old hid
                cases hct : rd.contains id with
                | true => rw [hct] at ha; cases ha
                | false =>
                  simp only [hct, cond_false] at ha
                  cases ha
                  obtain ⟨p1, rfl, p2, p3, p4, p5⟩ := hp
                  cases hvy : ev ρ ay with
                  | none => simp [hvy] at e2
                  | some vy =>
                    simp only [hvy, Option.bind_some] at e2
                    obtain ⟨zv, z1, z2, z3⟩ := zeroD_ok hz
                    exact s_appendSl hop hcl ht0 ht1 hx h1 (mem_xts (by simp [AOp.xs])) (z2.trans hzl) hsz e1 (by rw [List.length_take]; omega) (appSrc_list h2 (mem_xts (by simp [AOp.xs])) hu1 hxt hs hb z1 hvy e2 p1 p3) hid p2 p4 p5
              · cases ha
            · cases ha
          have keyZ : ∀ (kk : IntKind) (sz by_ : Nat) (z : List D), P.underlying xT = some (.int kk) → sizeB P e = some sz → bytesB P e = some by_ → zeroD P e = some z → 0 < sz → z.length = sz → aop (.appendZ sz by_ z ax ay) ρ hl = some (p, s) → OpR P N o ρ (AOp.appendZ sz by_ z ax ay).ts hl s := by
            intro kk sz by_ z hxt hs hb hz hsz hzl ha
            simp only [aop] at ha
            obtain ⟨zv, z1, z2, z3⟩ := zeroD_ok hz
            split at ha
            · rename_i k' m e1 e2
              cases ha
              obtain ⟨p1, p2, p3⟩ := hp
              obtain ⟨m, rfl⟩ := Int.eq_ofNat_of_zero_le p1
              simp only [Int.toNat_natCast] at p2 p3 ⊢
              exact s_appendNil hop hcl ht0 ht1 hx h1 (mem_xts (by simp [AOp.xs])) (z2.trans hzl) hsz e1 (by simp) (appSrc_zeros h2 (mem_xts (by simp [AOp.xs])) hu1 hxt hs hb hsz hzl z1 z2 z3 e2 p3 p2) p2 p3
            · rename_i id n k' m e1 e2
              split at ha
              · rename_i sz0 old hid
                cases ha
                obtain ⟨p1, rfl, p2, p4, p5⟩ := hp
                obtain ⟨m, rfl⟩ := Int.eq_ofNat_of_zero_le p1
                simp only [Int.toNat_natCast] at p4 p5 ⊢
                exact s_appendSl hop hcl ht0 ht1 hx h1 (mem_xts (by simp [AOp.xs])) (z2.trans hzl) hsz e1 (by simp) (appSrc_zeros h2 (mem_xts (by simp [AOp.xs])) hu1 hxt hs hb hsz hzl z1 z2 z3 e2 (by omega) (Nat.le_trans (Nat.mul_le_mul_right _ (Nat.le_add_left m n)) p4)) hid p2 p4 p5
              · cases ha
            · cases ha
          split at h
          · split at h
            · rename_i hc
              cases h
              exact key _ _ _ (.inl ⟨_, hu2⟩) (by assumption) (by assumption) (by assumption) hc.1 hc.2 ha
            · cases h
          · split at h
            · rename_i hc
              cases h
              exact key _ _ _ (.inr hu2) (by assumption) (by assumption) (by assumption) (by omega) hc.2 ha
            · cases h
          · split at h
            · rename_i hc
              cases h
              exact keyZ _ _ _ _ hu2 (by assumption) (by assumption) (by assumption) hc.1 hc.2 ha
            · cases h
          · cases h
        · cases h
      · rename_i hcl
        split at h
        · rename_i e ax ay hu
          obtain ⟨dT, ht0, hu⟩ := get0 hu
          obtain ⟨x, y, hx, h1, h2⟩ := listM_two hargs
          split at h
          · rename_i sz hs
            split at h
            · rename_i hz
              cases h
              exact s_copy hop hcl ht0 hx h1 h2 (mem_xts (by simp [AOp.xs])) (mem_xts (by simp [AOp.xs])) hu hs hz ha hp
            · cases h
          · cases h
        · cases h
      · rename_i hcl
        split at h
        · rename_i e ax hu
          obtain ⟨dT, ht0, hu⟩ := get0 hu
          obtain ⟨x, hx, h1⟩ := listM_one hargs
          split at h
          · rename_i sz z hs hz
            split at h
            · rename_i hc
              cases h
              exact s_clear hop hcl ht0 hx h1 (mem_xts (by simp [AOp.xs])) hu hs hz hc.1 hc.2 ha hp
            · cases h
          · cases h
        · cases h
      · rename_i hcl
        split at h
        · rename_i q ax ak hu
          cases h
          obtain ⟨t, ht, hu⟩ := get0 hu
          obtain ⟨x, k, hx, h1, h2⟩ := listM_two hargs
          exact s_delete hop hcl ht hx h1 h2 (mem_xts (by simp [AOp.xs])) (mem_xts (by simp [AOp.xs])) hu ha
        · cases h
      · cases h
  | _ => simp only [trOp, hop] at h; cases h
end
end Go.Proofs.YthddlkhfkncgpaaGreat
set_option linter.unusedVariables false
set_option linter.unusedSimpArgs false
namespace Go.Proofs.YthddlkhfkncgpaaGreat
open Go.RowKit

/-- Objects by other numbers. -/
def C.ren1 (φ : Nat → Nat) : C → C
  | .t d => .t d
  | .nilp => .nilp
  | .nilm => .nilm
  | .nilf => .nilf
  | .pa id n => .pa (φ id) n
  | .ptr id off => .ptr (φ id) off
  | .sl id off n => .sl (φ id) off n
  | .el id i k => .el (φ id) i k
  | .im cs => .im cs
  | .mp id => .mp (φ id)
  | .bm f id off => .bm f (φ id) off
  | .fn f cs => .fn f cs
def C.ren (φ : Nat → Nat) : C → C
  | .fn f cs => .fn f (cs.map (C.ren1 φ))
  | c => c.ren1 φ
def E.ren (φ : Nat → Nat) : E → E
  | .c x => .c (x.ren φ)
  | .agg cs => .agg (cs.map (C.ren φ))
def V.ren (φ : Nat → Nat) : V → V
  | .e x => .e (x.ren φ)
  | .tup es => .tup (es.map (E.ren φ))
  | .u => .u
def Ob.ren (φ : Nat → Nat) : Ob → Ob
  | .dead => .dead
  | .box cs => .box (cs.map (C.ren φ))
  | .arr sz rows => .arr sz rows
  | .mp ag m => .mp ag m
  | .cm ag m none => .cm ag m none
  | .cm ag m (some (j, id, n)) => .cm ag m (some (j, φ id, n))
  | .it mid since seen last => .it (φ mid) since seen last
  | .opq R => .opq R
def pos : List Nat → Nat → Option Nat
  | [], _ => none
  | x :: l, i => bif Nat.beq x i then some 0 else match pos l i with
    | some j => some (j + 1)
    | none => none
/-- What a callee sees: the objects σ by their places, the lists τ as data. -/
def C.bk1 (σ τ : List Nat) (hl : List Ob) : C → Option C
  | .t d => some (.t d)
  | .nilp => some .nilp
  | .nilm => some .nilm
  | .nilf => some .nilf
  | .pa id n => match pos σ id with
    | some j => some (.pa j n)
    | none => none
  | .ptr id off => match pos σ id with
    | some j => some (.ptr j off)
    | none => none
  | .sl id off n => match pos σ id with
    | some j => some (.sl j off n)
    | none => bif τ.contains id then (match hx hl id with
      | .arr sz rows => some (.t (.ls sz n (rows.drop off)))
      | _ => none) else none
  | .el id i k => match pos σ id with
    | some j => some (.el j i k)
    | none => none
  | .im cs => some (.im cs)
  | .mp id => match pos σ id with
    | some j => some (.mp j)
    | none => none
  | .bm f id off => match pos σ id with
    | some j => some (.bm f j off)
    | none => none
  | .fn _ _ => none
def C.bk (σ τ : List Nat) (hl : List Ob) : C → Option C
  | .fn f cs => match listM (C.bk1 σ τ hl) cs with
    | some r => some (.fn f r)
    | none => none
  | c => c.bk1 σ τ hl
def E.bk (σ τ : List Nat) (hl : List Ob) : E → Option E
  | .c x => match x.bk σ τ hl with
    | some r => some (.c r)
    | none => none
  | .agg cs => match listM (C.bk σ τ hl) cs with
    | some r => some (.agg r)
    | none => none
def V.bk (σ τ : List Nat) (hl : List Ob) : V → Option V
  | .e x => match x.bk σ τ hl with
    | some r => some (.e r)
    | none => none
  | .tup es => match listM (E.bk σ τ hl) es with
    | some r => some (.tup r)
    | none => none
  | .u => none
def Ob.bk (σ : List Nat) (hl : List Ob) : Ob → Option Ob
  | .dead => some .dead
  | .box cs => match listM (C.bk σ [] hl) cs with
    | some r => some (.box r)
    | none => none
  | .arr sz rows => some (.arr sz rows)
  | .mp ag m => some (.mp ag m)
  | .cm ag m none => some (.cm ag m none)
  | .cm _ _ (some _) => none
  | .it mid since seen last => match pos σ mid with
    | some j => some (.it j since seen last)
    | none => none
  | .opq R => some (.opq R)

section
variable {β : Type}
/-- What is to be known before lists are told as data: that they are as long as they are shown. -/
def C.vw1 (σ τ : List Nat) (hl : List Ob) (c : C) (acc : Prop) (k : Prop → β) : β := match c with
  | .sl id off n => match pos σ id with
    | some _ => k acc
    | none => bif τ.contains id then (match hx hl id with
      | .arr sz rows => k (off + n ≤ rows.length ∧ acc)
      | _ => k acc) else k acc
  | _ => k acc
def vw1s (σ τ : List Nat) (hl : List Ob) : List C → Prop → (Prop → β) → β
  | [], acc, k => k acc
  | c :: l, acc, k => vw1s σ τ hl l acc fun q => c.vw1 σ τ hl q k
def C.vw (σ τ : List Nat) (hl : List Ob) (c : C) (acc : Prop) (k : Prop → β) : β := match c with
  | .fn f cs => vw1s σ τ hl cs acc k
  | c => c.vw1 σ τ hl acc k
def vwCs (σ τ : List Nat) (hl : List Ob) : List C → Prop → (Prop → β) → β
  | [], acc, k => k acc
  | c :: l, acc, k => vwCs σ τ hl l acc fun q => c.vw σ τ hl q k
def E.vw (σ τ : List Nat) (hl : List Ob) (e : E) (acc : Prop) (k : Prop → β) : β := match e with
  | .c x => x.vw σ τ hl acc k
  | .agg cs => vwCs σ τ hl cs acc k
def vwEs (σ τ : List Nat) (hl : List Ob) : List E → Prop → (Prop → β) → β
  | [], acc, k => k acc
  | c :: l, acc, k => vwEs σ τ hl l acc fun q => c.vw σ τ hl q k
def V.vw (σ τ : List Nat) (hl : List Ob) (v : V) (acc : Prop) (k : Prop → β) : β := match v with
  | .e x => x.vw σ τ hl acc k
  | .tup es => vwEs σ τ hl es acc k
  | .u => k acc
def vwVs (σ τ : List Nat) (hl : List Ob) : List V → Prop → (Prop → β) → β
  | [], acc, k => k acc
  | c :: l, acc, k => vwVs σ τ hl l acc fun q => c.vw σ τ hl q k
end
section
variable {σ τ : List Nat} {hl : List Ob}
theorem vw1_k {β : Type} (c : C) (q : Prop) (k : Prop → β) : c.vw1 σ τ hl q k = k (c.vw1 σ τ hl q id) := by
  unfold C.vw1
  split
  · split
    · rfl
    · cases τ.contains _ <;> simp only [cond_true, cond_false]
      · rfl
      · split <;> rfl
  · rfl
theorem vw1_ok (c : C) (q : Prop) : c.vw1 σ τ hl q id → c.vw1 σ τ hl True id ∧ q := by
  unfold C.vw1
  split
  · split
    · intro h; exact ⟨trivial, h⟩
    · cases τ.contains _ <;> simp only [cond_true, cond_false]
      · intro h; exact ⟨trivial, h⟩
      · split
        · rintro ⟨h1, h2⟩; exact ⟨⟨h1, trivial⟩, h2⟩
        · intro h; exact ⟨trivial, h⟩
  · intro h; exact ⟨trivial, h⟩
theorem vw1s_k {β : Type} : ∀ (l : List C) (q : Prop) (k : Prop → β), vw1s σ τ hl l q k = k (vw1s σ τ hl l q id)
  | [], q, k => rfl
  | c :: l, q, k => by
    unfold vw1s
    rw [vw1s_k l q (fun q => c.vw1 σ τ hl q k), vw1s_k l q (fun q => c.vw1 σ τ hl q id), vw1_k]
theorem vw1s_ok : ∀ (l : List C) (q : Prop), vw1s σ τ hl l q id → (∀ c ∈ l, c.vw1 σ τ hl True id) ∧ q
  | [], q, h => ⟨fun _ hc => (nomatch hc), h⟩
  | c :: l, q, h => by
    unfold vw1s at h
    rw [vw1s_k] at h
    obtain ⟨h1, h2⟩ := vw1_ok c _ h
    obtain ⟨h3, h4⟩ := vw1s_ok l q h2
    exact ⟨fun x hx => (List.mem_cons.1 hx).elim (fun e => e ▸ h1) (h3 x), h4⟩
theorem vwC_k {β : Type} (c : C) (q : Prop) (k : Prop → β) : c.vw σ τ hl q k = k (c.vw σ τ hl q id) := by
  cases c <;> simp only [C.vw] <;> first | exact vw1s_k _ _ _ | exact vw1_k _ _ _
theorem vwC_ok (c : C) (q : Prop) : c.vw σ τ hl q id → c.vw σ τ hl True id ∧ q := by
  cases c with
  | fn f cs =>
    intro h
    simp only [C.vw] at h ⊢
    obtain ⟨h1, h2⟩ := vw1s_ok cs q h
    refine ⟨?_, h2⟩
    clear h
    induction cs with
    | nil => trivial
    | cons c l ih =>
      unfold vw1s
      rw [vw1s_k]
      have h3 := ih (fun c hc => h1 c (by simp [hc]))
      have : (vw1s σ τ hl l True id) = True := eq_true h3
      rw [this]
      exact h1 c (by simp)
  | _ => intro h; simp only [C.vw] at h ⊢; exact vw1_ok _ q h
theorem vwCs_k {β : Type} : ∀ (l : List C) (q : Prop) (k : Prop → β), vwCs σ τ hl l q k = k (vwCs σ τ hl l q id)
  | [], q, k => rfl
  | c :: l, q, k => by
    unfold vwCs
    rw [vwCs_k l q (fun q => c.vw σ τ hl q k), vwCs_k l q (fun q => c.vw σ τ hl q id), vwC_k]
theorem vwCs_ok : ∀ (l : List C) (q : Prop), vwCs σ τ hl l q id → (∀ c ∈ l, c.vw σ τ hl True id) ∧ q
  | [], q, h => ⟨fun _ hc => (nomatch hc), h⟩
  | c :: l, q, h => by
    unfold vwCs at h
    rw [vwCs_k] at h
    obtain ⟨h1, h2⟩ := vwC_ok c _ h
    obtain ⟨h3, h4⟩ := vwCs_ok l q h2
    exact ⟨fun x hx => (List.mem_cons.1 hx).elim (fun e => e ▸ h1) (h3 x), h4⟩
theorem vwE_k {β : Type} (c : E) (q : Prop) (k : Prop → β) : c.vw σ τ hl q k = k (c.vw σ τ hl q id) := by
  cases c <;> simp only [E.vw] <;> first | exact vwC_k _ _ _ | exact vwCs_k _ _ _
/-- What is asked of a struct's or a single cell's. -/
def E.Vw (σ τ : List Nat) (hl : List Ob) : E → Prop
  | .c x => x.vw σ τ hl True id
  | .agg cs => ∀ x ∈ cs, x.vw σ τ hl True id
theorem vwE_ok (c : E) (q : Prop) : c.vw σ τ hl q id → c.Vw σ τ hl ∧ q := by
  cases c with
  | c c => exact vwC_ok c q
  | agg cs => exact vwCs_ok cs q
theorem vwEs_k {β : Type} : ∀ (l : List E) (q : Prop) (k : Prop → β), vwEs σ τ hl l q k = k (vwEs σ τ hl l q id)
  | [], q, k => rfl
  | c :: l, q, k => by
    unfold vwEs
    rw [vwEs_k l q (fun q => c.vw σ τ hl q k), vwEs_k l q (fun q => c.vw σ τ hl q id), vwE_k]
theorem vwEs_ok : ∀ (l : List E) (q : Prop), vwEs σ τ hl l q id → (∀ c ∈ l, c.Vw σ τ hl) ∧ q
  | [], q, h => ⟨fun _ hc => (nomatch hc), h⟩
  | c :: l, q, h => by
    unfold vwEs at h
    rw [vwEs_k] at h
    obtain ⟨h1, h2⟩ := vwE_ok c _ h
    obtain ⟨h3, h4⟩ := vwEs_ok l q h2
    exact ⟨fun x hx => (List.mem_cons.1 hx).elim (fun e => e ▸ h1) (h3 x), h4⟩
def V.Vw (σ τ : List Nat) (hl : List Ob) : V → Prop
  | .e x => x.Vw σ τ hl
  | .tup es => ∀ x ∈ es, x.Vw σ τ hl
  | .u => True
theorem vwV_k {β : Type} (c : V) (q : Prop) (k : Prop → β) : c.vw σ τ hl q k = k (c.vw σ τ hl q id) := by
  cases c <;> simp only [V.vw] <;> first | exact vwE_k _ _ _ | exact vwEs_k _ _ _ | rfl
theorem vwV_ok (c : V) (q : Prop) : c.vw σ τ hl q id → c.Vw σ τ hl ∧ q := by
  cases c with
  | e c => exact vwE_ok c q
  | tup cs => exact vwEs_ok cs q
  | u => exact fun h => ⟨trivial, h⟩
theorem vwVs_k {β : Type} : ∀ (l : List V) (q : Prop) (k : Prop → β), vwVs σ τ hl l q k = k (vwVs σ τ hl l q id)
  | [], q, k => rfl
  | c :: l, q, k => by
    unfold vwVs
    rw [vwVs_k l q (fun q => c.vw σ τ hl q k), vwVs_k l q (fun q => c.vw σ τ hl q id), vwV_k]
theorem vwVs_ok : ∀ (l : List V) (q : Prop), vwVs σ τ hl l q id → (∀ c ∈ l, c.Vw σ τ hl) ∧ q
  | [], q, h => ⟨fun _ hc => (nomatch hc), h⟩
  | c :: l, q, h => by
    unfold vwVs at h
    rw [vwVs_k] at h
    obtain ⟨h1, h2⟩ := vwV_ok c _ h
    obtain ⟨h3, h4⟩ := vwVs_ok l q h2
    exact ⟨fun x hx => (List.mem_cons.1 hx).elim (fun e => e ▸ h1) (h3 x), h4⟩
/-- The conditions of values, as they are asked. -/
theorem vwVs_get {l : List V} {p : Prop} (h : vwVs σ τ hl l True some = some p) (hp : p) : ∀ c ∈ l, c.Vw σ τ hl := by
  rw [vwVs_k] at h
  cases h
  exact (vwVs_ok l True hp).1
theorem vwV_get {v : V} {p : Prop} (h : v.vw σ τ hl True some = some p) (hp : p) : v.Vw σ τ hl := by
  rw [vwV_k] at h
  cases h
  exact (vwV_ok v True hp).1
end
theorem pos_ok : ∀ {σ : List Nat} {i j : Nat}, pos σ i = some j → σ[j]? = some i
  | [], i, j, h => by cases h
  | x :: l, i, j, h => by
    unfold pos at h
    cases hb : Nat.beq x i with
    | true => rw [hb] at h; cases h; simp [Nat.eq_of_beq_eq_true hb]
    | false =>
      rw [hb] at h
      simp only [cond_false] at h
      split at h
      · rename_i j' hj; cases h; simpa using pos_ok hj
      · cases h
theorem nodup_at : ∀ {l : List Nat} {i j a : Nat}, l.Nodup → l[i]? = some a → l[j]? = some a → i = j
  | [], i, j, a, _, h, _ => by simp at h
  | x :: l, i, j, a, hn, hi, hj => by
    obtain ⟨h1, h2⟩ := List.nodup_cons.1 hn
    cases i with
    | zero => cases j with
      | zero => rfl
      | succ j => simp at hi hj; subst hi; exact absurd (List.mem_of_getElem? hj) h1
    | succ i => cases j with
      | zero => simp at hi hj; subst hj; exact absurd (List.mem_of_getElem? hi) h1
      | succ j => simp at hi hj; rw [nodup_at h2 hi hj]
/-- The ghosts that a callee sees. -/
def Gh.sub (g : Gh) (h : Nat → Ob) (σ τ : List Nat) : Gh :=
  { I := fun b => g.I b ∨ Tch g h τ b, μ := fun j => (σ[j]?).bind g.μ, fp := fun j => match σ[j]? with | some i => g.fp i | none => fun _ => False }
section
variable {w : World} {g : Gh} {h : Nat → Ob} {hl : List Ob} {σ τ : List Nat}
theorem Gh.sub_μ {i j : Nat} (hj : σ[j]? = some i) : (g.sub h σ τ).μ j = g.μ i := by simp [Gh.sub, hj]
theorem bk1_ok (hR : Rl w g h) (ht : ∀ i ∈ τ, h i = hx hl i) {v : Value} {c c' : C} (hv : RC w g v c) (hk : c.vw1 σ τ hl True id) (hb : c.bk1 σ τ hl = some c') : RC w (g.sub h σ τ) v c' := by
  have hs : Same g.I w w := fun _ _ => rfl
  cases hv with
  | t hd => cases hb; exact .t (hd.more hs (fun _ h => .inl h))
  | nilp => cases hb; exact .nilp
  | nilm => cases hb; exact .nilm
  | nilf => cases hb; exact .nilf
  | pa n hm hn ht' =>
    simp only [C.bk1] at hb
    split at hb
    · rename_i j hj; cases hb; exact .pa n ((Gh.sub_μ (pos_ok hj)).trans hm) hn ht'
    · cases hb
  | ptr off hm hn =>
    simp only [C.bk1] at hb
    split at hb
    · rename_i j hj; cases hb; exact .ptr off ((Gh.sub_μ (pos_ok hj)).trans hm) hn
    · cases hb
  | sl off n hm hn ho =>
    rename_i id l
    simp only [C.bk1] at hb
    simp only [C.vw1] at hk
    split at hb
    · rename_i j hj; cases hb; exact .sl off n ((Gh.sub_μ (pos_ok hj)).trans hm) hn ho
    · rename_i hpn
      rw [hpn] at hk
      cases hc : τ.contains id with
      | false => rw [hc] at hb; cases hb
      | true =>
        rw [hc] at hb hk
        simp only [cond_true] at hb hk
        split at hb
        · rename_i sz rows hid
          rw [hid] at hk
          have hle : off + n ≤ rows.length := hk.1
          · cases hb
            have hit : id ∈ τ := by simpa using hc
            have hob : h id = .arr sz rows := (ht id hit).trans hid
            have hlive : (h id).live = true := by rw [hob]; rfl
            obtain ⟨hsz, l', m1, m2, hcase⟩ := hob ▸ hR.objs id hlive
            obtain rfl : l' = l := Option.some.inj (m1.symm.trans hm)
            rcases hcase with ⟨hc', _⟩ | ⟨_, hle2, hmx, m6, arr, ty, m3, m4, m5⟩
            · rw [hc'] at hn; cases hn
            · refine .t (.ls l'.blk (off * l'.sz) sz n (l'.tot - off) (rows.drop off) (fun i j => (arr[(off + i) * sz + j]?).getD undef) (.inr ⟨id, hit, hlive, (m6 _).2 rfl⟩) (by rw [List.length_drop]; omega) (by rw [List.length_drop]; omega) (by omega) hsz (fun i r hr => ?_) (fun i r j t h1 h2 => ?_) (fun i r j t h1 h2 => ?_))
              · rw [List.getElem?_drop] at hr; exact (m5 _ r hr).1
              · rw [List.getElem?_drop] at h1
                obtain ⟨u, u1, u2⟩ := (m5 _ r h1).2 j t h2
                rw [m2, ← Nat.add_assoc, ← Nat.add_mul, cell_of_row _ l'.blk _ arr ty _ m3, u1]
                rfl
              · rw [List.getElem?_drop] at h1
                obtain ⟨u, u1, u2⟩ := (m5 _ r h1).2 j t h2
                rw [u1]
                exact u2.more hs (fun _ h => .inl h)
        · cases hb
  | slz off A hm ho =>
    rename_i id l
    simp only [C.bk1] at hb
    split at hb
    · rename_i j hj; cases hb; exact .slz off A ((Gh.sub_μ (pos_ok hj)).trans hm) ho
    · cases hc : τ.contains id with
      | false => rw [hc] at hb; cases hb
      | true =>
        rw [hc] at hb
        simp only [cond_true] at hb
        split at hb
        · rename_i sz rows hid
          · cases hb
            have hit : id ∈ τ := by simpa using hc
            have hob : h id = .arr sz rows := (ht id hit).trans hid
            have hlive : (h id).live = true := by rw [hob]; rfl
            obtain ⟨hsz, l', m1, m2, hcase⟩ := hob ▸ hR.objs id hlive
            obtain rfl : l' = l := Option.some.inj (m1.symm.trans hm)
            have hdr : rows.drop off = [] := by
              rcases hcase with ⟨_, _, hr, _⟩ | ⟨_, hle2, _⟩
              · rw [hr]; simp
              · exact List.drop_eq_nil_of_le (by omega)
            rw [hdr]
            exact .t (.lsn A sz)
        · cases hb
  | el i k hm hn =>
    simp only [C.bk1] at hb
    split at hb
    · rename_i j hj; cases hb; exact .el i k ((Gh.sub_μ (pos_ok hj)).trans hm) hn
    · cases hb
  | im b o cs us hI hc hr => cases hb; exact .im b o cs us (.inl hI) hc (fun j t hj => (hr j t hj).more hs (fun _ h => .inl h))
  | mp hm =>
    simp only [C.bk1] at hb
    split at hb
    · rename_i j hj; cases hb; exact .mp ((Gh.sub_μ (pos_ok hj)).trans hm)
    · cases hb
  | bm f off hm hn =>
    simp only [C.bk1] at hb
    split at hb
    · rename_i j hj; cases hb; exact .bm f off ((Gh.sub_μ (pos_ok hj)).trans hm) hn
    · cases hb
  | fn f caps cs hsz hc => cases hb
theorem bk_ok (hR : Rl w g h) (ht : ∀ i ∈ τ, h i = hx hl i) {v : Value} {c c' : C} (hv : RC w g v c) (hk : c.vw σ τ hl True id) (hb : c.bk σ τ hl = some c') : RC w (g.sub h σ τ) v c' := by
  cases c with
  | fn f cs =>
    simp only [C.bk] at hb
    split at hb
    · rename_i r hr
      cases hb
      obtain ⟨l1, l2⟩ := listM_ok hr
      cases hv with
      | fn f caps cs hsz hc =>
        refine .fn f caps r (hsz.trans l1) fun j v c hv hc' => ?_
        obtain ⟨a, a1, a2⟩ := l2 j c hc'
        exact bk1_ok hR ht (hc j v a hv a1) ((vw1s_ok cs True hk).1 a (List.mem_of_getElem? a1)) a2
    · cases hb
  | _ => exact bk1_ok hR ht hv hk hb
theorem bkE_ok (hR : Rl w g h) (ht : ∀ i ∈ τ, h i = hx hl i) {v : Value} {e e' : E} (hv : RE w g v e) (hk : e.Vw σ τ hl) (hb : e.bk σ τ hl = some e') : RE w (g.sub h σ τ) v e' := by
  cases hv with
  | c hc =>
    simp only [E.bk] at hb
    split at hb
    · rename_i r hr; cases hb; exact .c (bk_ok hR ht hc hk hr)
    · cases hb
  | agg arr cs hs hc =>
    simp only [E.bk] at hb
    split at hb
    · rename_i r hr
      cases hb
      obtain ⟨l1, l2⟩ := listM_ok hr
      refine .agg arr r (hs.trans l1) fun j c hj => ?_
      obtain ⟨a, a1, a2⟩ := l2 j c hj
      obtain ⟨u, u1, u2⟩ := hc j a a1
      exact ⟨u, u1, bk_ok hR ht u2 (hk a (List.mem_of_getElem? a1)) a2⟩
    · cases hb
theorem bkV_ok (hR : Rl w g h) (ht : ∀ i ∈ τ, h i = hx hl i) {v : Value} {x x' : V} (hv : RV w g v x) (hk : x.Vw σ τ hl) (hb : x.bk σ τ hl = some x') : RV w (g.sub h σ τ) v x' := by
  cases hv with
  | e he =>
    simp only [V.bk] at hb
    split at hb
    · rename_i r hr; cases hb; exact .e (bkE_ok hR ht he hk hr)
    · cases hb
  | tup arr es hs hc =>
    simp only [V.bk] at hb
    split at hb
    · rename_i r hr
      cases hb
      obtain ⟨l1, l2⟩ := listM_ok hr
      refine .tup arr r (hs.trans l1) fun j c hj => ?_
      obtain ⟨a, a1, a2⟩ := l2 j c hj
      obtain ⟨u, u1, u2⟩ := hc j a a1
      exact ⟨u, u1, bkE_ok hR ht u2 (hk a (List.mem_of_getElem? a1)) a2⟩
    · cases hb
  | u => cases hb
theorem bk_tau {c c' : C} (hb : c.bk σ [] hl = some c') (τ : List Nat) : c.bk σ τ hl = some c' := by
  have h1 : ∀ {c c' : C}, c.bk1 σ [] hl = some c' → c.bk1 σ τ hl = some c' := by
    intro c c' hb
    cases c <;> simp only [C.bk1] at hb ⊢ <;> try exact hb
    split at hb
    · exact hb
    · simp at hb
  cases c with
  | fn f cs =>
    simp only [C.bk] at hb ⊢
    split at hb
    · rename_i r hr
      have : listM (C.bk1 σ τ hl) cs = some r := by
        clear hb
        induction cs generalizing r with
        | nil => simpa [listM] using hr
        | cons c cs ih =>
          unfold listM at hr ⊢
          cases hc : c.bk1 σ [] hl with
          | none => simp [hc] at hr
          | some x => cases hl' : listM (C.bk1 σ [] hl) cs with
            | none => simp [hc, hl'] at hr
            | some y => simp [hc, hl'] at hr; simp [h1 hc, ih _ hl', hr]
      rw [this]; exact hb
    · cases hb
  | _ => simp only [C.bk] at hb ⊢; exact h1 hb
theorem bkE_tau {e e' : E} (hb : e.bk σ [] hl = some e') (τ : List Nat) : e.bk σ τ hl = some e' := by
  cases e with
  | c x =>
    simp only [E.bk] at hb ⊢
    split at hb
    · rename_i r hr; rw [bk_tau hr τ]; exact hb
    · cases hb
  | agg cs =>
    simp only [E.bk] at hb ⊢
    split at hb
    · rename_i r hr
      have : listM (C.bk σ τ hl) cs = some r := by
        clear hb
        induction cs generalizing r with
        | nil => simpa [listM] using hr
        | cons c cs ih =>
          unfold listM at hr ⊢
          cases hc : c.bk σ [] hl with
          | none => simp [hc] at hr
          | some x => cases hl' : listM (C.bk σ [] hl) cs with
            | none => simp [hc, hl'] at hr
            | some y => simp [hc, hl'] at hr; simp [bk_tau hc τ, ih _ hl', hr]
      rw [this]; exact hb
    · cases hb
theorem bk_vw {c c' : C} (hb : c.bk σ [] hl = some c') (τ : List Nat) : c.vw σ τ hl True id := by
  have h1 : ∀ {c c' : C}, c.bk1 σ [] hl = some c' → c.vw1 σ τ hl True id := by
    intro c c' hb
    cases c <;> simp only [C.bk1] at hb <;> simp only [C.vw1] <;> try trivial
    split at hb
    · trivial
    · simp at hb
  cases c with
  | fn f cs =>
    simp only [C.bk] at hb
    split at hb
    · rename_i r hr
      obtain ⟨l1, l2⟩ := listM_ok hr
      simp only [C.vw]
      have hall : ∀ c ∈ cs, c.vw1 σ τ hl True id := fun c hc => by
        obtain ⟨j, hj, rfl⟩ := List.getElem_of_mem hc
        obtain ⟨a, a1, a2⟩ := l2 j (r[j]'(by omega)) (List.getElem?_eq_getElem _)
        rw [List.getElem?_eq_getElem hj] at a1
        cases a1
        exact h1 a2
      clear hr l1 l2 hb
      induction cs with
      | nil => trivial
      | cons c l ih =>
        unfold vw1s
        rw [vw1s_k]
        have : (vw1s σ τ hl l True id) = True := eq_true (ih (fun c hc => hall c (by simp [hc])))
        rw [this]
        exact hall c (by simp)
    · cases hb
  | _ => simp only [C.bk] at hb; simp only [C.vw]; exact h1 hb
theorem bkE_vw {e e' : E} (hb : e.bk σ [] hl = some e') (τ : List Nat) : e.Vw σ τ hl := by
  cases e with
  | c x =>
    simp only [E.bk] at hb
    split at hb
    · rename_i r hr; exact bk_vw hr τ
    · cases hb
  | agg cs =>
    simp only [E.bk] at hb
    split at hb
    · rename_i r hr
      obtain ⟨l1, l2⟩ := listM_ok hr
      intro c hc
      obtain ⟨j, hj, rfl⟩ := List.getElem_of_mem hc
      obtain ⟨a, a1, a2⟩ := l2 j (r[j]'(by omega)) (List.getElem?_eq_getElem _)
      rw [List.getElem?_eq_getElem hj] at a1
      cases a1
      exact bk_vw a2 τ
    · cases hb
theorem valE_more {g' : Gh} {w : World} {g : Gh} {v : Value} {ag : Bool} {ds : List D} (h : RE w g v (valE ag ds)) (hi : ∀ b, g.I b → g'.I b) : RE w g' v (valE ag ds) := by
  have hs : Same g.I w w := fun _ _ => rfl
  cases ag with
  | true =>
    cases h with
    | agg arr cs hz h =>
      refine .agg arr _ hz fun j c hj => ?_
      obtain ⟨u, u1, u2⟩ := h j c hj
      rw [List.getElem?_map] at hj
      cases hd : ds[j]? with
      | none => rw [hd] at hj; cases hj
      | some d =>
        rw [hd] at hj
        cases hj
        cases u2 with | t u2 => exact ⟨u, u1, .t (u2.more hs hi)⟩
  | false =>
    cases h with
    | c h => cases h with | t h => exact .c (.t (h.more hs hi))
theorem bkO_ok (hR : Rl w g h) (ht : ∀ i ∈ τ, h i = hx hl i) {i j : Nat} (hj : σ[j]? = some i) {o o' : Ob} (ho : HO w g i o) (hb : o.bk σ hl = some o') : HO w (g.sub h σ τ) j o' := by
  have hs : Same g.I w w := fun _ _ => rfl
  have hf : (g.sub h σ τ).fp j = g.fp i := by simp [Gh.sub, hj]
  cases o with
  | dead => cases hb; trivial
  | box cs =>
    simp only [Ob.bk] at hb
    split at hb
    · rename_i r hr
      cases hb
      obtain ⟨l1, l2⟩ := listM_ok hr
      obtain ⟨l, arr, ty, m1, m2, m3, m4, m5, m6⟩ := ho
      refine ⟨l, arr, ty, (Gh.sub_μ hj).trans m1, m2, m3, m4.trans l1, fun q c hq => ?_, by rw [hf]; exact m6⟩
      obtain ⟨a, a1, a2⟩ := l2 q c hq
      obtain ⟨u, u1, u2⟩ := m5 q a a1
      exact ⟨u, u1, bk_ok hR ht u2 (bk_vw a2 τ) (bk_tau a2 τ)⟩
    · cases hb
  | arr sz rows =>
    cases hb
    obtain ⟨hsz, l, m1, m2, hcase⟩ := ho
    refine ⟨hsz, l, (Gh.sub_μ hj).trans m1, m2, ?_⟩
    rw [hf]
    rcases hcase with hc | ⟨c1, c2, c3, c4, arr, ty, c5, c6, c7⟩
    · exact .inl hc
    · refine .inr ⟨c1, c2, c3, c4, arr, ty, c5, c6, fun p r hr => ?_⟩
      obtain ⟨d1, d2⟩ := c7 p r hr
      refine ⟨d1, fun q t hq => ?_⟩
      obtain ⟨u, u1, u2⟩ := d2 q t hq
      exact ⟨u, u1, u2.more hs (fun _ h => .inl h)⟩
  | mp ag m =>
    cases hb
    obtain ⟨l, arr, m1, m3, m4, m5, m6⟩ := ho
    refine ⟨l, arr, (Gh.sub_μ hj).trans m1, m3, m4, fun q c hq => ?_, by rw [hf]; exact m6⟩
    obtain ⟨u, u1, u2, u3, u4⟩ := m5 q c hq
    exact ⟨u, u1, u2, u3, valE_more u4 fun b h => .inl h⟩
  | cm ag m out =>
    cases out with
    | some q => cases hb
    | none =>
      cases hb
      obtain ⟨l, arr, bs, m1, m2, m3, m4, m5⟩ := ho
      refine ⟨l, arr, bs, (Gh.sub_μ hj).trans m1, m2, ⟨m3.1, fun q e hq => ?_⟩, m4, by rw [hf]; exact m5⟩
      obtain ⟨x, x1, x2, x3, x4⟩ := m3.2 q e hq
      refine ⟨x, x1, x2, x3, ?_⟩
      obtain ⟨st, k, v⟩ := e
      cases v with
      | o ds => exact valE_more (g' := g.sub h σ τ) x4 fun b h => .inl h
      | i sz rows => exact InB.more hs (fun b h => .inl h) rfl x4
  | it mid since seen last =>
    simp only [Ob.bk] at hb
    split at hb
    · rename_i j' hj'
      cases hb
      obtain ⟨l, lm, m1, m2, m3, m4, m5⟩ := ho
      exact ⟨l, lm, (Gh.sub_μ hj).trans m1, m2, (Gh.sub_μ (pos_ok hj')).trans m3, m4, by rw [hf]; exact m5⟩
    · cases hb
  | opq R =>
    cases hb
    obtain ⟨hst, l, m1, m2, m3, m4⟩ := ho
    refine ⟨hst, l, (Gh.sub_μ hj).trans m1, m2, ?_, ?_⟩
    · rw [hf]; exact m3
    · rw [hf]; exact m4
theorem Rl.sub (hR : Rl w g h) (ht : ∀ i ∈ τ, h i = hx hl i) (hσ : ∀ i ∈ σ, h i = hx hl i) (hnd : σ.Nodup) (hdis : ∀ i ∈ σ, i ∉ τ) {hs : List Ob} (hb : listM (Ob.bk σ hl) (σ.map (hx hl)) = some hs) : Rl w (g.sub h σ τ) (hx hs) := by
  obtain ⟨l1, l2⟩ := listM_ok hb
  have key : ∀ j, (hx hs j).live = true → ∃ i o, σ[j]? = some i ∧ hs[j]? = some o ∧ hx hs j = o ∧ (h i).bk σ hl = some o ∧ (h i).live = true := by
    intro j hl'
    cases hj : hs[j]? with
    | none => simp [hx, hj, List.getD_eq_getElem?_getD] at hl'; cases hl'
    | some o =>
      obtain ⟨a, a1, a2⟩ := l2 j o hj
      rw [List.getElem?_map] at a1
      cases hi : σ[j]? with
      | none => simp [hi] at a1
      | some i =>
        simp [hi] at a1
        have hio : h i = hx hl i := hσ i (List.mem_of_getElem? hi)
        have ho : hx hs j = o := by simp [hx, hj, List.getD_eq_getElem?_getD]
        refine ⟨i, o, rfl, rfl, ho, by rw [hio, a1]; exact a2, ?_⟩
        rw [ho] at hl'
        rw [hio, a1]
        cases a with
        | dead => simp [Ob.bk] at a2; subst a2; cases hl'
        | _ => rfl
  refine ⟨fun j hl' => ?_, fun i j b hi hj hib hjb => ?_, fun j b hl' hf hI => ?_, fun b hb => ?_⟩
  · obtain ⟨i, o, e1, e2, e3, e4, e5⟩ := key j hl'
    rw [e3]
    exact bkO_ok hR ht e1 (hR.objs i e5) e4
  · obtain ⟨i', o, e1, _, _, _, e5⟩ := key i hi
    obtain ⟨j', o', f1, _, _, _, f5⟩ := key j hj
    have hij := hR.disj i' j' b e5 f5 (by simpa [Gh.sub, e1] using hib) (by simpa [Gh.sub, f1] using hjb)
    subst hij
    exact nodup_at hnd e1 f1
  · obtain ⟨i, o, e1, _, _, _, e5⟩ := key j hl'
    have hf' : g.fp i b := by simpa [Gh.sub, e1] using hf
    rcases hI with hI | ⟨k, k1, k2, k3⟩
    · exact hR.imm i b e5 hf' hI
    · have := hR.disj i k b e5 k2 hf' k3
      subst this
      exact hdis i (List.mem_of_getElem? e1) k1
  · rcases hb with hb | ⟨k, k1, k2, k3⟩
    · exact hR.lt b hb
    · exact (hR.objs k k2).lt k2 k3
end

/-- How a call leaves the ghosts. -/
structure Fr (w : World) (g : Gh) (hs : List Ob) (w' : World) (g' : Gh) (hs' : List Ob) : Prop where
  len : hs.length ≤ hs'.length
  keeps : Keeps (Own g (hx hs)) w w'
  I : ∀ b, g.I b → g'.I b
  In : ∀ b, g'.I b → g.I b ∨ Own g (hx hs) b ∨ w.heap.size ≤ b
  μ : ∀ i, i < hs.length → g'.μ i = g.μ i
  μn : ∀ i, hs'.length ≤ i → g'.μ i = none
  own : ∀ b, Own g' (hx hs') b → Own g (hx hs) b ∨ w.heap.size ≤ b
/-- What is given: arguments vs, objects hs; what comes of it: the result r, the objects hs'. -/
def FnOk (P : Program) (f : FuncId) (vs : List V) (hs : List Ob) (r : V) (hs' : List Ob) : Prop :=
  (∃ fn, P.funcs[f]? = some fn ∧ fn.body.isSome = true ∧ fn.name ≠ "runtime.NumGoroutine") ∧
  ∀ (w : World) (g : Gh) (args : Array Value), Rl w g (hx hs) → (∀ i, hs.length ≤ i → g.μ i = none) → args.size = vs.length → (∀ (j : Nat) v x, args[j]? = some v → vs[j]? = some x → RV w g v x) →
    Calls P f args w fun e w' => ∃ v g', e = .returned v ∧ RV w' g' v r ∧ Rl w' g' (hx hs') ∧ Fr w g hs w' g' hs'
theorem FnOk.wk {P : Program} {f : FuncId} {vs vs' : List V} {hs hs' : List Ob} {r r' : V} (h : FnOk P f vs' hs r hs') (h1 : LeVs vs vs') (h2 : V.le r r') : FnOk P f vs hs r' hs' := by
  obtain ⟨e1, e2⟩ := h1.at
  refine ⟨h.1, fun w g args hR hμ hs hv => (h.2 w g args hR hμ (hs.trans e1) fun j v x hj hx => ?_).mono fun e w' ⟨v, g', p1, p2, p3⟩ => ⟨v, g', p1, p2.le h2, p3⟩⟩
  obtain ⟨c, c1, c2⟩ := e2 j x hx
  exact (hv j v c hj c1).le c2
end Go.Proofs.YthddlkhfkncgpaaGreat
set_option linter.unusedVariables false
set_option linter.unusedSimpArgs false
namespace Go.Proofs.YthddlkhfkncgpaaGreat
open Go.RowKit

section
variable {w : World} {g g2 : Gh} {φ : Nat → Nat}
theorem ren1_ok (hI : ∀ b, g.I b → g2.I b) (hμ : ∀ i l, g.μ i = some l → g2.μ (φ i) = some l) {v : Value} {c : C} (hv : RC w g v c) (hf : ∀ f cs, c ≠ .fn f cs) : RC w g2 v (c.ren1 φ) := by
  have hs : Same g.I w w := fun _ _ => rfl
  cases hv with
  | t hd => exact .t (hd.more hs hI)
  | nilp => exact .nilp
  | nilm => exact .nilm
  | nilf => exact .nilf
  | pa n h hn ht => exact .pa n (hμ _ _ h) hn ht
  | ptr off h hn => exact .ptr off (hμ _ _ h) hn
  | sl off n h hn ho => exact .sl off n (hμ _ _ h) hn ho
  | slz off A h ho => exact .slz off A (hμ _ _ h) ho
  | el i k h hn => exact .el i k (hμ _ _ h) hn
  | im b o cs us h1 h2 h3 => exact .im b o cs us (hI b h1) h2 (fun j t hj => (h3 j t hj).more hs hI)
  | mp h => exact .mp (hμ _ _ h)
  | bm f off h hn => exact .bm f off (hμ _ _ h) hn
  | fn f caps cs hsz h => exact absurd rfl (hf f cs)
theorem ren1_fn (hI : ∀ b, g.I b → g2.I b) (hμ : ∀ i l, g.μ i = some l → g2.μ i = some l) {v : Value} {c : C} (hv : RC w g v c) : RC w g2 v c := hv.more (fun _ _ => rfl) ⟨hI, hμ⟩
end
/-- No function value within a function value. -/
def C.ok : C → Bool
  | .fn _ cs => cs.all fun c => match c with | .fn _ _ => false | _ => true
  | _ => true
section
variable {w : World} {g g2 : Gh} {φ : Nat → Nat} (hI : ∀ b, g.I b → g2.I b) (hμ : ∀ i l, g.μ i = some l → g2.μ (φ i) = some l)
include hI hμ
theorem ren_ok {v : Value} {c : C} (hv : RC w g v c) (hk : c.ok = true) : RC w g2 v (c.ren φ) := by
  cases c with
  | fn f cs =>
    cases hv with
    | fn f caps cs hsz h =>
      refine .fn f caps (cs.map (C.ren1 φ)) (by simpa using hsz) fun j v c hv hc => ?_
      rw [List.getElem?_map] at hc
      cases hcj : cs[j]? with
      | none => simp [hcj] at hc
      | some c0 =>
        simp [hcj] at hc
        subst hc
        have hk' := List.all_eq_true.1 hk c0 (List.mem_of_getElem? hcj)
        exact ren1_ok hI hμ (h j v c0 hv hcj) (by rintro f cs rfl; simp at hk')
  | _ => exact ren1_ok hI hμ hv (by rintro f cs h; cases h)
def E.ok : E → Bool
  | .c x => x.ok
  | .agg cs => cs.all C.ok
theorem renE_ok {v : Value} {e : E} (hv : RE w g v e) (hk : e.ok = true) : RE w g2 v (e.ren φ) := by
  cases hv with
  | c h => exact .c (ren_ok hI hμ h hk)
  | agg arr cs hs h =>
    refine .agg arr _ (by simpa using hs) fun j c hj => ?_
    rw [List.getElem?_map] at hj
    cases hcj : cs[j]? with
    | none => simp [hcj] at hj
    | some c0 =>
      simp [hcj] at hj
      subst hj
      obtain ⟨u, u1, u2⟩ := h j c0 hcj
      exact ⟨u, u1, ren_ok hI hμ u2 (List.all_eq_true.1 hk c0 (List.mem_of_getElem? hcj))⟩
def V.ok : V → Bool
  | .e x => x.ok
  | .tup es => es.all E.ok
  | .u => true
theorem renV_ok {v : Value} {x : V} (hv : RV w g v x) (hk : x.ok = true) : RV w g2 v (x.ren φ) := by
  cases hv with
  | e h => exact .e (renE_ok hI hμ h hk)
  | tup arr es hs h =>
    refine .tup arr _ (by simpa using hs) fun j c hj => ?_
    rw [List.getElem?_map] at hj
    cases hcj : es[j]? with
    | none => simp [hcj] at hj
    | some c0 =>
      simp [hcj] at hj
      subst hj
      obtain ⟨u, u1, u2⟩ := h j c0 hcj
      exact ⟨u, u1, renE_ok hI hμ u2 (List.all_eq_true.1 hk c0 (List.mem_of_getElem? hcj))⟩
  | u => exact .u
def Ob.ok : Ob → Bool
  | .box cs => cs.all C.ok
  | _ => true
theorem renO_ok {j : Nat} (hf : g2.fp (φ j) = g.fp j) {o : Ob} (ho : HO w g j o) (hk : o.ok = true) : HO w g2 (φ j) (o.ren φ) := by
  have hs : Same g.I w w := fun _ _ => rfl
  cases o with
  | dead => trivial
  | box cs =>
    obtain ⟨l, arr, ty, m1, m2, m3, m4, m5, m6⟩ := ho
    refine ⟨l, arr, ty, hμ _ _ m1, m2, m3, by simpa using m4, fun q c hq => ?_, by rw [hf]; exact m6⟩
    rw [List.getElem?_map] at hq
    cases hcj : cs[q]? with
    | none => simp [hcj] at hq
    | some c0 =>
      simp [hcj] at hq
      subst hq
      obtain ⟨u, u1, u2⟩ := m5 q c0 hcj
      exact ⟨u, u1, ren_ok hI hμ u2 (List.all_eq_true.1 hk c0 (List.mem_of_getElem? hcj))⟩
  | arr sz rows =>
    obtain ⟨hsz, l, m1, m2, hcase⟩ := ho
    refine ⟨hsz, l, hμ _ _ m1, m2, ?_⟩
    rw [hf]
    rcases hcase with hc | ⟨c1, c2, c3, c4, arr, ty, c5, c6, c7⟩
    · exact .inl hc
    · exact .inr ⟨c1, c2, c3, c4, arr, ty, c5, c6, RowsIn.more hs hI c7⟩
  | mp ag m =>
    obtain ⟨l, arr, m1, m3, m4, m5, m6⟩ := ho
    refine ⟨l, arr, hμ _ _ m1, m3, m4, fun q c hq => ?_, by rw [hf]; exact m6⟩
    obtain ⟨u, u1, u2, u3, u4⟩ := m5 q c hq
    exact ⟨u, u1, u2, u3, valE_more u4 hI⟩
  | cm ag m out =>
    have key : ∀ out', (∀ j, outAt out' j = (outAt out j).map fun q => (φ q.1, q.2)) → HO w g2 (φ j) (.cm ag m out') := fun out' ho' => by
      obtain ⟨l, arr, bs, m1, m2, m3, m4, m5⟩ := ho
      have hin : ∀ j, inn m out' j ↔ inn m out j := fun j => by
        unfold inn
        rw [ho' j]
        cases outAt out j <;> simp
      refine ⟨l, arr, bs, hμ _ _ m1, m2, ⟨m3.1, fun q e hq => ?_⟩, fun j k hj hk => m4 j k ((hin j).1 hj) ((hin k).1 hk), fun b => ?_⟩
      · obtain ⟨x, x1, x2, x3, x4⟩ := m3.2 q e hq
        refine ⟨x, x1, x2, x3, ?_⟩
        rw [ho' q]
        cases hq' : outAt out q with
        | some r =>
          rw [hq'] at x4
          exact ren1_ok hI hμ x4 (by intro f cs h; cases h)
        | none =>
          rw [hq'] at x4
          obtain ⟨st, k, v⟩ := e
          cases v with
          | o ds => exact valE_more (g' := g2) x4 hI
          | i sz rows => exact InB.more hs hI rfl x4
      · rw [hf, m5]
        exact or_congr Iff.rfl (exists_congr fun j => and_congr (hin j).symm Iff.rfl)
    cases out with
    | none => exact key none fun j => rfl
    | some q =>
      obtain ⟨p, id, n⟩ := q
      refine key (some (p, φ id, n)) fun j => ?_
      simp only [outAt]
      split <;> rfl
  | it mid since seen last =>
    obtain ⟨l, lm, m1, m2, m3, m4, m5⟩ := ho
    exact ⟨l, lm, hμ _ _ m1, m2, hμ _ _ m3, m4, by rw [hf]; exact m5⟩
  | opq R =>
    obtain ⟨hst, l, m1, m2, m3, m4⟩ := ho
    refine ⟨hst, l, hμ _ _ m1, m2, ?_, ?_⟩
    · rw [hf]; exact m3
    · rw [hf]; exact m4
end
/-- A callee's objects by the caller's numbers. -/
def fwd (σ : List Nat) (base : Nat) (j : Nat) : Nat := match σ[j]? with
  | some i => i
  | none => base + (j - σ.length)
def wrs (φ : Nat → Nat) : List Nat → List Ob → List (Nat × Ob)
  | [], _ => []
  | i :: σ, [] => (i, .dead) :: wrs φ σ []
  | i :: σ, o :: hs => (i, o.ren φ) :: wrs φ σ hs
theorem beqF {a i : Nat} (h : ¬ a = i) : Nat.beq a i = false := by
  cases hb : Nat.beq a i with
  | false => rfl
  | true => exact absurd (Nat.eq_of_beq_eq_true hb) h
theorem wrs_ids (φ : Nat → Nat) : ∀ (σ : List Nat) (hs : List Ob), (wrs φ σ hs).map (·.1) = σ
  | [], _ => rfl
  | i :: σ, [] => by simp [wrs, wrs_ids φ σ []]
  | i :: σ, o :: hs => by simp [wrs, wrs_ids φ σ hs]
theorem wrs_get (φ : Nat → Nat) : ∀ (σ : List Nat) (hs : List Ob) (rest : List (Nat × Ob)) (i : Nat), getO (wrs φ σ hs ++ rest) i = match pos σ i with | some j => some ((hx hs j).ren φ) | none => getO rest i
  | [], hs, rest, i => rfl
  | a :: σ, [], rest, i => by
    simp only [wrs, List.cons_append, getO, pos]
    by_cases h : a = i
    · subst h; simp [hx, Ob.ren]
    · have : Nat.beq a i = false := beqF h
      rw [if_neg h, wrs_get φ σ [] rest i, this]
      simp only [cond_false]
      cases pos σ i <;> simp [hx]
  | a :: σ, o :: hs, rest, i => by
    simp only [wrs, List.cons_append, getO, pos]
    by_cases h : a = i
    · subst h; simp [hx]
    · have : Nat.beq a i = false := beqF h
      rw [if_neg h, wrs_get φ σ hs rest i, this]
      simp only [cond_false]
      cases pos σ i <;> simp [hx]
theorem getO_dead : ∀ (τ : List Nat) (i : Nat), getO (τ.map fun t => (t, Ob.dead)) i = if i ∈ τ then some .dead else none
  | [], i => by simp [getO]
  | a :: τ, i => by
    simp only [List.map_cons, getO, List.mem_cons]
    by_cases h : a = i
    · subst h; simp
    · rw [if_neg h, getO_dead τ i]
      have : ¬ i = a := fun e => h e.symm
      simp [this]
theorem pos_of {σ : List Nat} {i j : Nat} (hn : σ.Nodup) (h : σ[j]? = some i) : pos σ i = some j := by
  cases hp : pos σ i with
  | some k => rw [nodup_at hn h (pos_ok hp)]
  | none =>
    exfalso
    have : ∀ (l : List Nat), pos l i = none → i ∉ l := by
      intro l
      induction l with
      | nil => simp
      | cons a l ih =>
        intro h
        unfold pos at h
        cases hb : Nat.beq a i with
        | true => rw [hb] at h; cases h
        | false =>
          rw [hb] at h
          simp only [cond_false] at h
          have ha : a ≠ i := Nat.ne_of_beq_eq_false hb
          split at h
          · cases h
          · rename_i hl
            simp only [List.mem_cons, not_or]
            exact ⟨fun e => ha e.symm, ih hl⟩
    exact this σ hp (List.mem_of_getElem? h)
theorem pos_none {σ : List Nat} {i : Nat} (h : i ∉ σ) : pos σ i = none := by
  cases hp : pos σ i with
  | none => rfl
  | some j => exact absurd (List.mem_of_getElem? (pos_ok hp)) h
def Gh.back (g g' : Gh) (σ : List Nat) (base n : Nat) : Gh :=
  { I := g'.I, μ := fun i => if base ≤ i ∧ i < base + n then g'.μ (σ.length + (i - base)) else g.μ i,
    fp := fun i => match pos σ i with
      | some j => g'.fp j
      | none => if base ≤ i ∧ i < base + n then g'.fp (σ.length + (i - base)) else g.fp i }
section
variable {w w' : World} {g g' : Gh} {h : Nat → Ob} {hl hs hs' : List Ob} {σ τ : List Nat} {r : V} {base : Nat}
def callRes (σ τ : List Nat) (base : Nat) (r : V) (hs' : List Ob) : Res :=
  { v := r.ren (fwd σ base), wr := wrs (fwd σ base) σ hs' ++ τ.map (fun t => (t, Ob.dead)), rd := σ ++ τ, nw := (hs'.drop σ.length).map (Ob.ren (fwd σ base)) }
theorem live_ren {φ : Nat → Nat} {o : Ob} : (o.ren φ).live = o.live := by
  cases o with
  | cm ag m out => cases out <;> rfl
  | _ => rfl
theorem hx_live {hs : List Ob} {j : Nat} (h : (hx hs j).live = true) : j < hs.length := by
  rcases Nat.lt_or_ge j hs.length with h' | h'
  · exact h'
  · simp [hx, List.getD_eq_getElem?_getD, List.getElem?_eq_none h'] at h; cases h
theorem call_ok (hR : Rl w g h) (ht : ∀ i ∈ τ, h i = hx hl i) (hσ : ∀ i ∈ σ, h i = hx hl i) (hnd : σ.Nodup) (hσb : ∀ i ∈ σ, i < base) (hb : listM (Ob.bk σ hl) (σ.map (hx hl)) = some hs)
    (hR' : Rl w' g' (hx hs')) (hF : Fr w (g.sub h σ τ) hs w' g' hs') (hok : hs'.all Ob.ok = true) (hnew : ∀ i, isNew base (hs'.length - σ.length) i → g.μ i = none ∧ h i = .dead) (hτb : ∀ i ∈ τ, i < base) :
    Rl w' (g.back g' σ base (hs'.length - σ.length)) ((callRes σ τ base r hs').app base h) ∧
      Go1 w g h (callRes σ τ base r hs').ids base (callRes σ τ base r hs').nw.length w' (g.back g' σ base (hs'.length - σ.length)) ((callRes σ τ base r hs').app base h) ∧
      (∀ i l, g'.μ i = some l → (g.back g' σ base (hs'.length - σ.length)).μ (fwd σ base i) = some l) := by
  obtain ⟨l1, l2⟩ := listM_ok hb
  have hlen : hs.length = σ.length := by rw [← l1]; simp
  have hlen' : σ.length ≤ hs'.length := hlen ▸ hF.len
  have hids : (callRes σ τ base r hs').ids = σ ++ τ := by simp [callRes, Res.ids, wrs_ids, List.map_map, Function.comp_def]
  have hnwl : (callRes σ τ base r hs').nw.length = hs'.length - σ.length := by simp [callRes]
  -- what is at an object behind the call
  have happ : ∀ i, (callRes σ τ base r hs').app base h i = match pos σ i with
      | some j => (hx hs' j).ren (fwd σ base)
      | none => if i ∈ τ then .dead else if base ≤ i ∧ i < base + (hs'.length - σ.length) then (hx hs' (σ.length + (i - base))).ren (fwd σ base) else h i := by
    intro i
    simp only [Res.app, callRes, wrs_get, getO_dead]
    cases hp : pos σ i with
    | some j => rfl
    | none =>
      by_cases hit : i ∈ τ
      · simp [hit]
      · simp only [hit, if_false]
        by_cases hb1 : base ≤ i
        · rw [if_pos hb1, List.getElem?_map, List.getElem?_drop]
          by_cases hb2 : i < base + (hs'.length - σ.length)
          · rw [if_pos ⟨hb1, hb2⟩]
            have : σ.length + (i - base) < hs'.length := by omega
            simp [this, hx, List.getD_eq_getElem?_getD]
          · rw [if_neg (by omega)]
            rw [List.getElem?_eq_none (by omega)]
            rfl
        · rw [if_neg hb1, if_neg (by omega)]
  have own_tch : ∀ b, Own (g.sub h σ τ) (hx hs) b → Tch g h (σ ++ τ) b := by
    rintro b ⟨j, hj, hf⟩
    have hjl := hx_live hj
    obtain ⟨a, a1, a2⟩ := l2 j _ (List.getElem?_eq_getElem hjl)
    rw [List.getElem?_map] at a1
    cases hi : σ[j]? with
    | none => simp [hi] at a1
    | some i =>
      simp [hi] at a1
      simp only [Gh.sub, hi] at hf
      have him := List.mem_of_getElem? hi
      refine ⟨i, by simp [him], ?_, hf⟩
      rw [hσ i him, a1]
      cases a with
      | dead => simp [Ob.bk] at a2; simp [hx, List.getD_eq_getElem?_getD, List.getElem?_eq_getElem hjl, ← a2] at hj; cases hj
      | _ => rfl
  have notnew : ∀ i ∈ σ, ¬ (base ≤ i ∧ i < base + (hs'.length - σ.length)) := fun i hi hc => by have := hσb i hi; omega
  have hfwd1 : ∀ {j i : Nat}, σ[j]? = some i → fwd σ base j = i := fun hj => by simp [fwd, hj]
  have hfwd2 : ∀ {j : Nat}, σ.length ≤ j → fwd σ base j = base + (j - σ.length) := fun hj => by simp [fwd, List.getElem?_eq_none hj]
  have hμ : ∀ i l, g'.μ i = some l → (g.back g' σ base (hs'.length - σ.length)).μ (fwd σ base i) = some l := by
    intro i l hm
    by_cases hi : i < σ.length
    · have hs0 : σ[i]? = some σ[i] := List.getElem?_eq_getElem hi
      rw [hfwd1 hs0]
      have : g'.μ i = g.μ σ[i] := by rw [hF.μ i (by omega)]; exact Gh.sub_μ hs0
      simp only [Gh.back]
      rw [if_neg (notnew _ (List.mem_of_getElem? hs0)), ← this]
      exact hm
    · rw [hfwd2 (by omega)]
      have hilt : i < hs'.length := by
        rcases Nat.lt_or_ge i hs'.length with h | h
        · exact h
        · rw [hF.μn i h] at hm; cases hm
      simp only [Gh.back]
      rw [if_pos (by omega), show σ.length + (base + (i - σ.length) - base) = i by omega]
      exact hm
  have hfp : ∀ j, j < hs'.length → (g.back g' σ base (hs'.length - σ.length)).fp (fwd σ base j) = g'.fp j := by
    intro j hj
    by_cases hi : j < σ.length
    · have hs0 : σ[j]? = some σ[j] := List.getElem?_eq_getElem hi
      rw [hfwd1 hs0]
      simp only [Gh.back, pos_of hnd hs0]
    · rw [hfwd2 (by omega)]
      have hno : base + (j - σ.length) ∉ σ := fun hm => by have := hσb _ hm; omega
      simp only [Gh.back, pos_none hno]
      rw [if_pos (by omega), show σ.length + (base + (j - σ.length) - base) = j by omega]
  -- an object that is touched or new, and lives
  have key : ∀ i, (i ∈ σ ++ τ ∨ isNew base (hs'.length - σ.length) i) → ((callRes σ τ base r hs').app base h i).live = true → ∃ j, j < hs'.length ∧ (hx hs' j).live = true ∧ i = fwd σ base j ∧ (callRes σ τ base r hs').app base h i = (hx hs' j).ren (fwd σ base) := by
    intro i hi hlv
    have ha := happ i
    cases hp : pos σ i with
    | some j =>
      simp only [hp] at ha
      rw [ha, live_ren] at hlv
      exact ⟨j, hx_live hlv, hlv, (hfwd1 (pos_ok hp)).symm, ha⟩
    | none =>
      simp only [hp] at ha
      by_cases hit : i ∈ τ
      · rw [if_pos hit] at ha; rw [ha] at hlv; cases hlv
      · rw [if_neg hit] at ha
        have hnewi : isNew base (hs'.length - σ.length) i := by
          rcases hi with hi | hi
          · rcases List.mem_append.1 hi with hi | hi
            · exfalso
              obtain ⟨j, hj, hji⟩ := List.mem_iff_getElem.1 hi
              have : pos σ i = some j := pos_of hnd (by rw [List.getElem?_eq_getElem hj, hji])
              rw [hp] at this; cases this
            · exact absurd hi hit
          · exact hi
        rw [if_pos (show base ≤ i ∧ i < base + (hs'.length - σ.length) from hnewi)] at ha
        rw [ha, live_ren] at hlv
        obtain ⟨n1, n2⟩ := hnewi
        exact ⟨_, by omega, hlv, by rw [hfwd2 (by omega)]; omega, ha⟩
  have hg : Go1 w g h (callRes σ τ base r hs').ids base (callRes σ τ base r hs').nw.length w' (g.back g' σ base (hs'.length - σ.length)) ((callRes σ τ base r hs').app base h) := by
    rw [hids, hnwl]
    refine ⟨hF.keeps.mono (fun b _ hb => own_tch b hb), ⟨fun b hb => hF.I b (.inl hb), fun i l hm => ?_⟩, fun b hb => ?_, fun i hi hn => ?_, fun i hi hn => ?_, fun i b hi hlv hb => ?_⟩
    · simp only [Gh.back]
      by_cases hn : base ≤ i ∧ i < base + (hs'.length - σ.length)
      · rw [(hnew i hn).1] at hm; cases hm
      · rw [if_neg hn]; exact hm
    · rcases hF.In b hb with (hb | ⟨k, k1, k2, k3⟩) | hb | hb
      · exact .inl hb
      · exact .inr (.inl ⟨k, by simp [k1], k2, k3⟩)
      · exact .inr (.inl (own_tch b hb))
      · exact .inr (.inr hb)
    · simp only [Gh.back]; rw [if_neg (show ¬ (base ≤ i ∧ i < base + (hs'.length - σ.length)) from hi)]; exact hn
    · have : i ∉ σ := fun hm => hi (by simp [hm])
      simp only [Gh.back, pos_none this]
      rw [if_neg (show ¬ (base ≤ i ∧ i < base + (hs'.length - σ.length)) from hn)]
    · obtain ⟨j, j1, j2, rfl, j3⟩ := key i hi hlv
      rw [hfp j j1] at hb
      rcases hF.own b ⟨j, j2, hb⟩ with h | h
      · exact .inl (own_tch b h)
      · exact .inr h
  refine ⟨?_, hg, hμ⟩
  rw [hids, hnwl] at hg
  refine hR.step hg (fun i hi hn => ?_) (fun i hi => by rw [(hnew i hi).2]; rfl) (fun i hi hlv => ?_) (fun i i' b hi hi' hlv hlv' hb hb' => ?_) (fun i b hi hlv hb hI => ?_) (fun b hb => hR'.lt b hb)
  · rw [happ]
    have h1 : i ∉ σ := fun hm => hi (by simp [hm])
    have h2 : i ∉ τ := fun hm => hi (by simp [hm])
    simp only [pos_none h1]
    rw [if_neg h2, if_neg (show ¬ (base ≤ i ∧ i < base + (hs'.length - σ.length)) from hn)]
  · obtain ⟨j, j1, j2, rfl, j3⟩ := key i hi hlv
    rw [j3]
    refine renO_ok (g := g') (g2 := g.back g' σ base (hs'.length - σ.length)) (fun b hb => hb) hμ (hfp j j1) (hR'.objs j j2) ?_
    have hm : hx hs' j ∈ hs' := by simp only [hx, List.getD_eq_getElem?_getD, List.getElem?_eq_getElem j1]; exact List.getElem_mem _
    exact List.all_eq_true.1 hok _ hm
  · obtain ⟨j, j1, j2, rfl, j3⟩ := key i hi hlv
    obtain ⟨k, k1, k2, rfl, k3⟩ := key i' hi' hlv'
    rw [hfp j j1] at hb
    rw [hfp k k1] at hb'
    rw [hR'.disj j k b j2 k2 hb hb']
  · obtain ⟨j, j1, j2, rfl, j3⟩ := key i hi hlv
    rw [hfp j j1] at hb
    exact hR'.imm j b j2 hb hI
end

section
variable {P : Program} {N : Nat} {o : Oper} {ρ : Env} {ts : List Nat} {hl : List Ob}
/-- The operation is a call of function f; these are the arguments' values. -/
def CallOf (P : Program) (o : Oper) (ρ : Env) (ts : List Nat) (f : FuncId) (avs : List V) : Prop :=
  ∀ (a : Act) (w : World) (g : Gh), EnvOn w g a ρ ts → (∃ fn, P.funcs[f]? = some fn ∧ fn.body.isSome = true ∧ fn.name ≠ "runtime.NumGoroutine") → ∃ args : Array Value, args.size = avs.length ∧ (∀ (j : Nat) v x, args[j]? = some v → avs[j]? = some x → RV w g v x) ∧ (execOp a.eval o).run P w = .ok (.enter f args) w
theorem run_callFunc {f : FuncId} (hf : ∃ fn, P.funcs[f]? = some fn ∧ fn.body.isSome = true ∧ fn.name ≠ "runtime.NumGoroutine") (args : Array Value) (w : World) : (callFunc f args).run P w = .ok (.enter f args) w := by
  obtain ⟨fn, h1, h2, h3⟩ := hf
  cases hb : fn.body with
  | none => rw [hb] at h2; cases h2
  | some c => simp [callFunc, h1, h3, hb]
theorem callOf_fn {c : Call} {f : FuncId} {axs : List AX} {avs : List V} (ho : o.op = .call c) (hc : c.callee = .value (.func f)) (h1 : listM trX c.args.toList = some axs) (t1 : ∀ y ∈ axs, ∀ t ∈ y.ts, t ∈ ts) (h2 : evs ρ axs = some avs) : CallOf P o ρ ts f avs := by
  intro a w g he hf
  obtain ⟨i1, i2⟩ := evs_ok h1 he t1 h2
  refine ⟨c.args.map a.eval, by simpa using i1.symm, fun j v x hv hx => ?_, ?_⟩
  · obtain ⟨y, y1, y2⟩ := i2 j x hx
    have : c.args[j]? = some y := by simpa using y1
    rw [Array.getElem?_map, this] at hv
    cases hv
    exact y2
  · have hev : a.eval (.func f) = .func (.func f) #[] #[] := rfl
    simp [execOp, ho, resolve, hc, hev, Deferred.ofValue, invoke, run_callFunc hf]
theorem callOf_val {c : Call} {x : Operand} {ax : AX} {f : FuncId} {cs : List C} {axs : List AX} {avs : List V} (ho : o.op = .call c) (hc : c.callee = .value x) (hx : trX x = some ax) (tx : ∀ t ∈ ax.ts, t ∈ ts) (hv : ev ρ ax = some (vC (.fn f cs))) (h1 : listM trX c.args.toList = some axs) (t1 : ∀ y ∈ axs, ∀ t ∈ y.ts, t ∈ ts)
    (h2 : evs ρ axs = some avs) : CallOf P o ρ ts f (avs ++ cs.map vC) := by
  intro a w g he hf
  obtain ⟨i1, i2⟩ := evs_ok h1 he t1 h2
  have r1 := rv_c (ev_ok hx he tx hv)
  generalize hxv : a.eval x = u at *
  cases r1 with
  | fn _ caps _ hs hc' =>
    have hl1 : (c.args.map a.eval).size = avs.length := by simpa using i1.symm
    refine ⟨c.args.map a.eval ++ caps, by simp [hs, i1], fun j v x hv hx => ?_, ?_⟩
    · by_cases hj : j < avs.length
      · rw [List.getElem?_append_left hj] at hx
        rw [Array.getElem?_append_left (by omega)] at hv
        obtain ⟨y, y1, y2⟩ := i2 j x hx
        have : c.args[j]? = some y := by simpa using y1
        rw [Array.getElem?_map, this] at hv
        cases hv
        exact y2
      · rw [List.getElem?_append_right (by omega)] at hx
        rw [Array.getElem?_append_right (by omega), hl1] at hv
        rw [List.getElem?_map] at hx
        cases hcj : cs[j - avs.length]? with
        | none => simp [hcj] at hx
        | some c0 => simp [hcj] at hx; subst hx; exact .e (.c (hc' _ _ _ hv hcj))
    · simp [execOp, ho, resolve, hc, hxv, Deferred.ofValue, invoke, run_callFunc hf]
theorem callOf_bm {c : Call} {x : Operand} {ax : AX} {f : FuncId} {id off : Nat} {axs : List AX} {avs : List V} (ho : o.op = .call c) (hc : c.callee = .value x) (hx : trX x = some ax) (tx : ∀ t ∈ ax.ts, t ∈ ts) (hv : ev ρ ax = some (vC (.bm f id off))) (h1 : listM trX c.args.toList = some axs) (t1 : ∀ y ∈ axs, ∀ t ∈ y.ts, t ∈ ts)
    (h2 : evs ρ axs = some avs) : CallOf P o ρ ts f (vC (.ptr id off) :: avs) := by
  intro a w g he hf
  obtain ⟨i1, i2⟩ := evs_ok h1 he t1 h2
  have r1 := rv_c (ev_ok hx he tx hv)
  generalize hxv : a.eval x = u at *
  cases r1 with
  | bm _ _ hm hn =>
    rename_i l
    refine ⟨#[.pointer (some ⟨l.blk, off, none⟩)] ++ c.args.map a.eval, by simp [i1, Nat.add_comm], fun j v x hv hx => ?_, ?_⟩
    · cases j with
      | zero =>
        have hv : some (Value.pointer (some ⟨l.blk, off, none⟩)) = some v := by rw [← hv, Array.getElem?_append_left (by simp)]; rfl
        cases hv
        cases hx
        exact .e (.c (.ptr off hm hn))
      | succ j =>
        rw [List.getElem?_cons_succ] at hx
        obtain ⟨y, y1, y2⟩ := i2 j x hx
        have : c.args[j]? = some y := by simpa using y1
        rw [Array.getElem?_append_right (by simp)] at hv
        simp only [List.size_toArray, List.length_cons, List.length_nil, Nat.zero_add, Nat.add_sub_cancel] at hv
        rw [Array.getElem?_map, this] at hv
        cases hv
        exact y2
    · simp [execOp, ho, resolve, hc, hxv, Deferred.ofValue, invoke, run_callFunc hf]
theorem s_call {f : FuncId} {avs vs : List V} {σ τ : List Nat} {hs hs' : List Ob} {r : V} (hcall : CallOf P o ρ ts f avs) (hbv : listM (V.bk σ τ hl) avs = some vs) (hvw : ∀ v ∈ avs, v.Vw σ τ hl) (hbo : listM (Ob.bk σ hl) (σ.map (hx hl)) = some hs) (hfn : FnOk P f vs hs r hs')
    (hnd : (σ ++ τ).Nodup) (hlt : (σ ++ τ).all (fun i => decide (i < hl.length)) = true) (hok : hs'.all Ob.ok = true) (hrok : r.ok = true) : OpR P N o ρ ts hl (callRes σ τ hl.length r hs') := by
  intro a w g h hN hrd hnew hR he
  obtain ⟨args, a1, a2, a3⟩ := hcall a w g he hfn.1
  have hnds := List.nodup_append.1 hnd
  have hlt' : ∀ i ∈ σ ++ τ, i < hl.length := fun i hi => by simpa using List.all_eq_true.1 hlt i hi
  have ht : ∀ i ∈ τ, h i = hx hl i := fun i hi => hrd i (.inl (by simp [callRes, hi]))
  have hσ : ∀ i ∈ σ, h i = hx hl i := fun i hi => hrd i (.inl (by simp [callRes, hi]))
  have hsub : Rl w (g.sub h σ τ) (hx hs) := hR.sub ht hσ hnds.1 (fun i hi hj => hnds.2.2 i hi i hj rfl) hbo
  obtain ⟨k1, k2⟩ := listM_ok hbv
  have hlen : hs.length = σ.length := by rw [← (listM_ok hbo).1]; simp
  have hc := hfn.2 w (g.sub h σ τ) args hsub (fun i hi => by simp [Gh.sub, List.getElem?_eq_none (show σ.length ≤ i by omega)]) (by rw [a1, k1]) (fun j v x hv hx => by
    obtain ⟨b, b1, b2⟩ := k2 j x hx
    exact bkV_ok hR ht (a2 j v b hv b1) (hvw b (List.mem_of_getElem? b1)) b2)
  unfold Oper.wp
  rw [a3, Oper.upon_enter]
  refine hc.mono fun e w' hpost => ?_
  obtain ⟨v, g', rfl, p1, p2, p3⟩ := hpost
  have hnwl : (callRes σ τ hl.length r hs').nw.length = hs'.length - σ.length := by simp [callRes]
  rw [hnwl] at hnew
  obtain ⟨q1, q2, q3⟩ := call_ok (r := r) hR ht hσ hnds.1 (fun i hi => hlt' i (by simp [hi])) hbo p2 p3 hok hnew (fun i hi => hlt' i (by simp [hi]))
  exact ⟨v, g.back g' σ hl.length (hs'.length - σ.length), rfl, renV_ok (g := g') (g2 := g.back g' σ hl.length (hs'.length - σ.length)) (fun b hb => hb) q3 p1 hrok, q1, q2⟩
/-- A value that leads nowhere. -/
def C.plain : C → Bool
  | .t (.int _ _) => true
  | .t (.bool _) => true
  | .t (.str _) => true
  | .nilp => true
  | .nilm => true
  | .nilf => true
  | _ => false
def E.plain : E → Bool
  | .c x => x.plain
  | .agg cs => cs.all C.plain
def V.plain : V → Bool
  | .e x => x.plain
  | .tup es => es.all E.plain
  | .u => true
theorem plainC {w w' : World} {g g' : Gh} {v : Value} {c : C} (h : RC w g v c) (hp : c.plain = true) : RC w' g' v c := by
  cases h with
  | t h => cases h <;> first | exact .t (.int _ _) | exact .t (.bool _) | exact .t (.str _) | cases hp
  | nilp => exact .nilp
  | nilm => exact .nilm
  | nilf => exact .nilf
  | _ => cases hp
theorem plainE {w w' : World} {g g' : Gh} {v : Value} {c : E} (h : RE w g v c) (hp : c.plain = true) : RE w' g' v c := by
  cases h with
  | c h => exact .c (plainC h hp)
  | agg arr cs hs h =>
    refine .agg arr cs hs fun j c hj => ?_
    obtain ⟨u, u1, u2⟩ := h j c hj
    exact ⟨u, u1, plainC u2 (List.all_eq_true.1 hp c (List.mem_of_getElem? hj))⟩
theorem plainV {w w' : World} {g g' : Gh} {v : Value} {c : V} (h : RV w g v c) (hp : c.plain = true) : RV w' g' v c := by
  cases h with
  | e h => exact .e (plainE h hp)
  | tup arr cs hs h =>
    refine .tup arr cs hs fun j c hj => ?_
    obtain ⟨u, u1, u2⟩ := h j c hj
    exact ⟨u, u1, plainE u2 (List.all_eq_true.1 hp c (List.mem_of_getElem? hj))⟩
  | u => exact .u
/-- A call whose result leads nowhere: what it is lent stays. -/
theorem s_lend {f : FuncId} {avs vs : List V} {τ : List Nat} {r : V} (hcall : CallOf P o ρ ts f avs) (hbv : listM (V.bk [] τ hl) avs = some vs) (hvw : ∀ v ∈ avs, v.Vw [] τ hl) (hfn : FnOk P f vs [] r []) (hp : r.plain = true) : OpR P N o ρ ts hl { v := r, rd := τ } := by
  intro a w g h hN hrd hnew hR he
  obtain ⟨args, a1, a2, a3⟩ := hcall a w g he hfn.1
  have ht : ∀ i ∈ τ, h i = hx hl i := fun i hi => hrd i (.inl hi)
  have hsub : Rl w (g.sub h [] τ) (hx []) := hR.sub ht (fun i hi => by cases hi) List.nodup_nil (fun i hi => by cases hi) rfl
  obtain ⟨k1, k2⟩ := listM_ok hbv
  have hc := hfn.2 w (g.sub h [] τ) args hsub (fun i hi => by simp [Gh.sub]) (by rw [a1, k1]) (fun j v x hv hx => by
    obtain ⟨b, b1, b2⟩ := k2 j x hx
    exact bkV_ok hR ht (a2 j v b hv b1) (hvw b (List.mem_of_getElem? b1)) b2)
  unfold Oper.wp
  rw [a3, Oper.upon_enter]
  refine hc.mono fun e w' hpost => ?_
  obtain ⟨v, g', rfl, p1, p2, p3⟩ := hpost
  have hk : Keeps Nope w w' := p3.keeps.mono fun b _ hb => by
    obtain ⟨i, hi, _⟩ := hb
    have := hx_live hi
    simp at this
  have hgo : Go1 w g h [] hl.length 0 w' g h := ⟨hk.mono (fun _ _ f => f.elim), Gm.refl g, fun b hb => .inl hb, fun _ _ hn => hn, fun _ _ _ => rfl, fun i b hi => by simp [isNew] at hi; omega⟩
  refine ⟨v, g, rfl, plainV p1 hp, ?_, ?_⟩
  · rw [app_none rfl rfl]
    exact hR.step hgo (fun _ _ _ => rfl) (fun i hi => by simp [isNew] at hi; omega) (fun i hi => by simp [isNew] at hi; omega) (fun i j c hi => by simp [isNew] at hi; omega) (fun i c hi => by simp [isNew] at hi; omega) (fun b hb => Nat.lt_of_lt_of_le (hR.lt b hb) hk.size)
  · rw [app_none rfl rfl]
    exact hgo
end
end Go.Proofs.YthddlkhfkncgpaaGreat
set_option linter.unusedVariables false
set_option linter.unusedSimpArgs false
namespace Go.Proofs.YthddlkhfkncgpaaGreat
open Go.RowKit

def pt (d : Option Nat) (v : V) (ρ : Env) : Env := match d with
  | some t => (t, v) :: ρ
  | none => ρ
def setAll (hl : List Ob) : List (Nat × Ob) → List Ob
  | [] => hl
  | (i, o) :: r => (setAll hl r).set i o
def appL (s : Res) (hl : List Ob) : List Ob := setAll hl s.wr ++ s.nw
structure Ft where
  rd : List Nat
  wr : List Nat
  base : Nat
  n : Nat
def Res.ft (s : Res) (base : Nat) : Ft := ⟨s.rd, s.ids, base, s.nw.length⟩
def grdB (ρ : Env) : Option (Nat × Bool) → Option Bool
  | none => some true
  | some (t, want) => match get ρ t with
    | some (.e (.c (.t (.bool b)))) => some (b == want)
    | some .u => some false
    | _ => none
/-- The operation's step. -/
def OpS (P : Program) (N : Nat) (ao : AOp) (ρ : Env) (hl : List Ob) (s : Res) : Prop := (∀ i ∈ s.ids, i < hl.length) ∧ ∀ o : Oper, trOp P o = some ao → OpR P N o ρ ao.ts hl s
def noRes : Res := { v := .u }
/-- Steps of operations in the text's order. -/
def Rg (P : Program) (N : Nat) : List AO → Env → List Ob → List Ft → (Env → List Ob → List Ft → Prop) → Prop
  | [], ρ, hl, fs, K => K ρ hl fs
  | o :: os, ρ, hl, fs, K =>
    (grdB ρ o.grd = some false ∧ Rg P N os (pt o.dst .u ρ) hl (fs ++ [noRes.ft hl.length]) K) ∨
    (grdB ρ o.grd = some true ∧ ∃ s : Res, OpS P N o.op ρ hl s ∧ Rg P N os (pt o.dst s.v ρ) (appL s hl) (fs ++ [s.ft hl.length]) K)

theorem Rg.mono' {P : Program} {N : Nat} : ∀ {os : List AO} {ρ : Env} {hl : List Ob} {fs : List Ft} {K K' : Env → List Ob → List Ft → Prop}, Rg P N os ρ hl fs K → (∀ ρ hl fs, K ρ hl fs → K' ρ hl fs) → Rg P N os ρ hl fs K'
  | [], ρ, hl, fs, K, K', h, hK => hK _ _ _ h
  | o :: os, ρ, hl, fs, K, K', h, hK => by
    rcases h with ⟨h1, h2⟩ | ⟨h1, s, h2, h3⟩
    · exact .inl ⟨h1, Rg.mono' h2 hK⟩
    · exact .inr ⟨h1, s, h2, Rg.mono' h3 hK⟩
theorem setAll_length (hl : List Ob) : ∀ (wr : List (Nat × Ob)), (setAll hl wr).length = hl.length
  | [] => rfl
  | (i, o) :: r => by simp [setAll, setAll_length hl r]
theorem appL_length (s : Res) (hl : List Ob) : (appL s hl).length = hl.length + s.nw.length := by simp [appL, setAll_length]
theorem setAll_get (hl : List Ob) : ∀ (wr : List (Nat × Ob)), (∀ i ∈ wr.map (·.1), i < hl.length) → ∀ i, hx (setAll hl wr) i = match getO wr i with | some o => o | none => hx hl i
  | [], _, i => rfl
  | (j, o) :: r, hw, i => by
    have ih := setAll_get hl r (fun k hk => hw k (by simp at hk ⊢; exact .inr hk)) i
    simp only [setAll, getO]
    have hj : j < hl.length := hw j (by simp)
    by_cases h : j = i
    · subst h
      simp [hx, List.getD_eq_getElem?_getD, setAll_length, hj]
    · rw [if_neg h, ← ih]
      simp [hx, List.getD_eq_getElem?_getD, List.getElem?_set_ne h]
theorem appL_get {s : Res} {hl : List Ob} (hw : ∀ i ∈ s.ids, i < hl.length) : hx (appL s hl) = s.app hl.length (hx hl) := by
  funext i
  have hs := setAll_get hl s.wr hw i
  have hgl : hl.length ≤ i → getO s.wr i = none := fun hi => by
    have : ∀ (wr : List (Nat × Ob)), (∀ k ∈ wr.map (·.1), k < hl.length) → getO wr i = none := by
      intro wr
      induction wr with
      | nil => intro _; rfl
      | cons p r ih =>
        intro hk
        obtain ⟨j, o⟩ := p
        have := hk j (by simp)
        simp only [getO]
        rw [if_neg (by omega)]
        exact ih (fun k hk' => hk k (by simp at hk' ⊢; exact .inr hk'))
    exact this s.wr hw
  simp only [Res.app, appL]
  by_cases hi : i < hl.length
  · have : hx (setAll hl s.wr ++ s.nw) i = hx (setAll hl s.wr) i := by
      simp [hx, List.getD_eq_getElem?_getD, List.getElem?_append_left (show i < (setAll hl s.wr).length by rw [setAll_length]; exact hi)]
    rw [this, hs]
    cases getO s.wr i with
    | some o => rfl
    | none => simp only; rw [if_neg (by omega)]
  · rw [hgl (by omega)]
    simp only
    rw [if_pos (by omega)]
    have : hx (setAll hl s.wr ++ s.nw) i = (s.nw[i - hl.length]?).getD .dead := by
      simp [hx, List.getD_eq_getElem?_getD, List.getElem?_append_right (show (setAll hl s.wr).length ≤ i by rw [setAll_length]; omega), setAll_length]
    rw [this]
    cases s.nw[i - hl.length]? with
    | some o => rfl
    | none => simp [hx, List.getD_eq_getElem?_getD, List.getElem?_eq_none (show hl.length ≤ i by omega)]

/-- What the temporaries hold. -/
def EnvAll (w : World) (g : Gh) (a : Act) (ρ : Env) : Prop := ∀ t v, get ρ t = some v → RV w g (a.eval (.tmp t)) v
theorem EnvAll.on {w : World} {g : Gh} {a : Act} {ρ : Env} (h : EnvAll w g a ρ) (ts : List Nat) : EnvOn w g a ρ ts := fun t _ v hv => h t v hv
/-- How far one has come. -/
structure Frl (w0 : World) (g0 : Gh) (h0 : Nat → Ob) (n0 : Nat) (w : World) (g : Gh) (h : Nat → Ob) : Prop where
  keeps : Keeps (Own g0 h0) w0 w
  I : ∀ b, g0.I b → g.I b
  In : ∀ b, g.I b → g0.I b ∨ Own g0 h0 b ∨ w0.heap.size ≤ b
  μ : ∀ i, i < n0 → g.μ i = g0.μ i
  own : ∀ b, Own g h b → Own g0 h0 b ∨ w0.heap.size ≤ b
theorem Frl.refl (w : World) (g : Gh) (h : Nat → Ob) (n0 : Nat) : Frl w g h n0 w g h := ⟨Keeps.refl _ _, fun _ h => h, fun _ h => .inl h, fun _ _ => rfl, fun _ h => .inl h⟩
theorem Frl.trans {w0 w w' : World} {g0 g g' : Gh} {h0 h h' : Nat → Ob} {n0 n : Nat} (a : Frl w0 g0 h0 n0 w g h) (b : Frl w g h n w' g' h') (hn : n0 ≤ n) : Frl w0 g0 h0 n0 w' g' h' := by
  have hown : ∀ b, Own g h b → b < w0.heap.size → Own g0 h0 b := fun b hb hlt => by
    rcases a.own b hb with h | h
    · exact h
    · omega
  refine ⟨a.keeps.then b.keeps (fun i hi hg => hown i hg hi), fun c hc => b.I c (a.I c hc), fun c hc => ?_, fun i hi => (b.μ i (by omega)).trans (a.μ i hi), fun c hc => ?_⟩
  · rcases b.In c hc with h | h | h
    · exact a.In c h
    · rcases a.own c h with h | h
      · exact .inr (.inl h)
      · exact .inr (.inr h)
    · exact .inr (.inr (Nat.le_trans a.keeps.size h))
  · rcases b.own c hc with h | h
    · exact a.own c h
    · exact .inr (Nat.le_trans a.keeps.size h)
theorem Frl.step {w0 w w' : World} {g0 g g' : Gh} {h0 h h' : Nat → Ob} {n0 base n : Nat} {ids : List Nat} (a : Frl w0 g0 h0 n0 w g h) (b : Go1 w g h ids base n w' g' h') (hn : n0 ≤ base) (hsame : ∀ i, i ∉ ids → ¬ isNew base n i → h' i = h i) : Frl w0 g0 h0 n0 w' g' h' := by
  have htch : ∀ c, Tch g h ids c → Own g h c := fun c ⟨i, _, h1, h2⟩ => ⟨i, h1, h2⟩
  refine a.trans (n := base) ⟨b.keeps.mono (fun c _ hc => htch c hc), b.gm.I, fun c hc => ?_, fun i hi => ?_, fun c hc => ?_⟩ hn
  · rcases b.In c hc with h | h | h
    · exact .inl h
    · exact .inr (.inl (htch c h))
    · exact .inr (.inr h)
  · cases hm : g.μ i with
    | some l => exact b.gm.μ i l hm
    | none => exact b.μn i (by unfold isNew; omega) hm
  · obtain ⟨i, h1, h2⟩ := hc
    by_cases hi : i ∈ ids ∨ isNew base n i
    · rcases b.fpn i c hi h1 h2 with h | h
      · exact .inl (htch c h)
      · exact .inr h
    · have h3 : i ∉ ids := fun h => hi (.inl h)
      have h4 : ¬ isNew base n i := fun h => hi (.inr h)
      rw [hsame i h3 h4] at h1
      rw [b.fp i h3 h4] at h2
      exact .inl ⟨i, h1, h2⟩
theorem app_same {s : Res} {base : Nat} {h : Nat → Ob} {i : Nat} (h1 : i ∉ s.ids) (h2 : ¬ isNew base s.nw.length i) : s.app base h i = h i := by
  have : ∀ (wr : List (Nat × Ob)), i ∉ wr.map (·.1) → getO wr i = none := by
    intro wr
    induction wr with
    | nil => intro _; rfl
    | cons p r ih =>
      intro hk
      simp only [List.map_cons, List.mem_cons, not_or] at hk
      simp only [getO]
      rw [if_neg (fun e => hk.1 e.symm)]
      exact ih hk.2
  simp only [Res.app, this s.wr h1]
  by_cases hb : base ≤ i
  · rw [if_pos hb, List.getElem?_eq_none (by unfold isNew at h2; omega)]
  · rw [if_neg hb]
theorem get_pt {d : Option Nat} {v : V} {ρ : Env} {t : Nat} : get (pt d v ρ) t = if d = some t then some v else get ρ t := by
  cases d with
  | none => simp [pt]
  | some k =>
    simp only [pt, get]
    by_cases h : k = t
    · subst h; simp
    · rw [beqF h]; simp [h]
theorem eval_put {a : Act} {d : Option Nat} {u : Value} {t : Nat} (hd : ∀ k, d = some k → k < a.tmps.size) : (a.put d u).eval (.tmp t) = if d = some t then u else a.eval (.tmp t) := by
  cases d with
  | none => simp [Act.put]
  | some k =>
    have hk := hd k rfl
    simp only [Act.eval, Act.put]
    by_cases h : k = t
    · subst h; simp [hk]
    · have : ¬ some k = some t := fun e => h (Option.some.inj e)
      rw [if_neg this]
      simp [Array.getElem?_setIfInBounds_ne h]
theorem EnvAll.put {w w' : World} {g g' : Gh} {a : Act} {ρ : Env} {d : Option Nat} {u : Value} {v : V} (h : EnvAll w g a ρ) (hs : Same g.I w w') (hg : Gm g g') (hu : RV w' g' u v) (hd : ∀ k, d = some k → k < a.tmps.size) : EnvAll w' g' (a.put d u) (pt d v ρ) := by
  intro t x hx
  rw [get_pt] at hx
  rw [eval_put hd]
  by_cases h1 : d = some t
  · rw [if_pos h1] at hx ⊢
    cases hx; exact hu
  · rw [if_neg h1] at hx ⊢
    exact (h t x hx).more hs hg
/-- A guard is as the temporaries say. -/
theorem grd_ok {P : Program} {N : Nat} {ops : Array Oper} {o : Oper} {ao : AO} (h : trO P N ops o = some ao) {w : World} {g : Gh} {a : Act} {ρ : Env} (he : ∀ t want, ao.grd = some (t, want) → ∀ v, get ρ t = some v → RV w g (a.eval (.tmp t)) v) {b : Bool} (hb : grdB ρ ao.grd = some b) : Region.wanted o (yielded ops a.tmps) = b := by
  unfold trO at h
  split at h
  · cases h
  · split at h
    · split at h
      · rename_i hg
        cases h
        simp only [grdB] at hb
        cases hb
        simp [Region.wanted, hg]
      · rename_i j want hg
        split at h
        · rename_i t ht
          cases h
          simp only [grdB] at hb
          simp only [Region.wanted, hg, yielded, ht, Option.bind_some]
          split at hb
          · rename_i c hc
            cases hb
            have := rv_bool (he t want rfl _ hc)
            simp only [Act.eval, Array.getD_eq_getD_getElem?] at this
            cases hx : a.tmps[t]? with
            | none => simp [hx] at this; unfold undef at this; cases this
            | some u =>
              simp [hx] at this
              subst this
              simp
          · rename_i hc
            cases hb
            have := he t want rfl _ hc
            simp only [Act.eval, Array.getD_eq_getD_getElem?] at this
            cases hx : a.tmps[t]? with
            | none => simp
            | some u =>
              simp [hx] at this
              cases this
              simp [undef]
          · cases hb
        · cases h
    · cases h
theorem trO_op {P : Program} {N : Nat} {ops : Array Oper} {o : Oper} {ao : AO} (h : trO P N ops o = some ao) : trOp P o = some ao.op ∧ o.dst = ao.dst ∧ ∀ k, ao.dst = some k → k < N := by
  unfold trO at h
  split at h
  · cases h
  · rename_i op hop
    split at h
    · rename_i hd
      have hk : ∀ k, o.dst = some k → k < N := fun k hk => by rw [hk] at hd; simpa [dstB] using hd
      split at h
      · cases h; exact ⟨hop, rfl, hk⟩
      · split at h
        · cases h; exact ⟨hop, rfl, hk⟩
        · cases h
    · cases h

section
variable {P : Program} {N : Nat} {ops : Array Oper}
/-- In the text's order. -/
theorem rg_text : ∀ (os : List Oper) (aos : List AO) (k : Nat) (ρ : Env) (hl : List Ob) (fs : List Ft) (K : Env → List Ob → List Ft → Prop) (a : Act) (w : World) (g : Gh) (a0 : Act) (w0 : World) (g0 : Gh) (h0 : Nat → Ob) (n0 : Nat),
    (∀ j, j < os.length → ops[k + j]? = os[j]?) → listM (trO P N ops) os = some aos → Rg P N aos ρ hl fs K → a.tmps.size = N → a.defers = a0.defers → Rl w g (hx hl) → (∀ i, hl.length ≤ i → g.μ i = none) → EnvAll w g a ρ → Frl w0 g0 h0 n0 w g (hx hl) → n0 ≤ hl.length →
    ∀ (R : Exit → Act → World → Prop), (∀ a' w' ρ' hl' fs' g', K ρ' hl' fs' → a'.tmps.size = N → a'.defers = a0.defers → Rl w' g' (hx hl') → (∀ i, hl'.length ≤ i → g'.μ i = none) → EnvAll w' g' a' ρ' → Frl w0 g0 h0 n0 w' g' (hx hl') → n0 ≤ hl'.length → R .normal a' w') →
    wpOps P ops R ((List.range' k os.length)) a w
  | [], aos, k, ρ, hl, fs, K, a, w, g, a0, w0, g0, h0, n0, hops, htr, hrg, hN, hdf, hR, hμ, he, hF, hn0, R, hend => by
    simp [listM] at htr
    subst htr
    exact hend a w ρ hl fs g hrg hN hdf hR hμ he hF hn0
  | o :: os, aos, k, ρ, hl, fs, K, a, w, g, a0, w0, g0, h0, n0, hops, htr, hrg, hN, hdf, hR, hμ, he, hF, hn0, R, hend => by
    unfold listM at htr
    cases hto : trO P N ops o with
    | none => simp [hto] at htr
    | some ao => cases htl : listM (trO P N ops) os with
      | none => simp [hto, htl] at htr
      | some aos' =>
        simp [hto, htl] at htr
        subst htr
        have hk : ops[k]? = some o := by have := hops 0 (by simp); simpa using this
        have hnext : ∀ j, j < os.length → ops[k + 1 + j]? = os[j]? := fun j hj => by have := hops (j + 1) (by simp; omega); rw [show k + 1 + j = k + (j + 1) by omega, this]; simp
        obtain ⟨t1, t2, t3⟩ := trO_op hto
        have hd : ∀ q, o.dst = some q → q < a.tmps.size := fun q hq => by rw [hN]; exact t3 q (t2 ▸ hq)
        simp only [List.length_cons, List.range'_succ, wpOps, hk]
        rcases hrg with ⟨hg, hrg⟩ | ⟨hg, s, hs, hrg⟩
        · have hw := grd_ok hto (fun t want _ v hv => he t v hv) hg
          rw [hw]
          simp only [Bool.false_eq_true, if_false]
          refine rg_text os aos' (k + 1) _ hl _ K (a.put o.dst undef) w g a0 w0 g0 h0 n0 hnext htl hrg (by rw [put_size]; exact hN) (by rw [put_defers]; exact hdf) hR hμ ?_ hF hn0 R hend
          rw [← t2]
          exact he.put (fun _ _ => rfl) (Gm.refl g) .u hd
        · have hw := grd_ok hto (fun t want _ v hv => he t v hv) hg
          rw [hw]
          simp only [if_true]
          left
          have hr := hs.2 o t1 a w g (hx hl) hN (fun _ _ => rfl) (fun i hi => ⟨hμ i hi.1, by simp [hx, List.getD_eq_getElem?_getD, List.getElem?_eq_none hi.1]⟩) hR (he.on _)
          refine wp_widen (Oper.wp_mono (fun a' w' h => ?_) hr)
          obtain ⟨u, g', rfl, hv, hR', hgo⟩ := h
          have happ := appL_get hs.1
          refine rg_text os aos' (k + 1) _ (appL s hl) _ K (a.put o.dst u) w' g' a0 w0 g0 h0 n0 hnext htl hrg (by rw [put_size]; exact hN) (by rw [put_defers]; exact hdf) (by rw [happ]; exact hR') (fun i hi => ?_) ?_ ?_ (by rw [appL_length]; omega) R hend
          · rw [appL_length] at hi
            exact hgo.μn i (by unfold isNew; omega) (hμ i (by omega))
          · rw [← t2]
            exact he.put (hgo.same hR) hgo.gm hv hd
          · rw [happ]
            exact hF.step hgo hn0 (fun i h1 h2 => app_same h1 h2)
end
end Go.Proofs.YthddlkhfkncgpaaGreat
set_option linter.unusedVariables false
set_option linter.unusedSimpArgs false
namespace Go.Proofs.YthddlkhfkncgpaaGreat
open Go.RowKit

def envs (aos : List AO) (ss : Nat → Res) (ρ : Env) : Nat → Env
  | 0 => ρ
  | k + 1 => match aos[k]? with
    | some o => pt o.dst (ss k).v (envs aos ss ρ k)
    | none => envs aos ss ρ k
def heaps (ss : Nat → Res) (hl : List Ob) : Nat → List Ob
  | 0 => hl
  | k + 1 => appL (ss k) (heaps ss hl k)
def fts (ss : Nat → Res) (hl : List Ob) (n : Nat) : List Ft := (List.range n).map fun k => (ss k).ft (heaps ss hl k).length
theorem envs_succ (o : AO) (os : List AO) (ss : Nat → Res) (ρ : Env) : ∀ k, envs (o :: os) ss ρ (k + 1) = envs os (fun k => ss (k + 1)) (pt o.dst (ss 0).v ρ) k
  | 0 => by simp [envs]
  | k + 1 => by
    have ih := envs_succ o os ss ρ k
    simp only [envs, List.getElem?_cons_succ] at ih ⊢
    rw [ih]
theorem heaps_succ (ss : Nat → Res) (hl : List Ob) : ∀ k, heaps ss hl (k + 1) = heaps (fun k => ss (k + 1)) (appL (ss 0) hl) k
  | 0 => by simp [heaps]
  | k + 1 => by
    have ih := heaps_succ ss hl k
    simp only [heaps] at ih ⊢
    rw [ih]
theorem fts_succ (ss : Nat → Res) (hl : List Ob) (n : Nat) : fts ss hl (n + 1) = (ss 0).ft hl.length :: fts (fun k => ss (k + 1)) (appL (ss 0) hl) n := by
  simp only [fts, List.range_succ_eq_map, List.map_cons, List.map_map]
  congr 1
  apply List.map_congr_left
  intro k _
  simp only [Function.comp, Nat.succ_eq_add_one]
  rw [heaps_succ]
theorem appL_no (hl : List Ob) : appL noRes hl = hl := by simp [appL, noRes, setAll]
/-- The steps, each of which is as it is. -/
def Steps1 (P : Program) (N : Nat) (aos : List AO) (ss : Nat → Res) (ρ : Env) (hl : List Ob) : Prop :=
  ∀ k o, aos[k]? = some o → (grdB (envs aos ss ρ k) o.grd = some false ∧ ss k = noRes) ∨ (grdB (envs aos ss ρ k) o.grd = some true ∧ OpS P N o.op (envs aos ss ρ k) (heaps ss hl k) (ss k))
theorem rg_seq {P : Program} {N : Nat} : ∀ (aos : List AO) (ρ : Env) (hl : List Ob) (fs : List Ft) (K : Env → List Ob → List Ft → Prop), Rg P N aos ρ hl fs K →
    ∃ ss, Steps1 P N aos ss ρ hl ∧ K (envs aos ss ρ aos.length) (heaps ss hl aos.length) (fs ++ fts ss hl aos.length)
  | [], ρ, hl, fs, K, h => ⟨fun _ => noRes, fun k o hk => by simp at hk, by simpa [Rg, envs, heaps, fts] using h⟩
  | o :: os, ρ, hl, fs, K, h => by
    have key : ∀ s : Res, ((grdB ρ o.grd = some false ∧ s = noRes) ∨ (grdB ρ o.grd = some true ∧ OpS P N o.op ρ hl s)) → Rg P N os (pt o.dst s.v ρ) (appL s hl) (fs ++ [s.ft hl.length]) K →
        ∃ ss, Steps1 P N (o :: os) ss ρ hl ∧ K (envs (o :: os) ss ρ (o :: os).length) (heaps ss hl (o :: os).length) (fs ++ fts ss hl (o :: os).length) := by
      intro s hs hr
      obtain ⟨ss, h1, h2⟩ := rg_seq os _ _ _ K hr
      refine ⟨fun k => match k with | 0 => s | k + 1 => ss k, fun k o' hk => ?_, ?_⟩
      · cases k with
        | zero =>
          simp at hk
          subst hk
          simpa [envs, heaps] using hs
        | succ k =>
          have := h1 k o' (by simpa using hk)
          rw [envs_succ, heaps_succ]
          exact this
      · rw [List.length_cons, envs_succ, heaps_succ, fts_succ]
        simpa [List.append_assoc] using h2
    rcases h with ⟨hg, hr⟩ | ⟨hg, s, hs, hr⟩
    · exact key noRes (.inl ⟨hg, rfl⟩) (by rw [appL_no]; exact hr)
    · exact key s (.inr ⟨hg, hs⟩) hr

def Ft.mods (f : Ft) (x : Nat) : Bool := f.wr.contains x || (Nat.ble f.base x && Nat.blt x (f.base + f.n))
def Ft.conf (a b : Ft) : Bool := (a.rd ++ a.wr).any b.mods || (b.rd ++ b.wr).any a.mods
/-- Steps that meet each other stand in an order that holds. -/
def ordB (ups : List (List Nat)) (fs : List Ft) : Bool := (List.range fs.length).all fun j => (List.range j).all fun i => !(Ft.conf (fs.getD i ⟨[], [], 0, 0⟩) (fs.getD j ⟨[], [], 0, 0⟩)) || (ups.getD j []).contains i

def Md (ss : Nat → Res) (hl : List Ob) (k x : Nat) : Prop := x ∈ (ss k).ids ∨ isNew (heaps ss hl k).length (ss k).nw.length x
/-- What the objects are when some steps were done. -/
def hDn (ss : Nat → Res) (hl : List Ob) (listed : Array Bool) : Nat → Nat → Ob
  | 0 => hx hl
  | k + 1 => if listed.getD k false then (ss k).app (heaps ss hl k).length (hDn ss hl listed k) else hDn ss hl listed k
section
variable {ss : Nat → Res} {hl : List Ob}
theorem getO_mem : ∀ {wr : List (Nat × Ob)} {i : Nat}, i ∈ wr.map (·.1) → ∃ o, getO wr i = some o
  | [], i, h => by cases h
  | (j, o) :: r, i, h => by
    simp only [getO]
    by_cases hj : j = i
    · exact ⟨o, by rw [if_pos hj]⟩
    · rw [if_neg hj]
      simp only [List.map_cons, List.mem_cons] at h
      rcases h with h | h
      · exact absurd h.symm hj
      · exact getO_mem h
theorem app_congr (s : Res) (base : Nat) {h h' : Nat → Ob} {x : Nat} (e : h x = h' x) : s.app base h x = s.app base h' x := by
  simp only [Res.app, e]
theorem app_const (s : Res) (base : Nat) (h h' : Nat → Ob) {x : Nat} (hm : x ∈ s.ids ∨ isNew base s.nw.length x) : s.app base h x = s.app base h' x := by
  simp only [Res.app]
  cases hg : getO s.wr x with
  | some o => rfl
  | none =>
    rcases hm with hm | ⟨h1, h2⟩
    · obtain ⟨o, ho⟩ := getO_mem hm
      rw [hg] at ho; cases ho
    · rw [if_pos h1, if_pos h1, List.getElem?_eq_getElem (by omega)]
theorem app_md {k x : Nat} (h : Nat → Ob) (hm : ¬ Md ss hl k x) : (ss k).app (heaps ss hl k).length h x = h x := app_same (fun e => hm (.inl e)) (fun e => hm (.inr e))
theorem hD_at {listed : Array Bool} {n j x : Nat} (hids : ∀ k, k < n → ∀ i ∈ (ss k).ids, i < (heaps ss hl k).length) (hj : j ≤ n) (h : ∀ k, k < n → Md ss hl k x → (listed.getD k false = true ↔ k < j)) :
    ∀ m, m ≤ n → hDn ss hl listed m x = hx (heaps ss hl (min m j)) x
  | 0, _ => by simp [hDn, heaps]
  | m + 1, hm => by
    have ih := hD_at hids hj h m (by omega)
    simp only [hDn]
    by_cases hmj : m < j
    · rw [show min (m + 1) j = m + 1 by omega]
      rw [show min m j = m by omega] at ih
      have hh : hx (heaps ss hl (m + 1)) x = (ss m).app (heaps ss hl m).length (hx (heaps ss hl m)) x := by
        show hx (appL (ss m) (heaps ss hl m)) x = _
        rw [appL_get (hids m (by omega))]
      rw [hh]
      cases hlm : listed.getD m false with
      | true => simp only [if_true]; exact app_congr _ _ ih
      | false =>
        simp only [Bool.false_eq_true, if_false]
        have : ¬ Md ss hl m x := fun hmd => by
          have := (h m (by omega) hmd).2 hmj
          rw [hlm] at this; cases this
        rw [app_md _ this, ih]
    · rw [show min (m + 1) j = j by omega]
      rw [show min m j = j by omega] at ih
      cases hlm : listed.getD m false with
      | true =>
        simp only [if_true]
        have : ¬ Md ss hl m x := fun hmd => hmj ((h m (by omega) hmd).1 hlm)
        rw [app_md _ this, ih]
      | false => simp only [Bool.false_eq_true, if_false]; exact ih
theorem hD_set {listed : Array Bool} {n j : Nat} (hj : j < n) (hjl : listed.getD j false = false) (hjs : j < listed.size) (h : ∀ k, j < k → k < n → listed.getD k false = true → ∀ x, Md ss hl j x → ¬ Md ss hl k x) :
    ∀ m, m ≤ n → hDn ss hl (listed.setIfInBounds j true) m = if j < m then (ss j).app (heaps ss hl j).length (hDn ss hl listed m) else hDn ss hl listed m
  | 0, _ => by simp [hDn]
  | m + 1, hm => by
    have ih := hD_set hj hjl hjs h m (by omega)
    simp only [hDn]
    by_cases hmj : m = j
    · subst hmj
      have e : (listed.setIfInBounds m true).getD m false = true := by simp [hjs]
      rw [e, hjl, ih]
      simp
    · have e : (listed.setIfInBounds j true).getD m false = listed.getD m false := getD_set_ne false (Ne.symm hmj)
      rw [e, ih]
      by_cases hlt : j < m
      · have hlt' : j < m + 1 := by omega
        simp only [if_pos hlt, if_pos hlt']
        cases hlm : listed.getD m false with
        | false => simp
        | true =>
          simp only [if_true]
          funext x
          by_cases hmd : Md ss hl j x
          · have hk := h m hlt (by omega) hlm x hmd
            rw [app_md _ hk]
            exact app_const _ _ _ _ hmd
          · rw [app_md _ hmd]
            exact app_congr _ _ (app_md _ hmd)
      · have hlt' : ¬ j < m + 1 := by omega
        simp only [if_neg hlt, if_neg hlt']
end

section
variable {P : Program} {N : Nat} {ops : Array Oper} {aos : List AO} {ss : Nat → Res} {ρ : Env} {hl : List Ob}
/-- The head's state, whatever came up. -/
structure AInv (ops : Array Oper) (aos : List AO) (ss : Nat → Res) (ρ : Env) (hl : List Ob) (a0 : Act) (w0 : World) (g0 : Gh) (listed : Array Bool) (b : Act) (W : World) (g : Gh) : Prop where
  head : HeadInv .any ops ops.size listed
  rl : Rl W g (hDn ss hl listed ops.size)
  done : ∀ j, j < ops.size → listed.getD j false = true → ∀ t, dstOf ops j = some t → RV W g (b.eval (.tmp t)) (ss j).v
  fresh : ∀ t, (∀ j, j < ops.size → listed.getD j false = true → dstOf ops j ≠ some t) → b.tmps[t]? = a0.tmps[t]?
  env : EnvAll W g a0 ρ
  frl : Frl w0 g0 (hx hl) hl.length W g (hDn ss hl listed ops.size)
  μn : ∀ i, hl.length ≤ i → (∀ j, j < ops.size → listed.getD j false = true → ¬ isNew (heaps ss hl j).length (ss j).nw.length i) → g.μ i = none
  size : b.tmps.size = a0.tmps.size
  defers : b.defers = a0.defers
theorem envs_get (aos : List AO) (ss : Nat → Res) (ρ : Env) : ∀ (k t : Nat) (v : V), get (envs aos ss ρ k) t = some v → (∃ j o, j < k ∧ aos[j]? = some o ∧ o.dst = some t ∧ v = (ss j).v ∧ ∀ i o', j < i → i < k → aos[i]? = some o' → o'.dst ≠ some t) ∨ (get ρ t = some v ∧ ∀ i o', i < k → aos[i]? = some o' → o'.dst ≠ some t)
  | 0, t, v, h => .inr ⟨h, fun i o hi => absurd hi (by omega)⟩
  | k + 1, t, v, h => by
    simp only [envs] at h
    cases hk : aos[k]? with
    | none =>
      rw [hk] at h
      rcases envs_get aos ss ρ k t v h with ⟨j, o, h1, h2, h3, h4, h5⟩ | ⟨h1, h2⟩
      · refine .inl ⟨j, o, by omega, h2, h3, h4, fun i o' hi1 hi2 hi3 => ?_⟩
        by_cases e : i = k
        · subst e; rw [hk] at hi3; cases hi3
        · exact h5 i o' hi1 (by omega) hi3
      · refine .inr ⟨h1, fun i o' hi1 hi2 => ?_⟩
        by_cases e : i = k
        · subst e; rw [hk] at hi2; cases hi2
        · exact h2 i o' (by omega) hi2
    | some o =>
      rw [hk] at h
      simp only [get_pt] at h
      by_cases hd : o.dst = some t
      · rw [if_pos hd] at h
        cases h
        exact .inl ⟨k, o, by omega, hk, hd, rfl, fun i o' h1 h2 => absurd h1 (by omega)⟩
      · rw [if_neg hd] at h
        rcases envs_get aos ss ρ k t v h with ⟨j, o2, h1, h2, h3, h4, h5⟩ | ⟨h1, h2⟩
        · refine .inl ⟨j, o2, by omega, h2, h3, h4, fun i o' hi1 hi2 hi3 => ?_⟩
          by_cases e : i = k
          · subst e; rw [hk] at hi3; cases hi3; exact hd
          · exact h5 i o' hi1 (by omega) hi3
        · refine .inr ⟨h1, fun i o' hi1 hi2 => ?_⟩
          by_cases e : i = k
          · subst e; rw [hk] at hi2; cases hi2; exact hd
          · exact h2 i o' (by omega) hi2
theorem heaps_le (ss : Nat → Res) (hl : List Ob) : ∀ {i j : Nat}, i ≤ j → (heaps ss hl i).length ≤ (heaps ss hl j).length := by
  intro i j h
  induction j with
  | zero => have : i = 0 := by omega
            subst this; exact Nat.le_refl _
  | succ j ih =>
    by_cases e : i = j + 1
    · subst e; exact Nat.le_refl _
    · have := ih (by omega)
      simp only [heaps, appL_length]
      omega
theorem heaps_lt (ss : Nat → Res) (hl : List Ob) {i j : Nat} (h : i < j) : (heaps ss hl i).length + (ss i).nw.length ≤ (heaps ss hl j).length := by
  have := heaps_le ss hl (show i + 1 ≤ j by omega)
  simpa only [heaps, appL_length] using this
theorem ft_foot {s : Res} {base x : Nat} : (s.ft base).mods x = true ↔ (x ∈ s.ids ∨ isNew base s.nw.length x) := by
  simp only [Ft.mods, Res.ft, Bool.or_eq_true, List.contains_iff_mem, Bool.and_eq_true, isNew]
  constructor
  · rintro (h | ⟨h1, h2⟩)
    · exact .inl h
    · exact .inr ⟨Nat.le_of_ble_eq_true h1, by have := Nat.le_of_ble_eq_true h2; omega⟩
  · rintro (h | ⟨h1, h2⟩)
    · exact .inl h
    · exact .inr ⟨Nat.ble_eq_true_of_le h1, Nat.ble_eq_true_of_le h2⟩
/-- Two steps that meet: the former is ahead of the latter. -/
theorem ord_spec (hord : ordB ((List.range ops.size).map (upon ops)) (fts ss hl ops.size) = true) {i j x : Nat} (hij : i < j) (hj : j < ops.size)
    (hc : (Md ss hl i x ∧ (x ∈ (ss j).rd ∨ Md ss hl j x)) ∨ (Md ss hl j x ∧ (x ∈ (ss i).rd ∨ x ∈ (ss i).ids))) : i ∈ upon ops j := by
  have hlen : (fts ss hl ops.size).length = ops.size := by simp [fts]
  have hget : ∀ k, k < ops.size → (fts ss hl ops.size).getD k ⟨[], [], 0, 0⟩ = (ss k).ft (heaps ss hl k).length := fun k hk => by simp [fts, List.getD_eq_getElem?_getD, hk]
  have h := List.all_eq_true.1 (List.all_eq_true.1 hord j (List.mem_range.2 (by rw [hlen]; exact hj))) i (List.mem_range.2 hij)
  rw [hget i (by omega), hget j hj] at h
  simp only [Bool.or_eq_true, Bool.not_eq_true'] at h
  rcases h with h | h
  · exfalso
    have hconf : Ft.conf ((ss i).ft (heaps ss hl i).length) ((ss j).ft (heaps ss hl j).length) = true := by
      simp only [Ft.conf, Bool.or_eq_true, List.any_eq_true, List.mem_append]
      have hnn : ∀ y, isNew (heaps ss hl i).length (ss i).nw.length y → ¬ isNew (heaps ss hl j).length (ss j).nw.length y := fun y h1 h2 => by
        have := heaps_lt ss hl hij
        unfold isNew at h1 h2
        omega
      rcases hc with ⟨h1, h2⟩ | ⟨h1, h2⟩
      · rcases h2 with h2 | h2
        · exact .inr ⟨x, .inl h2, ft_foot.2 h1⟩
        · rcases h2 with h2 | h2
          · exact .inr ⟨x, .inr h2, ft_foot.2 h1⟩
          · rcases h1 with h1 | h1
            · exact .inl ⟨x, .inr h1, ft_foot.2 (.inr h2)⟩
            · exact absurd h2 (hnn x h1)
      · exact .inl ⟨x, h2, ft_foot.2 h1⟩
    rw [hconf] at h; cases h
  · have : ((List.range ops.size).map (upon ops)).getD j [] = upon ops j := by simp [List.getD_eq_getElem?_getD, hj]
    rw [this] at h
    simpa using h
theorem rg_any {Q' : Exit → Act → World → Prop} {a0 : Act} {w0 : World} {g0 : Gh} (Fi : Fine ops ops.size N []) (htr : listM (trO P N ops) ops.toList = some aos) (hst : Steps1 P N aos ss ρ hl) (hord : ordB ((List.range ops.size).map (upon ops)) (fts ss hl ops.size) = true)
    (hts : ∀ k o, aos[k]? = some o → (∀ t ∈ o.op.ts, t ∈ looksOf ops k) ∧ ∀ t want, o.grd = some (t, want) → t ∈ looksOf ops k) (hN : a0.tmps.size = N) (hend : ∀ b W g, AInv ops aos ss ρ hl a0 w0 g0 (canon ops.size ops.size) b W g → Q' .normal b W) :
    ∀ (m : Nat) (listed : Array Bool) (b : Act) (W : World) (g : Gh), AInv ops aos ss ρ hl a0 w0 g0 listed b W g → cnt listed ops.size = m → wpAny P .any ops Q' (m + (ops.size - ops.size)) listed b W
  | 0, listed, b, W, g, inv, hm => by
    have hall := cnt_zero ops.size hm
    have e : listed = canon ops.size ops.size := by
      refine Array.ext (by rw [inv.head.size]; simp [canon]) fun i h1 h2 => ?_
      rw [inv.head.size] at h1
      have h3 := hall i h1
      have h4 : listed[i] = true := by simpa [Array.getD, inv.head.size, h1] using h3
      rw [h4]
      simp [canon]
    subst e
    rw [Nat.zero_add]
    have := wpAny_of_seq (md := .any) (Q' := Q') (P := P) (ops := ops) (ops.toList.drop ops.size) ops.size (canon ops.size ops.size) b W (fun j => by simp [List.getElem?_drop]) (by rw [List.length_drop, Array.length_toList]; exact Fi.seq) (by
      have hd : ops.toList.drop ops.size = [] := List.drop_eq_nil_of_le (by simp)
      rw [hd]
      exact hend b W g inv)
    rwa [List.length_drop, Array.length_toList] at this
  | m + 1, listed, b, W, g, inv, hm => by
    obtain ⟨i, hi, hiu, hbelow⟩ := cnt_pos ops.size (by omega : cnt listed ops.size ≠ 0)
    have hius : i < listed.size := by rw [inv.head.size]; exact hi
    have hready : i ∈ Region.ready .any ops listed := by
      rw [mem_ready]
      refine ⟨(getD_false_iff hius).2 hiu, ops[i], by simp [hi], fun e he hb => hbelow _ (Fi.order i hi _ ((afters_spec (by simp [hi])).2 ⟨e, he, hb, rfl⟩))⟩
    rw [show m + 1 + (ops.size - ops.size) = (m + (ops.size - ops.size)) + 1 by omega]
    refine ⟨fun h => (by rw [h] at hready; cases hready), fun j hj => ?_⟩
    obtain ⟨hju, oj, hoj, hall⟩ := mem_ready.1 hj
    have hjn : j < ops.size := (Array.getElem?_eq_some_iff.1 hoj).1
    have hjus : j < listed.size := by rw [inv.head.size]; exact hjn
    have hjf := (getD_false_iff hjus).1 hju
    have hupon : ∀ x ∈ upon ops j, listed.getD x false = true := downTo_listed inv.head.closed j _ fun x hx => by
      obtain ⟨e, he, hb, rfl⟩ := (afters_spec hoj).1 hx
      exact hall e he hb
    have notlisted : ∀ x, x < ops.size → listed.getD x false = true → j ∈ upon ops x → False := fun x hx hxl h => by
      cases hox : ops[x]? with
      | none => simp at hox; omega
      | some ox =>
        have := downTo_listed (ops := ops) inv.head.closed x (aftersOf ops x) (fun y hy => by
          obtain ⟨e, he, hb, rfl⟩ := (afters_spec hox).1 hy
          exact inv.head.closed x ox hox hxl e he hb) j h
        rw [this] at hjf; cases hjf
    obtain ⟨aoj, hao, htro⟩ : ∃ aoj, aos[j]? = some aoj ∧ trO P N ops oj = some aoj := listM_fwd htr j oj (by simpa using hoj)
    obtain ⟨t1, t2, t3⟩ := trO_op htro
    have hdj : dstOf ops j = oj.dst := by simp [dstOf, hoj]
    have hlen : aos.length = ops.size := by rw [← (listM_ok htr).1]; simp
    have hdst : ∀ k o, aos[k]? = some o → dstOf ops k = o.dst := fun k o hk => by
      obtain ⟨a, a1, a2⟩ := (listM_ok htr).2 k o hk
      have a1' : ops[k]? = some a := by simpa using a1
      simp only [dstOf, a1', Option.bind_some]
      exact (trO_op a2).2.1
    have hids : ∀ k, k < ops.size → ∀ x ∈ (ss k).ids, x < (heaps ss hl k).length := fun k hk x hx => by
      have hk' : k < aos.length := by omega
      rcases hst k aos[k] (List.getElem?_eq_getElem hk') with ⟨_, h⟩ | ⟨_, h⟩
      · rw [h] at hx; simp [noRes, Res.ids] at hx
      · exact h.1 x hx
    -- what this operation's temporaries hold
    have know : ∀ t, t ∈ looksOf ops j → ∀ v, get (envs aos ss ρ j) t = some v → RV W g (b.eval (.tmp t)) v := fun t ht v hv => by
      have hlk := Fi.looks j hjn t ht
      rcases envs_get aos ss ρ j t v hv with ⟨x, ox, h1, h2, h3, rfl, h5⟩ | ⟨h1, h2⟩
      · have hdx : dstOf ops x = some t := (hdst x ox h2).trans h3
        exact inv.done x (by omega) (hupon x ((hlk x (by omega) hdx).1 h1)) t hdx
      · have hfr := inv.fresh t fun x hx hxl hd => by
          rcases Nat.lt_or_ge x j with hxj | hxj
          · have hx' : x < aos.length := by omega
            exact h2 x aos[x] hxj (List.getElem?_eq_getElem hx') ((hdst x _ (List.getElem?_eq_getElem hx')).symm.trans hd)
          · rcases (hlk x hx hd).2 hxj with rfl | h
            · rw [hxl] at hjf; cases hjf
            · exact notlisted x hx hxl h
        have e : b.eval (.tmp t) = a0.eval (.tmp t) := by simp [Act.eval, hfr]
        rw [e]
        exact inv.env t v h1
    -- a step that meets this one
    have meet : ∀ k x, k < ops.size → k ≠ j → Md ss hl k x → (x ∈ (ss j).rd ∨ Md ss hl j x) → (listed.getD k false = true ↔ k < j) := fun k x hk hkj h1 h2 => by
      rcases Nat.lt_or_ge k j with hlt | hge
      · exact ⟨fun _ => hlt, fun _ => hupon k (ord_spec hord hlt hjn (.inl ⟨h1, h2⟩))⟩
      · refine ⟨fun hl' => ?_, fun h => by omega⟩
        exfalso
        have hjk : j < k := by omega
        have hin : j ∈ upon ops k := by
          refine ord_spec (x := x) hord hjk hk ?_
          rcases h2 with h2 | h2
          · exact .inr ⟨h1, .inl h2⟩
          · exact .inl ⟨h2, .inr h1⟩
        exact notlisted k hk hl' hin
    have hDj : ∀ x, (x ∈ (ss j).rd ∨ x ∈ (ss j).ids) → hDn ss hl listed ops.size x = hx (heaps ss hl j) x := fun x hx' => by
      have := hD_at (listed := listed) (x := x) hids (show j ≤ ops.size by omega) (fun k hk hmd => by
        by_cases hkj : k = j
        · subst hkj; rw [hjf]; simp
        · exact meet k x hk hkj hmd (by rcases hx' with h | h; exact .inl h; exact .inr (.inl h))) ops.size (Nat.le_refl _)
      rw [this, show min ops.size j = j by omega]
    have hsetn : hDn ss hl (listed.setIfInBounds j true) ops.size = (ss j).app (heaps ss hl j).length (hDn ss hl listed ops.size) := by
      have := hD_set (ss := ss) (hl := hl) hjn hjf hjus (fun k hjk hk hkl x h1 h2 => notlisted k hk hkl (ord_spec hord hjk hk (.inl ⟨h1, .inr h2⟩))) ops.size (Nat.le_refl _)
      rw [this, if_pos hjn]
    have hnewj : ∀ x, isNew (heaps ss hl j).length (ss j).nw.length x → g.μ x = none ∧ hDn ss hl listed ops.size x = .dead := fun x hnx => by
      have hbx : hl.length ≤ x := Nat.le_trans (heaps_le ss hl (Nat.zero_le j)) hnx.1
      refine ⟨inv.μn x hbx fun k hk hkl hnk => ?_, ?_⟩
      · have hkj : k ≠ j := fun e => by subst e; rw [hkl] at hjf; cases hjf
        unfold isNew at hnx hnk
        rcases Nat.lt_or_ge k j with h | h
        · have := heaps_lt ss hl h; omega
        · have := heaps_lt ss hl (show j < k by omega); omega
      · have := hD_at (listed := listed) (x := x) (j := j) hids (by omega) (fun k hk hmd => by
          by_cases hkj : k = j
          · subst hkj; rw [hjf]; simp
          · exact meet k x hk hkj hmd (.inr (.inr hnx))) ops.size (Nat.le_refl _)
        rw [this, show min ops.size j = j by omega]
        simp [hx, List.getD_eq_getElem?_getD, List.getElem?_eq_none hnx.1]
    have hdlt : ∀ k, oj.dst = some k → k < b.tmps.size := fun k hk => by rw [inv.size, hN]; exact t3 k (t2 ▸ hk)
    have next : ∀ (u : Value) (W' : World) (g' : Gh), RV W' g' u (ss j).v → Rl W' g' ((ss j).app (heaps ss hl j).length (hDn ss hl listed ops.size)) →
        Go1 W g (hDn ss hl listed ops.size) (ss j).ids (heaps ss hl j).length (ss j).nw.length W' g' ((ss j).app (heaps ss hl j).length (hDn ss hl listed ops.size)) →
        wpAny P .any ops Q' (m + (ops.size - ops.size)) (listed.setIfInBounds j true) (b.put oj.dst u) W' := fun u W' g' hv hR' hgo => by
      have hsm := hgo.same inv.rl
      refine rg_any Fi htr hst hord hts hN hend m _ _ _ g' ⟨inv.head.set hj hjn, by rw [hsetn]; exact hR', fun x hx hxl t hd => ?_, fun t ht => ?_, fun t v hv' => (inv.env t v hv').more hsm hgo.gm, ?_, fun x hx hn' => ?_, by rw [put_size]; exact inv.size, by rw [put_defers]; exact inv.defers⟩ ?_
      · rw [eval_put hdlt]
        by_cases hxj : x = j
        · subst hxj
          rw [if_pos (hdj.symm.trans hd)]; exact hv
        · rw [getD_set_ne false (Ne.symm hxj)] at hxl
          rw [if_neg ?_]
          · exact (inv.done x hx hxl t hd).more hsm hgo.gm
          · intro e
            rcases Nat.lt_or_ge x j with h | h
            · exact (Fi.dist j hjn t (hdj.trans e)).2 x h hd
            · exact (Fi.dist x hx t hd).2 j (by omega) (hdj.trans e)
      · rw [slot_put_other (fun e => ht j hjn (by simp [hjus]) (hdj.trans e))]
        exact inv.fresh t fun x hx hxl hd => ht x hx (getD_set_true hxl) hd
      · rw [hsetn]
        exact inv.frl.step hgo (heaps_le ss hl (Nat.zero_le j)) (fun x h1 h2 => app_same h1 h2)
      · refine hgo.μn x (hn' j hjn (by simp [hjus])) (inv.μn x hx fun k hk hkl => hn' k hk (getD_set_true hkl))
      · have := (cnt_set (listed := listed) (i := j) ops.size hjus hjf).2 hjn
        omega
    unfold wpOp
    simp only [hoj]
    rcases hst j aoj hao with ⟨hg, hs⟩ | ⟨hg, hs⟩
    · have hw := grd_ok htro (fun t want hgd v hv => know t ((hts j aoj hao).2 t want hgd) v hv) hg
      rw [hw]
      simp only [Bool.false_eq_true, if_false]
      have hno : (ss j).app (heaps ss hl j).length (hDn ss hl listed ops.size) = hDn ss hl listed ops.size := by rw [hs]; exact app_none rfl rfl _ _
      refine next undef W g (by rw [hs]; exact .u) (by rw [hno]; exact inv.rl) ?_
      rw [hno, hs]
      exact Go1.refl W g _ _
    · have hw := grd_ok htro (fun t want hgd v hv => know t ((hts j aoj hao).2 t want hgd) v hv) hg
      rw [hw]
      simp only [if_true]
      left
      have hr := hs.2 oj t1 b W g (hDn ss hl listed ops.size) (by rw [inv.size, hN]) hDj hnewj inv.rl (fun t ht v hv => know t ((hts j aoj hao).1 t ht) v hv)
      refine wp_widen (Oper.wp_mono (fun b' W' h => ?_) hr)
      obtain ⟨u, g', rfl, hv, hR', hgo⟩ := h
      exact next u W' g' hv hR' hgo
end
end Go.Proofs.YthddlkhfkncgpaaGreat
