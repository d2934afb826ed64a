/-
  The owners that have a transaction, in order: what the engine tells is its map's keys, sorted.
-/
import Derived.Test.YtpnbncdclgmegaaO1
import Derived.Test.YtpnbncdclgmegaaL3
set_option maxRecDepth 100000
set_option maxHeartbeats 1000000
set_option linter.unusedVariables false
set_option linter.unusedSimpArgs false
namespace Go.Proofs.Ytpnbncdclgmegaa
open Go.RowKit Go.Maps
open Go.WideElems (Fit rd rg pl)

/-- A slice's own row, sorted in place; then told as data. -/
theorem sort_at {W : World} {base : Nat} {v : Value} {ss : List Int} (hb : base ≤ W.heap.size) (hr : W.ownsRow base 3 1 v ss.length (ss.map encZ)) (hl : ss.length ≤ 12) :
    Calls Try.prog 81 #[v] W fun e w' => (∃ u, e = .returned u) ∧ Below base W w' ∧ Rd w' (fun b => base ≤ b ∧ b < w'.heap.size) v (lI .i64 (srt ss)) := by
  obtain ⟨_, hs⟩ := sort_ok hl
  rcases hr.2 with ⟨rfl, h0⟩ | ⟨gb, cap, cur, rfl, hbg, hg, hc1, hc2, hc3, hc4⟩
  · have hss : ss = [] := List.eq_nil_of_length_eq_zero h0
    subst hss
    let g : Gh := ⟨fun _ => False, fun i => if i = 0 then some { blk := 0, nil := true, sz := 1, tot := 0 } else none, fun _ _ => False⟩
    have hR : Rl W g (hx [oN []]) := by
      refine ⟨fun i hi => ?_, fun i j b _ _ h => h.elim, fun i b _ h => h.elim, fun b h => h.elim⟩
      cases i with
      | zero => exact ⟨by omega, _, rfl, rfl, .inl ⟨rfl, rfl, rfl, fun b h => h⟩⟩
      | succ i => simp [hx, Ob.live] at hi
    refine (hs W g #[.slice none 0 0] hR (fun i hi => by simp at hi; simp [g]; omega) rfl (fun j v x hj hx => ?_)).mono ?_
    · match j, hj, hx with
      | 0, hj, hx =>
        cases hj; cases hx
        exact .e (.c (.slz 0 none (l := { blk := 0, nil := true, sz := 1, tot := 0 }) rfl rfl))
    · rintro e w' ⟨u, g', rfl, _, hR', hF⟩
      refine ⟨⟨_, rfl⟩, ⟨hF.keeps.os, hF.keeps.tape, hF.keeps.output, hF.keeps.size, fun k hk => hF.keeps.block k (by omega) ?_⟩, .lsn none 1⟩
      rintro ⟨i, _, h⟩
      exact h
  · have hlt : gb < W.heap.size := (Array.getElem?_eq_some_iff.1 hg).1
    let L : Loc := { blk := gb, nil := false, sz := 1, tot := cap }
    let g : Gh := ⟨fun _ => False, fun i => if i = 0 then some L else none, fun _ b => b = gb⟩
    have hsz : cur.size = cap := by omega
    have hR : Rl W g (hx [oN ss]) := by
      refine ⟨fun i hi => ?_, fun i j b hi hj _ _ => ?_, fun i b _ _ h => h, fun b h => h.elim⟩
      · cases i with
        | zero =>
          refine ⟨by omega, L, rfl, rfl, .inr ⟨rfl, by simpa using hc1, hc2, fun b => Iff.rfl, cur, _, hg, by simpa [L] using hc3, fun p r hr => ?_⟩⟩
          simp only [rI, List.getElem?_map] at hr
          obtain ⟨x, hx, rfl⟩ := Option.map_eq_some_iff.1 hr
          refine ⟨rfl, fun j t hj => ?_⟩
          match j, hj with
          | 0, hj =>
            cases hj
            have hp : p < ss.length := (List.getElem?_eq_some_iff.1 hx).1
            have : (cur.toList.take (ss.length * 1))[p]? = some (encZ x) := by rw [hc4, List.getElem?_map, hx]; rfl
            rw [List.getElem?_take, if_pos (by omega)] at this
            exact ⟨encZ x, by simpa using this, .int _ _⟩
        | succ i => simp [hx, Ob.live] at hi
      · cases i with
        | zero => cases j with
          | zero => rfl
          | succ j => simp [hx, Ob.live] at hj
        | succ i => simp [hx, Ob.live] at hi
    refine (hs W g #[.slice (some ⟨gb, 0, none⟩) ss.length cap] hR (fun i hi => by simp at hi; simp [g]; omega) rfl (fun j v x hj hx => ?_)).mono ?_
    · match j, hj, hx with
      | 0, hj, hx =>
        cases hj; cases hx
        have := RC.sl (w := W) (g := g) (id := 0) (l := L) 0 ss.length rfl rfl (by simpa [L] using hc1)
        simpa [L] using RV.e (RE.c this)
    · rintro e w' ⟨u, g', rfl, _, hR', hF⟩
      have hμ : g'.μ 0 = some L := by rw [hF.μ 0 (by simp)]; rfl
      obtain ⟨_, l, m1, m2, m3⟩ := hR'.objs 0 rfl
      obtain rfl : L = l := Option.some.inj (hμ.symm.trans m1)
      rcases m3 with ⟨m3, _⟩ | ⟨_, m4, m5, _, arr, ty, m6, m7, m8⟩
      · cases m3
      have hlt' : gb < w'.heap.size := (Array.getElem?_eq_some_iff.1 m6).1
      refine ⟨⟨_, rfl⟩, ⟨hF.keeps.os, hF.keeps.tape, hF.keeps.output, hF.keeps.size, fun k hk => hF.keeps.block k (by omega) ?_⟩, ?_⟩
      · rintro ⟨i, _, h⟩
        have : k = gb := h
        omega
      · have hln := srt_len ss
        have : Rd w' (fun b => base ≤ b ∧ b < w'.heap.size) (.slice (some ⟨gb, 0, none⟩) (srt ss).length cap) (lI .i64 (srt ss)) := by
          refine .ls gb 0 1 (srt ss).length cap (rI .i64 (srt ss)) (fun i _ => .int .i64 ((srt ss).getD i 0)) ⟨hbg, hlt'⟩ (by simp) (by simp; omega) hc2 (by omega) ?_ ?_ ?_
          · intro i r hr
            exact (m8 i r hr).1
          · intro i r j t hr ht
            obtain ⟨e1, e2⟩ := m8 i r hr
            obtain ⟨v, v1, v2⟩ := e2 j t ht
            have hj : j = 0 := by have := (List.getElem?_eq_some_iff.1 ht).1; omega
            subst hj
            rw [rI, List.getElem?_map] at hr
            obtain ⟨x, hx, rfl⟩ := Option.map_eq_some_iff.1 hr
            cases ht
            cases v2
            simp only [List.getD_eq_getElem?_getD, hx, Option.getD_some]
            have m6' : w'.heap[gb]? = some (.cells arr ty (0, 0)) := m6
            simpa [World.cell?, m6'] using v1
          · intro i r j t hr ht
            have hj : j = 0 := by
              have := (List.getElem?_eq_some_iff.1 ht).1
              rw [(m8 i r hr).1] at this
              omega
            subst hj
            rw [rI, List.getElem?_map] at hr
            obtain ⟨x, hx, rfl⟩ := Option.map_eq_some_iff.1 hr
            cases ht
            simp only [List.getD_eq_getElem?_getD, hx, Option.getD_some]
            exact .int _ _
        simpa only [lI, hln] using this

/-- A map whose stamps and keys are as they should be. -/
structure MpOk (m : Mp) : Prop where
  len : m.es.length ≤ 12
  born : ∀ e ∈ m.es, e.1 < m.ck
  ids : (m.es.map (·.1)).Nodup
  keys : (m.es.map (·.2.1)).Nodup
  fit : ∀ e ∈ m.es, b64 e.2.1
def mKeys (m : Mp) : List Int := m.es.map (·.2.1)
theorem own_of {w : World} {b : Nat} {arr : Array MapEntry} {m : Mp} (hb : w.heap[b]? = some (.map arr m.ck)) (hs : arr.size = m.es.length) (he : ∀ (j : Nat) e, m.es[j]? = some e → ∃ x, arr[j]? = some x ∧ x.born = e.1 ∧ x.key = .int .i64 e.2.1) (hm : MpOk m) :
    ∃ D0 : DataW Unit, w.ownsMap Try.prog 3 anyR b m.es.length D0 ∧ Maps.size D0 = m.es.length ∧ (intKeys D0).Perm (mKeys m) := by
  have hmap : ∀ {α} (f : MapEntry → α) (f' : Nat × Int × List D → α), (∀ (x : MapEntry) (e : Nat × Int × List D), x.born = e.1 → x.key = .int .i64 e.2.1 → f x = f' e) → arr.toList.map f = m.es.map f' := by
    intro α f f' hf
    apply List.ext_getElem?
    intro j
    rw [List.getElem?_map, List.getElem?_map]
    cases h : m.es[j]? with
    | none =>
      have : arr[j]? = none := by rw [Array.getElem?_eq_none_iff]; rw [List.getElem?_eq_none_iff] at h; omega
      simp [this]
    | some e =>
      obtain ⟨x, x1, x2, x3⟩ := he j e h
      simp [x1, hf x e x2 x3]
  have hmem : ∀ x ∈ arr.toList, ∃ e ∈ m.es, x.born = e.1 ∧ x.key = .int .i64 e.2.1 := by
    intro x hx
    obtain ⟨j, hj⟩ := List.mem_iff_getElem?.1 hx
    have hlt : j < arr.size := by have := (List.getElem?_eq_some_iff.1 hj).1; simpa using this
    obtain ⟨y, y1, y2, y3⟩ := he j _ (List.getElem?_eq_getElem (by omega))
    rw [show arr[j]? = some x by simpa using hj] at y1
    cases y1
    exact ⟨_, List.getElem_mem _, y2, y3⟩
  have hkey : ∀ e : Nat × Int × List D, e ∈ m.es → keyOf Try.prog 3 (.int .i64 e.2.1) = some (.int .i64 e.2.1) := fun e h =>
    keyOf_int_mk Try.underlying3 (by have := hm.fit e h; simp [Lit.wf, IntKind.min, IntKind.max, IntKind.signed, IntKind.bits]; omega)
  have hrd : ∀ x ∈ arr.toList, ∃ e ∈ m.es, x.born = e.1 ∧ x.key = .int .i64 e.2.1 ∧ rd Try.prog 3 anyR x = some (.int .i64 e.2.1, .nil) := by
    intro x hx
    obtain ⟨e, e1, e2, e3⟩ := hmem x hx
    refine ⟨e, e1, e2, e3, ?_⟩
    simp [rd, e3, hkey e e1, anyR]
  refine ⟨_, ⟨arr, m.ck, hb, ⟨?_, ⟨fun x hx => ?_, ?_, ?_⟩, fun x hx => ?_⟩, by omega, rfl⟩, ?_, ?_⟩
  · have := hm.len
    have h2 : (12 : Nat) ≤ maxLen := by decide
    omega
  · obtain ⟨e, e1, e2, _⟩ := hrd x hx
    rw [e2]
    exact hm.born e e1
  · rw [hmap (·.born) (·.1) (fun x e h1 h2 => h1)]
    exact hm.ids
  · rw [hmap (·.key) (fun e => .int .i64 e.2.1) (fun x e h1 h2 => h2)]
    have := hm.keys
    rw [List.Nodup, List.pairwise_map] at this ⊢
    exact this.imp fun h e => h (by simpa using e)
  · obtain ⟨e, _, _, _, e4⟩ := hrd x hx
    exact ⟨_, e4⟩
  · simp [Maps.size, length_sorted, hs]
  · refine ((Go.WideShapes.sorted_perm _).map _).trans ?_
    rw [List.map_map, mKeys]
    refine .of_eq ?_
    apply List.ext_getElem?
    intro j
    rw [List.getElem?_map, List.getElem?_map]
    cases h : m.es[j]? with
    | none =>
      have : arr[j]? = none := by rw [Array.getElem?_eq_none_iff]; rw [List.getElem?_eq_none_iff] at h; omega
      simp [this]
    | some e =>
      obtain ⟨x, x1, x2, x3⟩ := he j e h
      have : rd Try.prog 3 anyR x = some (.int .i64 e.2.1, .nil) := by simp [rd, x3, hkey e (List.mem_of_getElem? h), anyR]
      simp [x1, rg, this, intOf]

set_option maxHeartbeats 1000000 in
/-- slices.Sorted of a map's keys that come by its iterator. -/
theorem sorted_at (Bm b nn : Nat) (D0 : DataW Unit) (w : World) (hBm : Bm < w.heap.size) (hm : w.cell? ⟨Bm, 0, none⟩ = some (.map (some b))) (hown : w.ownsMap Try.prog 3 anyR b nn D0) (hn : Maps.size D0 ≤ 12) :
    Calls Try.prog 55 #[.func (.func 82) #[] #[.pointer (some ⟨Bm, 0, none⟩)]] w fun e w' => ∃ (v : Value) (ss : List Int), e = .returned v ∧ ss.Perm (intKeys D0) ∧ Below w.heap.size w w' ∧ Rd w' (fun b => w.heap.size ≤ b ∧ b < w'.heap.size) v (lI .i64 (srt ss)) := by
  refine (callsIn_wide (n := 6)).1 ?_
  have hmx : (12 : Nat) ≤ maxLen := by decide
  have hseq := keys_gives Fence.wide (5 - 1 - 1) trivial rfl (by omega) Bm b nn D0 w hBm hm hown
  have hlen : ∀ ss : List Int, ss.Perm (intKeys D0) → ss.length ≤ 12 := by
    intro ss h
    rw [h.length_eq]
    cases D0 <;> simp [intKeys] <;> simpa [Maps.size] using hn
  have hfC : Fence.wide.fn 80 := trivial
  have hfS : Fence.wide.fn 81 := trivial
  refine callsIn_of_wp Try.func55 rfl trivial ?_ rfl
  simp only [Try.ntmps55, List.size_toArray, List.length_cons, List.length_nil, Nat.reduceAdd, Nat.reduceSub, Array.replicate_succ, Array.replicate_zero, List.push_toArray, List.append_toArray, List.nil_append, List.cons_append]
  gi_wp2_with (first
    | (gi_at_call 80; refine (collect_in Fence.wide 5 trivial trivial rfl (by omega) 82 _ trivial (enters_of Try.func82 (by kernel_rfl) rfl) _ _ (Nat.le_trans hn hmx) (by omega) _ hseq).mono ?_; rintro e w' ⟨v, ss, rfl, hS, hrow, hnil, hb⟩)
    | (gi_at_call 81; refine (callsIn_wide.2 (sort_at hb.size hrow (hlen _ hS))).mono ?_; rintro e w2 ⟨⟨u, rfl⟩, hb2, hrd⟩))
  go_ret
  exact ⟨v, ss, rfl, hS, hb.trans hb2, hrd⟩
/-- maps.Keys: the map in a box that the iterator holds. -/
theorem keys_at (mb : Option Nat) (w : World) : Calls Try.prog 56 #[.map mb] w fun e w' => e = .returned (.func (.func 82) #[] #[.pointer (some ⟨w.heap.size, 0, none⟩)]) ∧ w' = w.alloc (.cells #[.map mb] 93) := by
  refine (callsIn_wide (n := 6)).1 ?_
  refine callsIn_of_wp Try.func56 rfl trivial ?_ rfl
  simp only [Try.ntmps56, List.size_toArray, List.length_cons, List.length_nil, Nat.reduceAdd, Nat.reduceSub, Array.replicate_succ, Array.replicate_zero, List.push_toArray, List.append_toArray, List.nil_append, List.cons_append]
  gi_wp2
  go_ret
  exact ⟨rfl, rfl⟩
/-- The engine's owners. -/
theorem owners_at (B b nn : Nat) (D0 : DataW Unit) (w : World) (hc : w.cell? ⟨B, 4, none⟩ = some (.map (some b))) (hown : w.ownsMap Try.prog 3 anyR b nn D0) (hn : Maps.size D0 ≤ 12) :
    Calls Try.prog 27 #[.pointer (some ⟨B, 0, none⟩)] w fun e w' => ∃ (v : Value) (ss : List Int), e = .returned v ∧ ss.Perm (intKeys D0) ∧ Below w.heap.size w w' ∧ Rd w' (fun b => w.heap.size ≤ b ∧ b < w'.heap.size) v (lI .i64 (srt ss)) := by
  have hbl := hown.lt
  have hown' : (w.alloc (.cells #[.map (some b)] 93)).ownsMap Try.prog 3 anyR b nn D0 := hown.alloc _
  have hb0 : Below w.heap.size w (w.alloc (.cells #[.map (some b)] 93)) := (Below.refl _ w).alloc (Nat.le_refl _) _
  have hsz : (w.alloc (.cells #[.map (some b)] 93)).heap.size = w.heap.size + 1 := by simp
  have hS := sorted_at w.heap.size b nn D0 _ (by simp) (by simp) hown' hn
  refine (callsIn_wide (n := 6)).1 ?_
  have hfK : Fence.wide.fn 56 := trivial
  have hfS : Fence.wide.fn 55 := trivial
  refine callsIn_of_wp Try.func27 rfl trivial ?_ rfl
  simp only [Try.ntmps27, List.size_toArray, List.length_cons, List.length_nil, Nat.reduceAdd, Nat.reduceSub, Array.replicate_succ, Array.replicate_zero, List.push_toArray, List.append_toArray, List.nil_append, List.cons_append]
  gi_wp2_with (first
    | (gi_at_call 56; refine (callsIn_wide.2 (keys_at _ _)).mono ?_; rintro e w' ⟨rfl, rfl⟩)
    | (gi_at_call 55; refine (callsIn_wide.2 hS).mono ?_; rintro e w' ⟨v, ss, rfl, hp, hb, hrd⟩))
  go_ret
  refine ⟨v, ss, rfl, hp, hb0.trans (hb.mono (by omega)), hrd.more (fun _ _ => rfl) fun b h => ⟨by omega, h.2⟩⟩
theorem owners_ok {hs : List Ob} {i j : Nat} {cs : List C} {ag : Bool} {m : Mp} (h1 : hs[i]? = some (.box cs)) (h2 : cs[4]? = some (.mp j)) (h3 : hs[j]? = some (.mp ag m)) (hm : MpOk m) :
    FnOk Try.prog 27 [vC (.ptr i 0)] hs (.e (.c (.t (lI .i64 (srt (mKeys m)))))) hs := by
  refine ⟨⟨_, Try.func27, rfl, by decide⟩, fun w g args hR hμ hsz hv => ?_⟩
  have hxi : hx hs i = .box cs := by simp [hx, h1]
  have hxj : hx hs j = .mp ag m := by simp [hx, h3]
  obtain ⟨l, arr, ty, e1, e2, e3, e4, e5, e6⟩ := hxi ▸ hR.objs i (by rw [hxi]; rfl)
  obtain ⟨lj, arrj, f1, f2, f3, f4, f5⟩ := hxj ▸ hR.objs j (by rw [hxj]; rfl)
  obtain ⟨v4, c1, c2⟩ := e5 4 _ h2
  have hargs : args = #[.pointer (some ⟨l.blk, 0, none⟩)] := by
    have hs1 : args.size = 1 := hsz
    have h0 : args[0]? = some args[0] := Array.getElem?_eq_getElem (by omega)
    have := hv 0 _ _ h0 rfl
    have hp : args[0] = .pointer (some ⟨l.blk, 0, none⟩) := by
      generalize args[0] = x at this
      cases this with
      | e h => cases h with
        | c h => cases h with
          | ptr off hh hn =>
            rw [e1] at hh
            cases hh
            rfl
    apply Array.ext
    · simp [hs1]
    · intro k k1 k2
      have : k = 0 := by omega
      subst this
      simpa using hp
  have hmap : v4 = .map (some lj.blk) := by
    cases c2 with
    | mp hh => rw [f1] at hh; cases hh; rfl
  subst hmap
  have hc : w.cell? ⟨l.blk, 4, none⟩ = some (.map (some lj.blk)) := by
    simp [World.cell?, e3, c1]
  obtain ⟨D0, d1, d2, d3⟩ := own_of f2 f3 (fun k e hk => by obtain ⟨x, x1, x2, x3, _⟩ := f4 k e hk; exact ⟨x, x1, x2, x3⟩) hm
  subst hargs
  refine (owners_at l.blk lj.blk _ D0 w hc d1 (by rw [d2]; exact hm.len)).mono ?_
  rintro e w' ⟨v, ss, rfl, hp, hb, hrd⟩
  have hse : srt ss = srt (mKeys m) := unR (hp.trans d3)
  rw [hse] at hrd
  have hsame : ∀ F : Nat → Prop, (∀ b, F b → b < w.heap.size) → Same F w w' := fun F hF b hb' => hb.block b (hF b hb')
  let g' : Gh := ⟨fun b => g.I b ∨ (w.heap.size ≤ b ∧ b < w'.heap.size), g.μ, g.fp⟩
  have hgm : Gm g g' := ⟨fun b h => .inl h, fun i l h => h⟩
  refine ⟨v, g', rfl, .e (.c (.t (hrd.more (fun _ _ => rfl) fun b h => .inr h))), ⟨fun k hk => (hR.objs k hk).more (hsame _ hR.lt) (hsame _ fun b h => (hR.objs k hk).lt hk h) hb.size hgm rfl, hR.disj, fun k b hk hf => ?_, fun b h => ?_⟩, ⟨Nat.le_refl _, ⟨hb.os, hb.tape, hb.output, hb.size, fun k hk _ => hb.block k hk⟩, fun b h => .inl h, fun b h => ?_, fun _ _ => rfl, hμ, fun b h => .inl h⟩⟩
  · rintro (h | h)
    · exact hR.imm k b hk hf h
    · have := (hR.objs k hk).lt hk hf
      omega
  · rcases h with h | h
    · exact Nat.lt_of_lt_of_le (hR.lt b h) hb.size
    · exact h.2
  · rcases h with h | h
    · exact .inl h
    · exact .inr (.inr h.1)
end Go.Proofs.Ytpnbncdclgmegaa
