/-
  What aop says is so: structs built, memory made.
-/
import Derived.Test.YtheaeddojcebjaaK7
set_option linter.unusedVariables false
set_option linter.unusedSimpArgs false
namespace Go.Proofs.Ytheaeddojcebjaa
open Go.RowKit

theorem putAt_length {α : Type} : ∀ (xs : List α) (cs : List α) (off : Nat), (putAt cs off xs).length = cs.length
  | [], cs, off => rfl
  | x :: xs, cs, off => by simp only [putAt]; rw [putAt_length xs]; simp
theorem putAt_get {α : Type} : ∀ (xs : List α) (cs : List α) (off q : Nat), (putAt cs off xs)[q]? = if off ≤ q ∧ q < off + xs.length ∧ q < cs.length then xs[q - off]? else cs[q]?
  | [], cs, off, q => by simp only [putAt, List.length_nil]; rw [if_neg (by omega)]
  | x :: xs, cs, off, q => by
    simp only [putAt]
    rw [putAt_get xs (cs.set off x) (off + 1) q]
    simp only [List.length_set, List.length_cons, List.getElem?_set]
    by_cases h1 : off = q
    · subst h1
      rw [if_neg (by omega)]
      by_cases h2 : off < cs.length
      · rw [if_pos rfl, if_pos h2, if_pos (by omega)]; simp
      · rw [if_pos rfl, if_neg h2, if_neg (by omega)]; rw [List.getElem?_eq_none (by omega)]
    · rw [if_neg h1]
      by_cases h2 : off + 1 ≤ q ∧ q < off + 1 + xs.length ∧ q < cs.length
      · rw [if_pos h2, if_pos (by omega)]
        rw [show q - off = (q - (off + 1)) + 1 by omega, List.getElem?_cons_succ]
      · rw [if_neg h2, if_neg (by omega)]
theorem fold_size : ∀ (l : List Value) (k : Nat) (off : Nat) (arr : Array Value), ((l.zipIdx k).foldl (fun cs (x : Value × Nat) => cs.setIfInBounds (off + x.2) x.1) arr).size = arr.size
  | [], k, off, arr => rfl
  | x :: l, k, off, arr => by simp only [List.zipIdx_cons, List.foldl_cons]; rw [fold_size l]; simp
theorem fold_get : ∀ (l : List Value) (k : Nat) (off : Nat) (arr : Array Value) (q : Nat), ((l.zipIdx k).foldl (fun cs (x : Value × Nat) => cs.setIfInBounds (off + x.2) x.1) arr)[q]? = if off + k ≤ q ∧ q < off + k + l.length ∧ q < arr.size then l[q - (off + k)]? else arr[q]?
  | [], k, off, arr, q => by simp only [List.zipIdx_nil, List.foldl_nil, List.length_nil]; rw [if_neg (by omega)]
  | x :: l, k, off, arr, q => by
    simp only [List.zipIdx_cons, List.foldl_cons]
    rw [fold_get l]
    simp only [Array.size_setIfInBounds, List.length_cons, Array.getElem?_setIfInBounds]
    by_cases h1 : off + k = q
    · subst h1
      rw [if_neg (by omega)]
      by_cases h2 : off + k < arr.size
      · rw [if_pos rfl, if_pos h2, if_pos (by omega)]; simp
      · rw [if_pos rfl, if_neg h2, if_neg (by omega)]; rw [Array.getElem?_eq_none (by omega)]
    · rw [if_neg h1]
      by_cases h2 : off + (k + 1) ≤ q ∧ q < off + (k + 1) + l.length ∧ q < arr.size
      · rw [if_pos h2, if_pos (by omega)]
        rw [show q - (off + k) = (q - (off + (k + 1))) + 1 by omega, List.getElem?_cons_succ]
      · rw [if_neg h2, if_neg (by omega)]
def placeIn (arr : Array Value) (off : Nat) (v : Value) : Array Value := v.cells.zipIdx.foldl (fun cs (x : Value × Nat) => cs.setIfInBounds (off + x.2) x.1) arr
theorem placeIn_list (arr : Array Value) (off : Nat) (v : Value) : placeIn arr off v = (v.cells.toList.zipIdx 0).foldl (fun cs (x : Value × Nat) => cs.setIfInBounds (off + x.2) x.1) arr := by
  unfold placeIn
  rw [← Array.foldl_toList, Array.toList_zipIdx]
section
variable {P : Program} {w : World} {g : Gh}
theorem Cells.place {arr : Array Value} {cs : List C} {v : Value} {e : E} (h : Cells w g arr cs) (hv : RE w g v e) (off : Nat) : Cells w g (placeIn arr off v) (putAt cs off e.cells) := by
  obtain ⟨h1, h2⟩ := re_cells hv
  rw [placeIn_list]
  refine ⟨by rw [fold_size, putAt_length, h.1], fun j c hj => ?_⟩
  rw [putAt_get] at hj
  rw [fold_get]
  have hs : v.cells.toList.length = e.cells.length := by simpa using h1
  rw [hs, h.1, Nat.add_zero]
  split at hj
  · rename_i hc
    rw [if_pos hc]
    obtain ⟨u, u1, u2⟩ := h2 _ c hj
    exact ⟨u, by simpa using u1, u2⟩
  · rename_i hc
    rw [if_neg hc]
    exact h.2 j c hj
theorem fill_step (place : Nat → Option (Nat × Nat)) (arr : Array Value) (i off n : Nat) (v : Value) (r : List (Nat × Value)) (hp : place i = some (off, n)) (h1 : v.cells.size = n) (h2 : off + n ≤ arr.size) :
    Instr.fill place arr ((i, v) :: r) = Instr.fill place (placeIn arr off v) r := by
  conv => lhs; unfold Instr.fill
  simp only [hp, h1]
  rw [if_neg (by simp; omega)]
  rfl
theorem fill_ok {place : Nat → Option (Nat × Nat)} {ρ : Env} {a : Act} {ts : List Nat} (he : EnvOn w g a ρ ts) :
    ∀ (parts : List (Nat × Operand)) (aps : List (Nat × Nat × AX)) (es : List (Nat × Nat × E)) (arr : Array Value) (zero cs : List C) (p : Prop), aps.length = parts.length →
      (∀ (j : Nat) q r, parts[j]? = some q → aps[j]? = some r → place q.1 = some (r.1, r.2.1) ∧ trX q.2 = some r.2.2 ∧ ∀ t ∈ r.2.2.ts, t ∈ ts) → evP ρ aps = some es → fillC zero es = some (p, cs) → p → Cells w g arr zero →
      ∃ arr', Instr.fill place arr (parts.map fun q => (q.1, a.eval q.2)) = some arr' ∧ Cells w g arr' cs
  | [], aps, es, arr, zero, cs, p, hlen, hh, hev, hf, hp, hc => by
    obtain rfl : aps = [] := List.eq_nil_of_length_eq_zero hlen
    simp [evP] at hev
    subst hev
    simp [fillC] at hf
    obtain ⟨_, rfl⟩ := hf
    exact ⟨arr, rfl, hc⟩
  | (i, x) :: parts, aps, es, arr, zero, cs, p, hlen, hh, hev, hf, hp, hc => by
    cases aps with
    | nil => cases hlen
    | cons r aps =>
      obtain ⟨off, n, ax⟩ := r
      obtain ⟨q1, q2, q3⟩ := hh 0 (i, x) (off, n, ax) rfl rfl
      unfold evP at hev
      split at hev
      · rename_i e l e1 e2
        cases hev
        unfold fillC at hf
        split at hf
        · rename_i p' cs' hf'
          cases hf
          obtain ⟨⟨c1, c2⟩, c3⟩ := hp
          have hv := rv_e (ev_ok q2 he q3 e1)
          obtain ⟨k1, _⟩ := re_cells hv
          obtain ⟨arr', i1, i2⟩ := fill_ok he parts aps l (placeIn arr off (a.eval x)) (putAt zero off e.cells) _ p' (by simpa using hlen) (fun j q r h1 h2 => hh (j + 1) q r (by simpa using h1) (by simpa using h2)) e2 hf' c3 (hc.place hv off)
          refine ⟨arr', ?_, i2⟩
          simp only [List.map_cons]
          rw [fill_step place arr i off n _ _ q1 (by rw [k1, c1]) (by rw [hc.1]; exact c2)]
          exact i1
        · cases hf
      · cases hev
theorem zeroB_ok {t : TypeId} {z : Array Value} (h : zeroB P t = some z) : ∃ v, (∀ w, (zeroValue t).run P w = .ok v w) ∧ v.cells = z := by
  unfold zeroB at h
  cases hi : P.info? t with
  | none => simp [hi] at h
  | some i => cases hz : i.zero with
    | none => simp [hi, hz] at h
    | some v => simp [hi, hz] at h; exact ⟨v, fun w => by simp [zeroValue, typeInfo, hi, hz], h⟩
theorem zeroC_ok {t : TypeId} {cs : List C} (h : zeroC P t = some cs) : ∃ v, (∀ w, (zeroValue t).run P w = .ok v w) ∧ ∀ w g, Cells w g v.cells cs := by
  unfold zeroC at h
  cases hz : zeroB P t with
  | none => simp [hz] at h
  | some z =>
    simp [hz] at h
    obtain ⟨v, h1, rfl⟩ := zeroB_ok hz
    obtain ⟨l1, l2⟩ := listM_ok h
    refine ⟨v, h1, fun w g => ⟨by simpa using l1, fun j c hj => ?_⟩⟩
    obtain ⟨u, u1, u2⟩ := l2 j c hj
    exact ⟨u, by simpa using u1, toC_ok u2 w g⟩
theorem zeroD_ok {t : TypeId} {ds : List D} (h : zeroD P t = some ds) : ∃ v, (∀ w, (zeroValue t).run P w = .ok v w) ∧ v.cells.size = ds.length ∧ ∀ w I (j : Nat) d, ds[j]? = some d → ∃ u, v.cells[j]? = some u ∧ Rd w I u d := by
  unfold zeroD at h
  cases hz : zeroB P t with
  | none => simp [hz] at h
  | some z =>
    simp [hz] at h
    obtain ⟨v, h1, rfl⟩ := zeroB_ok hz
    obtain ⟨l1, l2⟩ := listM_ok h
    refine ⟨v, h1, by simpa using l1, fun w I j c hj => ?_⟩
    obtain ⟨u, u1, u2⟩ := l2 j c hj
    exact ⟨u, by simpa using u1, toD_ok u2 w I⟩
theorem run_places {fs : Array Field} {ns : List (Nat × Nat)} (h : listM (fun (f : Field) => (sizeB P f.type).map fun n => (f.offset, n)) fs.toList = some ns) (w : World) :
    (fs.mapM fun f => do pure (f.offset, ← sizeOf f.type) : Sem (Array (Nat × Nat))).run P w = .ok ns.toArray w := by
  rw [Array.mapM_eq_mapM_toList]
  have key : ∀ (l : List Field) (ns : List (Nat × Nat)), listM (fun (f : Field) => (sizeB P f.type).map fun n => (f.offset, n)) l = some ns → (l.mapM fun f => do pure (f.offset, ← sizeOf f.type) : Sem (List (Nat × Nat))).run P w = .ok ns w := by
    intro l
    induction l with
    | nil => intro ns h; simp [listM] at h; subst h; simp
    | cons f l ih =>
      intro ns h
      unfold listM at h
      cases hs : sizeB P f.type with
      | none => simp [hs] at h
      | some n => cases hl : listM (fun (f : Field) => (sizeB P f.type).map fun n => (f.offset, n)) l with
        | none => simp [hs, hl] at h
        | some r =>
          simp [hs, hl] at h
          subst h
          rw [List.mapM_cons]
          simp only [Sem.run_bind, run_sizeB hs, Result.andThen_ok, Sem.run_pure, ih r hl]
  simp only [Sem.run_map, key _ _ h, Result.andThen_ok]
end
section
variable {P : Program} {N : Nat} {o : Oper} {ρ : Env} {ts : List Nat} {hl : List Ob} {p : Prop} {s : Res}
theorem s_buildS {t : TypeId} {parts : Array (Nat × Operand)} {zero : List C} {fs : List (Nat × Nat)} {aps : List (Nat × Nat × AX)} (ho : o.op = .build t parts) (hz : zeroC P t = some zero) (hf : fieldsB P t = some fs)
    (hp : listM (fun (p : Nat × Operand) => match fs[p.1]?, trX p.2 with | some (off, n), some x => some (off, n, x) | _, _ => none) parts.toList = some aps) (t1 : ∀ r ∈ aps, ∀ t ∈ r.2.2.ts, t ∈ ts)
    (h : aop (.build zero aps) ρ hl = some (p, s)) (hpp : p) : OpR P N o ρ ts hl s := by
  simp only [aop] at h
  split at h
  · rename_i es e1
    split at h
    · rename_i q cs e2
      cases h
      refine OpR.val rfl rfl fun a w g hh _ hR he => ?_
      obtain ⟨v, z1, z2⟩ := zeroC_ok hz
      obtain ⟨l1, l2⟩ := listM_ok hp
      unfold fieldsB at hf
      split at hf
      · rename_i fds hu
        obtain ⟨arr', i1, i2⟩ := fill_ok (place := fun i => fs[i]?) he parts.toList aps es v.cells zero cs _ l1.symm (fun j q r h1 h2 => by
          obtain ⟨a', a1, a2⟩ := l2 j r h2
          rw [h1] at a1
          injection a1 with a1
          subst a1
          split at a2
          · rename_i off n x b1 b2
            cases a2
            exact ⟨b1, b2, t1 _ (List.mem_of_getElem? h2)⟩
          · cases a2) e1 e2 hpp (z2 w g)
        refine ⟨.agg arr', ?_, i2.all⟩
        simp only [execOp, ho]
        refine run_v ?_
        have hpl := run_places (P := P) hf w
        have hmap : (parts.map fun x => (x.1, a.eval x.2)).toList = parts.toList.map fun q => (q.1, a.eval q.2) := by simp
        have hget : (fun x : Nat => fs.toArray[x]?) = fun i => fs[i]? := by funext i; simp
        simp only [Instr.build, Sem.run_bind, z1 w, Result.andThen_ok, run_underlying hu, hpl, hmap, hget, i1, Sem.run_pure]
      · cases hf
    · cases h
  · cases h
theorem s_buildA {t e : TypeId} {len sz : Nat} {parts : Array (Nat × Operand)} {zero : List C} {aps : List (Nat × Nat × AX)} (ho : o.op = .build t parts) (hz : zeroC P t = some zero) (hu : P.underlying t = some (.array len e)) (hsz : sizeB P e = some sz)
    (hp : listM (fun (p : Nat × Operand) => (trX p.2).map fun x => (p.1 * sz, sz, x)) parts.toList = some aps) (t1 : ∀ r ∈ aps, ∀ t ∈ r.2.2.ts, t ∈ ts)
    (h : aop (.build zero aps) ρ hl = some (p, s)) (hpp : p) : OpR P N o ρ ts hl s := by
  simp only [aop] at h
  split at h
  · rename_i es e1
    split at h
    · rename_i q cs e2
      cases h
      refine OpR.val rfl rfl fun a w g hh _ hR he => ?_
      obtain ⟨v, z1, z2⟩ := zeroC_ok hz
      obtain ⟨l1, l2⟩ := listM_ok hp
      obtain ⟨arr', i1, i2⟩ := fill_ok (place := fun i => some (i * sz, sz)) he parts.toList aps es v.cells zero cs _ l1.symm (fun j q r h1 h2 => by
          obtain ⟨a', a1, a2⟩ := l2 j r h2
          rw [h1] at a1
          injection a1 with a1
          subst a1
          cases hx : trX q.2 with
          | none => simp [hx] at a2
          | some x =>
            simp [hx] at a2
            subst a2
            exact ⟨rfl, rfl, t1 _ (List.mem_of_getElem? h2)⟩) e1 e2 hpp (z2 w g)
      refine ⟨.agg arr', ?_, i2.all⟩
      simp only [execOp, ho]
      refine run_v ?_
      have hmap : (parts.map fun x => (x.1, a.eval x.2)).toList = parts.toList.map fun q => (q.1, a.eval q.2) := by simp
      simp only [Instr.build, Sem.run_bind, z1 w, Result.andThen_ok, run_underlying hu, run_sizeB hsz, hmap, i1, Sem.run_pure]
    · cases h
  · cases h
end
end Go.Proofs.Ytheaeddojcebjaa
