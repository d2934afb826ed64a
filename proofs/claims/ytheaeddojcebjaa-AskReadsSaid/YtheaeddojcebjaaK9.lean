/-
  What aop says is so: memory made.
-/
import Derived.Test.YtheaeddojcebjaaK8
set_option linter.unusedVariables false
set_option linter.unusedSimpArgs false
namespace Go.Proofs.Ytheaeddojcebjaa
open Go.RowKit

def Gh.set (g : Gh) (i : Nat) (l : Loc) (F : Nat → Prop) : Gh := { I := g.I, μ := fun j => if j = i then some l else g.μ j, fp := fun j => if j = i then F else g.fp j }
def Gh.more (g : Gh) (b : Nat) : Gh := { I := fun c => g.I c ∨ c = b, μ := g.μ, fp := g.fp }
theorem Gh.set_gm {g : Gh} {i : Nat} {l : Loc} {F : Nat → Prop} (h : g.μ i = none) : Gm g (g.set i l F) :=
  ⟨fun _ h => h, fun j m hm => by
    simp only [Gh.set]
    rw [if_neg (by rintro rfl; rw [h] at hm; cases hm)]
    exact hm⟩
theorem Gh.more_gm (g : Gh) (b : Nat) : Gm g (g.more b) := ⟨fun _ h => .inl h, fun _ _ h => h⟩
theorem isNew1 {base i : Nat} : isNew base 1 i ↔ i = base := by simp [isNew]; omega
theorem app_new1 {v : V} {rd : List Nat} {ob : Ob} {base : Nat} {h : Nat → Ob} (hd : h base = .dead) (i : Nat) : Res.app { v := v, rd := rd, nw := [ob] } base h i = if i = base then ob else h i := by
  simp only [Res.app, getO]
  by_cases h1 : i = base
  · subst h1; simp
  · rw [if_neg h1]
    split
    · rw [List.getElem?_eq_none (by simp; omega)]
    · rfl
section
variable {w w' : World} {g : Gh} {h : Nat → Ob} {base : Nat}
/-- A new object. -/
theorem alloc1 (hR : Rl w g h) (hk : Keeps Nope w w') (hnew : ∀ i, isNew base 1 i → g.μ i = none ∧ h i = .dead) (l : Loc) (F : Nat → Prop) (ob : Ob) (hF : ∀ b, F b → w.heap.size ≤ b) (ho : HO w' (g.set base l F) base ob) (v : V) (rd : List Nat) :
    Rl w' (g.set base l F) (Res.app { v := v, rd := rd, nw := [ob] } base h) ∧ Go1 w g h [] base 1 w' (g.set base l F) (Res.app { v := v, rd := rd, nw := [ob] } base h) := by
  obtain ⟨n1, n2⟩ := hnew base (isNew1.2 rfl)
  have happ := app_new1 (v := v) (rd := rd) (ob := ob) n2
  have hg : Go1 w g h [] base 1 w' (g.set base l F) (Res.app { v := v, rd := rd, nw := [ob] } base h) := by
    refine ⟨hk.mono (fun _ _ f => f.elim), Gh.set_gm n1, fun b hb => .inl hb, fun i hi hn => ?_, fun i _ hi => ?_, fun i b hi hl hb => ?_⟩
    · rw [isNew1] at hi; simp only [Gh.set]; rw [if_neg hi]; exact hn
    · rw [isNew1] at hi; simp only [Gh.set]; rw [if_neg hi]
    · rcases hi with hi | hi
      · cases hi
      · rw [isNew1] at hi
        subst hi
        simp only [Gh.set, if_true] at hb
        exact .inr (hF b hb)
  refine ⟨hR.step hg (fun i _ hi => ?_) (fun i hi => ?_) (fun i hi hl => ?_) (fun i j b hi hj _ _ _ _ => ?_) (fun i b hi hl hb => ?_) (fun b hb => Nat.lt_of_lt_of_le (hR.lt b hb) hk.size), hg⟩
  · rw [isNew1] at hi; rw [happ, if_neg hi]
  · rw [isNew1] at hi; subst hi; rw [n2]; rfl
  · rcases hi with hi | hi
    · cases hi
    · rw [isNew1] at hi; subst hi
      rw [happ, if_pos rfl]; exact ho
  · rcases hi with hi | hi
    · cases hi
    · rcases hj with hj | hj
      · cases hj
      · rw [isNew1] at hi hj; rw [hi, hj]
  · rcases hi with hi | hi
    · cases hi
    · rw [isNew1] at hi; subst hi
      simp only [Gh.set, if_true] at hb
      intro hI
      have := hR.lt b hI
      have := hF b hb
      omega
/-- Memory that does not change any more. -/
theorem freeze1 (hR : Rl w g h) (hk : Keeps Nope w w') {b : Nat} (hb1 : w.heap.size ≤ b) (hb2 : b < w'.heap.size) : Rl w' (g.more b) h ∧ Go1 w g h [] base 0 w' (g.more b) h := by
  have hg : Go1 w g h [] base 0 w' (g.more b) h := by
    refine ⟨hk.mono (fun _ _ f => f.elim), g.more_gm b, fun c hc => ?_, fun i _ hn => hn, fun i _ _ => rfl, fun i c hi => by simp [isNew] at hi; omega⟩
    rcases hc with hc | rfl
    · exact .inl hc
    · exact .inr (.inr hb1)
  refine ⟨hR.step hg (fun _ _ _ => rfl) (fun i hi => by simp [isNew] at hi; omega) (fun i hi => by simp [isNew] at hi; omega) (fun i j c hi => by simp [isNew] at hi; omega) (fun i c hi => by simp [isNew] at hi; omega) (fun c hc => ?_), hg⟩
  rcases hc with hc | rfl
  · exact Nat.lt_of_lt_of_le (hR.lt c hc) hk.size
  · exact hb2
/-- An object that is turned. -/
theorem turn1 (hR : Rl w g h) {id : Nat} (hl : (h id).live = true) (hk : Keeps (g.fp id) w w') (ob : Ob) (ho : HO w' g id ob) (v : V) (rd : List Nat) :
    Rl w' g (Res.app { v := v, wr := [(id, ob)], rd := rd } base h) ∧ Go1 w g h [id] base 0 w' g (Res.app { v := v, wr := [(id, ob)], rd := rd } base h) := by
  have happ : ∀ i, Res.app { v := v, wr := [(id, ob)], rd := rd } base h i = if i = id then ob else h i := by
    intro i
    simp only [Res.app, getO]
    by_cases h1 : id = i
    · subst h1; simp
    · rw [if_neg h1, if_neg (Ne.symm h1)]; simp
  have hg : Go1 w g h [id] base 0 w' g (Res.app { v := v, wr := [(id, ob)], rd := rd } base h) := by
    refine ⟨hk.mono (fun b _ hb => ⟨id, by simp, hl, hb⟩), Gm.refl g, fun b hb => .inl hb, fun i _ hn => hn, fun i _ _ => rfl, fun i b hi hli hb => ?_⟩
    rcases hi with hi | hi
    · simp at hi; subst hi
      exact .inl ⟨i, by simp, hl, hb⟩
    · simp [isNew] at hi; omega
  refine ⟨hR.step hg (fun i hi _ => ?_) (fun i hi => by simp [isNew] at hi; omega) (fun i hi hli => ?_) (fun i j b hi hj _ _ _ _ => ?_) (fun i b hi hli hb => ?_) (fun b hb => Nat.lt_of_lt_of_le (hR.lt b hb) hk.size), hg⟩
  · simp at hi; rw [happ, if_neg hi]
  · rcases hi with hi | hi
    · simp at hi; subst hi; rw [happ, if_pos rfl]; exact ho
    · simp [isNew] at hi; omega
  · have : ∀ k, (k ∈ [id] ∨ isNew base 0 k) → k = id := fun k hk => by
      rcases hk with hk | hk
      · simpa using hk
      · simp [isNew] at hk; omega
    rw [this i hi, this j hj]
  · rcases hi with hi | hi
    · simp at hi; subst hi; exact hR.imm i b hl hb
    · simp [isNew] at hi; omega
end

/-- The rows of a block. -/
def RowsIn (w : World) (I : Nat → Prop) (arr : Array Value) (sz : Nat) (rows : List (List D)) : Prop := ∀ (p : Nat) r, rows[p]? = some r → r.length = sz ∧ ∀ (j : Nat) t, r[j]? = some t → ∃ v, arr[p * sz + j]? = some v ∧ Rd w I v t
section
variable {P : Program} {w : World} {g : Gh}
theorem unT_ok : ∀ {cs : List C} {ds : List D}, unT cs = some ds → cs = ds.map .t
  | [], ds, h => by simp [unT] at h; subst h; rfl
  | c :: cs, ds, h => by
    cases c <;> simp only [unT] at h <;> try (cases h; done)
    split at h
    · rename_i r hr; cases h; rw [unT_ok hr]; rfl
    · cases h
theorem RowsIn.place {arr : Array Value} {sz : Nat} {rows : List (List D)} (h : RowsIn w g.I arr sz rows) {v : Value} {e : E} (hv : RE w g v e) {ds : List D} (hd : unT e.cells = some ds) (hl : ds.length = sz) (i : Nat) (hsz : (i + 1) * sz ≤ arr.size) :
    RowsIn w g.I (placeIn arr (i * sz) v) sz (rows.set i ds) := by
  obtain ⟨h1, h2⟩ := re_cells hv
  have he := unT_ok hd
  have hs : v.cells.toList.length = sz := by rw [Array.length_toList, h1, he, List.length_map, hl]
  have hmul : (i + 1) * sz = i * sz + sz := by rw [Nat.add_mul]; simp
  intro p r hr
  rw [List.getElem?_set] at hr
  have hget : ∀ q, (placeIn arr (i * sz) v)[q]? = if i * sz ≤ q ∧ q < i * sz + sz ∧ q < arr.size then v.cells.toList[q - i * sz]? else arr[q]? := fun q => by
    rw [placeIn_list, fold_get, hs, Nat.add_zero]
  split at hr
  · rename_i hip
    subst hip
    split at hr
    · cases hr
      refine ⟨hl, fun j t hj => ?_⟩
      have hjl := (List.getElem?_eq_some_iff.1 hj).1
      rw [hget, if_pos (by omega)]
      obtain ⟨u, u1, u2⟩ := h2 j (.t t) (by rw [he, List.getElem?_map, hj]; rfl)
      refine ⟨u, ?_, by cases u2 with | t u2 => exact u2⟩
      rw [show i * sz + j - i * sz = j by omega]
      simpa using u1
    · cases hr
  · rename_i hip
    obtain ⟨r1, r2⟩ := h p r hr
    refine ⟨r1, fun j t hj => ?_⟩
    have hjl := (List.getElem?_eq_some_iff.1 hj).1
    rw [hget, if_neg ?_]
    · exact r2 j t hj
    · rintro ⟨c1, c2, _⟩
      rcases Nat.lt_or_ge p i with hlt | hge
      · have : (p + 1) * sz ≤ i * sz := Nat.mul_le_mul_right _ hlt
        rw [Nat.add_mul] at this
        omega
      · have : (i + 1) * sz ≤ p * sz := Nat.mul_le_mul_right _ (by omega)
        omega
theorem fillR_ok {ρ : Env} {a : Act} {ts : List Nat} (he : EnvOn w g a ρ ts) {sz : Nat} :
    ∀ (parts : List (Nat × Operand)) (aps : List (Nat × AX)) (arr : Array Value) (rows rows' : List (List D)) (p : Prop), listM (fun (p : Nat × Operand) => (trX p.2).map fun x => (p.1, x)) parts = some aps → (∀ r ∈ aps, ∀ t ∈ r.2.ts, t ∈ ts) →
      fillR sz rows ρ aps = some (p, rows') → p → RowsIn w g.I arr sz rows → arr.size = rows.length * sz →
      ∃ arr', Instr.fill (fun i => some (i * sz, sz)) arr (parts.map fun q => (q.1, a.eval q.2)) = some arr' ∧ RowsIn w g.I arr' sz rows' ∧ arr'.size = arr.size ∧ rows'.length = rows.length
  | [], aps, arr, rows, rows', p, hl, ht, hf, hp, hr, hs => by
    simp [listM] at hl
    subst hl
    simp [fillR] at hf
    obtain ⟨_, rfl⟩ := hf
    exact ⟨arr, rfl, hr, rfl, rfl⟩
  | (i, x) :: parts, aps, arr, rows, rows', p, hl, ht, hf, hp, hr, hs => by
    unfold listM at hl
    cases hx : trX x with
    | none => simp [hx] at hl
    | some ax =>
      cases hr' : listM (fun (p : Nat × Operand) => (trX p.2).map fun x => (p.1, x)) parts with
      | none => simp [hx, hr'] at hl
      | some aps' =>
        simp [hx, hr'] at hl
        subst hl
        unfold fillR at hf
        split at hf
        · rename_i e e1
          split at hf
          · rename_i ds hd
            split at hf
            · rename_i p' rs hf'
              cases hf
              obtain ⟨⟨c1, c2⟩, c3⟩ := hp
              have hv := rv_e (ev_ok hx he (ht (i, ax) (by simp)) e1)
              have hb : (i + 1) * sz ≤ arr.size := by rw [hs]; exact Nat.mul_le_mul_right _ c2
              have hb2 : (i + 1) * sz = i * sz + sz := by rw [Nat.add_mul]; simp
              have hcs : (a.eval x).cells.size = sz := by rw [(re_cells hv).1, unT_ok hd, List.length_map, c1]
              obtain ⟨arr', i1, i2, i3, i4⟩ := fillR_ok he parts aps' (placeIn arr (i * sz) (a.eval x)) (rows.set i ds) rows' p' hr' (fun r hr => ht r (by simp [hr])) hf' c3 (hr.place hv hd c1 i hb) (by rw [placeIn_list, fold_size, List.length_set, hs])
              refine ⟨arr', ?_, i2, by rw [i3, placeIn_list, fold_size], by rw [i4, List.length_set]⟩
              simp only [List.map_cons]
              rw [fill_step _ arr i (i * sz) sz _ _ rfl hcs (by omega)]
              exact i1
            · cases hf
          · cases hf
        · cases hf
theorem zero_rows {v : Value} {zero : List D} {sz : Nat} (hz : zero.length = sz) (hv : v.cells.size = zero.length) (hd : ∀ w I (j : Nat) d, zero[j]? = some d → ∃ u, v.cells[j]? = some u ∧ Rd w I u d) (hsz : 0 < sz) (n m : Nat) (hnm : n ≤ m) :
    RowsIn w g.I ((Array.range (m * sz)).map (v.cells[· % v.cells.size]!)) sz (List.replicate n zero) := by
  intro p r hr
  rw [List.getElem?_replicate] at hr
  split at hr
  · rename_i hp
    cases hr
    refine ⟨hz, fun j t hj => ?_⟩
    have hjl := (List.getElem?_eq_some_iff.1 hj).1
    obtain ⟨u, u1, u2⟩ := hd w g.I j t hj
    refine ⟨u, ?_, u2⟩
    have hlt : p * sz + j < m * sz := by
      have : (p + 1) * sz ≤ m * sz := Nat.mul_le_mul_right _ (by omega)
      rw [Nat.add_mul] at this
      omega
    have e : (p * sz + j) % v.cells.size = j := by
      rw [hv, hz, Nat.add_comm, Nat.add_mul_mod_self_right, Nat.mod_eq_of_lt (by omega)]
    rw [Array.getElem?_map, Array.getElem?_range, if_pos hlt]
    simp only [Option.map_some, e]
    rw [getElem!_def, u1]
  · cases hr
end
end Go.Proofs.Ytheaeddojcebjaa
