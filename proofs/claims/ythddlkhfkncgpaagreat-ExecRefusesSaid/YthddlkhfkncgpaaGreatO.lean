/-
  Arguments as they come in, by their types: lists of numbers, of bits, of rows of cells; structs.
-/
import Derived.Test.YthddlkhfkncgpaaGreatKD
import Derived.ProofKit
import Derived.OpenShut
import Derived.ChangeArms
import Derived.DataReads
set_option linter.unusedVariables false
set_option linter.unusedSimpArgs false
namespace Go.Proofs.YthddlkhfkncgpaaGreat
open Go.RowKit

section
variable {H : Type} {enc : TypeId × Value → H} {P : Program} {w : World} {base : Nat} {held : Bool} {fuel : Nat}
/-- A list, element by element. -/
theorem rd_slice {t e : TypeId} {v : Value} {x : DataW H × List MemPlace} {sz : Nat} (ht : P.underlying t = some (.slice e)) (hsz : P.cellsOf e = sz) (hp : 0 < sz) (Good : List D → Prop)
    (dec : ∀ n cs y, DataW.trod enc P w base (fun _ => true) held n e cs = some y → cs.length = sz → ∃ r : List D, r.length = sz ∧ Good r ∧ ∀ (j : Nat) u t, cs[j]? = some u → r[j]? = some t → Rd w (gAll w).I u t)
    (h : DataW.trod enc P w base (fun _ => true) held fuel t [v] = some x) : ∃ rows, Rd w (gAll w).I v (.ls sz rows.length rows) ∧ rows.length ≤ maxLen ∧ ∀ r ∈ rows, r.length = sz ∧ Good r := by
  rcases DataW.trod_slice ht h with ⟨h0, _⟩ | ⟨a, len, cap, elems, rest, n, _, h1, _, hb, hl, hm, hlen, hel, hrest, _⟩
  · simp at h0
    subst h0
    exact ⟨[], .lsn none sz, by simp, by simp⟩
  · simp at h1
    subst h1
    have each : ∀ i, i < len → ∃ cs r, w.cells? base (a.add (i * sz)) sz = some cs ∧ cs.length = sz ∧ r.length = sz ∧ Good r ∧ ∀ (j : Nat) u t, cs[j]? = some u → r[j]? = some t → Rd w (gAll w).I u t := by
      intro i hi
      have := hel i hi
      rw [List.getElem?_eq_getElem (by omega), hsz] at this
      obtain ⟨cs, c1, c2⟩ := Option.bind_eq_some_iff.1 this
      have c3 := (World.cells?_some c1).2.1
      obtain ⟨r, r1, r2, r3⟩ := dec _ _ _ c2 c3
      exact ⟨cs, r, c1, c3, r1, r2, r3⟩
    cases hcap0 : cap with
    | zero =>
      have : len = 0 := by omega
      subst this
      exact ⟨[], .lsn _ sz, by simp, by simp⟩
    | succ m =>
      obtain ⟨cs0, z1, z2⟩ : ∃ cs, w.cells? base a sz = some cs ∧ cs.length = sz := by
        by_cases h0 : 0 < len
        · obtain ⟨cs, r, c1, c2, _⟩ := each 0 h0
          simp only [Nat.zero_mul, Addr.add, if_true] at c1
          exact ⟨cs, c1, c2⟩
        · have hr := (hrest rfl).2 0 (by omega)
          have hrl := (hrest rfl).1
          rw [hsz, List.getElem?_eq_getElem (by omega)] at hr
          obtain ⟨cs, c1, _⟩ := Option.bind_eq_some_iff.1 hr
          rw [show (len + 0) * sz = 0 by rw [show len + 0 = 0 by omega, Nat.zero_mul]] at c1
          simp only [Addr.add, if_true] at c1
          exact ⟨cs, c1, (World.cells?_some c1).2.1⟩
      have hs : a.spot = none := by
        have := (World.cells?_some z1).2.2 0 (by omega)
        simp only [Addr.add, if_true, World.cell?] at this
        rw [List.getElem?_eq_getElem (by omega)] at this
        split at this
        · split at this
          · cases this
          · rename_i hs; simpa using hs
        · cases this
      have hblk : a.block < w.heap.size := World.cells?_block z1 hp
      rw [← hcap0]
      let f : Nat → List Value := fun i => if h : i < len then Classical.choose (each i h) else []
      let g : Nat → List D := fun i => if h : i < len then Classical.choose (Classical.choose_spec (each i h)) else []
      have hf : ∀ i, i < len → w.cells? base (a.add (i * sz)) sz = some (f i) ∧ (f i).length = sz ∧ (g i).length = sz ∧ Good (g i) ∧ ∀ (j : Nat) u t, (f i)[j]? = some u → (g i)[j]? = some t → Rd w (gAll w).I u t := by
        intro i hi
        simp only [f, g, dif_pos hi]
        exact Classical.choose_spec (Classical.choose_spec (each i hi))
      have hrow : ∀ (i : Nat) r, ((List.range len).map g)[i]? = some r → i < len ∧ r = g i := fun i r hr => by
        have hi : i < len := by have := (List.getElem?_eq_some_iff.1 hr).1; simpa using this
        rw [List.getElem?_map, List.getElem?_range hi] at hr
        exact ⟨hi, by simpa using hr.symm⟩
      refine ⟨(List.range len).map g, ?_, by simp; omega, fun r hr => ?_⟩
      · rw [addr_eta a hs]
        have hl' : ((List.range len).map g).length = len := by simp
        rw [hl']
        refine .ls a.block a.off sz len cap _ (fun i j => ((f i)[j]?).getD undef) hblk (by simp) (by simp; omega) hm hp (fun i r hr => ?_) (fun i r j t hr hj => ?_) (fun i r j t hr hj => ?_)
        · obtain ⟨hi, rfl⟩ := hrow i r hr
          exact (hf i hi).2.2.1
        · obtain ⟨hi, rfl⟩ := hrow i r hr
          obtain ⟨c1, c2, c3, _, _⟩ := hf i hi
          have hjl : j < sz := by have := (List.getElem?_eq_some_iff.1 hj).1; omega
          have := (World.cells?_some c1).2.2 j hjl
          have e : (⟨a.block, a.off + (i * sz + j), none⟩ : Addr) = (a.add (i * sz)).add j := by
            have ha := addr_eta a hs
            unfold Addr.add
            split
            · rename_i h0
              subst h0
              split
              · rename_i h1; rw [h1, ha]; simp
              · rename_i h1; simp [hs]
            · rename_i h0
              split
              · rename_i h1; rw [h1]; simp [hs]
              · simp; omega
          rw [e, this, List.getElem?_eq_getElem (by omega)]
          rfl
        · obtain ⟨hi, rfl⟩ := hrow i r hr
          obtain ⟨c1, c2, c3, _, c5⟩ := hf i hi
          have hjl : j < sz := by have := (List.getElem?_eq_some_iff.1 hj).1; omega
          have hu : (f i)[j]? = some ((f i)[j]'(by omega)) := List.getElem?_eq_getElem (by omega)
          rw [hu]
          exact c5 j _ t hu hj
      · obtain ⟨i, hi⟩ := List.mem_iff_getElem?.1 hr
        obtain ⟨h1, rfl⟩ := hrow i r hi
        exact ⟨(hf i h1).2.2.1, (hf i h1).2.2.2.1⟩
/-- A list of whole numbers. -/
theorem rd_ints {t e : TypeId} {k : IntKind} {v : Value} {x : DataW H × List MemPlace} (ht : P.underlying t = some (.slice e)) (he : P.underlying e = some (.int k)) (hsz : P.cellsOf e = 1) (h : DataW.trod enc P w base (fun _ => true) held fuel t [v] = some x) :
    ∃ l : List Int, Rd w (gAll w).I v (lI k l) ∧ l.length ≤ maxLen ∧ ∀ n ∈ l, (Lit.int k n).wf = true := by
  obtain ⟨rows, h1, h2, h3⟩ := rd_slice ht hsz (by omega) (fun r => ∃ n, r = [.int k n] ∧ (Lit.int k n).wf = true) (fun n cs y hy hl => by
    obtain ⟨m, rfl, _, hw⟩ := DataW.trod_int he hy
    refine ⟨[.int k m], rfl, ⟨m, rfl, hw⟩, fun j u t hu ht => ?_⟩
    cases j with
    | zero => simp at hu ht; subst hu; subst ht; exact .int k m
    | succ j => simp at hu) h
  have : ∃ l : List Int, rows = rI k l ∧ ∀ n ∈ l, (Lit.int k n).wf = true := by
    clear h1 h2
    induction rows with
    | nil => exact ⟨[], rfl, by simp⟩
    | cons r rows ih =>
      obtain ⟨_, n, rfl, hw⟩ := h3 r (by simp)
      obtain ⟨l, rfl, hl⟩ := ih (fun r hr => h3 r (by simp [hr]))
      exact ⟨n :: l, rfl, fun m hm => (List.mem_cons.1 hm).elim (fun e => e ▸ hw) (hl m)⟩
  obtain ⟨l, rfl, hl⟩ := this
  simp at h1 h2
  exact ⟨l, h1, h2, hl⟩
/-- A list of bits. -/
theorem rd_bools {t e : TypeId} {v : Value} {x : DataW H × List MemPlace} (ht : P.underlying t = some (.slice e)) (he : P.underlying e = some .bool) (hsz : P.cellsOf e = 1) (h : DataW.trod enc P w base (fun _ => true) held fuel t [v] = some x) :
    ∃ l : List Bool, Rd w (gAll w).I v (lF l) ∧ l.length ≤ maxLen := by
  obtain ⟨rows, h1, h2, h3⟩ := rd_slice ht hsz (by omega) (fun r => ∃ b, r = [.bool b]) (fun n cs y hy hl => by
    obtain ⟨b, rfl, _⟩ := DataW.trod_bool he hy
    refine ⟨[.bool b], rfl, ⟨b, rfl⟩, fun j u t hu ht => ?_⟩
    cases j with
    | zero => simp at hu ht; subst hu; subst ht; exact .bool b
    | succ j => simp at hu) h
  have : ∃ l : List Bool, rows = rF l := by
    clear h1 h2
    induction rows with
    | nil => exact ⟨[], rfl⟩
    | cons r rows ih =>
      obtain ⟨_, b, rfl⟩ := h3 r (by simp)
      obtain ⟨l, rfl⟩ := ih (fun r hr => h3 r (by simp [hr]))
      exact ⟨b :: l, rfl⟩
  obtain ⟨l, rfl⟩ := this
  simp at h1 h2
  exact ⟨l, h1, h2⟩
/-- The cells of a struct: the field at a place, of one cell. -/
theorem trod_field {t : TypeId} {fs : Array Field} {cs : List Value} {x : DataW H × List MemPlace} (ht : P.underlying t = some (.struct fs)) (h : DataW.trod enc P w base (fun _ => true) held fuel t cs = some x) :
    cs.length = P.cellsOf t ∧ ∀ (i : Nat) (f : Field), fs[i]? = some f → P.cellsOf f.type = 1 → f.offset < cs.length → ∃ n y v, cs[f.offset]? = some v ∧ DataW.trod enc P w base (fun _ => true) held n f.type [v] = some y := by
  obtain ⟨xs, n, _, _, hl, hlen, hf⟩ := DataW.trod_struct ht h
  refine ⟨hl, fun i f hfi hc ho => ?_⟩
  have := hf i f hfi
  have hi : i < fs.size := (Array.getElem?_eq_some_iff.1 hfi).1
  rw [List.getElem?_eq_getElem (by omega), hc] at this
  have hd : (cs.drop f.offset).take 1 = [cs[f.offset]] := by
    rw [List.drop_eq_getElem_cons ho]; rfl
  rw [hd] at this
  exact ⟨n, _, _, List.getElem?_eq_getElem ho, this⟩
end
/-- What came in as an argument of a type. -/
def Came (P : Program) (w : World) (t : TypeId) (v : Value) : Prop :=
  ∃ (H : Type) (enc : TypeId × Value → H) (d : DataW H) (ps : List MemPlace) (b : Nat), DataW.Trod enc P w 0 (fun _ => true) true t v d ps ∧ Value.okWide P w .any b t v
theorem Came.ints {P : Program} {w : World} {t e : TypeId} {k : IntKind} {v : Value} (h : Came P w t v) (ht : P.underlying t = some (.slice e)) (he : P.underlying e = some (.int k)) (hsz : P.cellsOf e = 1) :
    ∃ l : List Int, RV w (gAll w) v (vD (lI k l)) ∧ l.length ≤ maxLen ∧ ∀ n ∈ l, (Lit.int k n).wf = true := by
  obtain ⟨H, enc, d, ps, b, ⟨fuel, hf⟩, hok⟩ := h
  obtain ⟨a, len, cap, rfl⟩ := Go.WideShapes.okWide_slice ht hok
  obtain ⟨l, h1, h2, h3⟩ := rd_ints ht he hsz (v := .slice a len cap) (by simpa [Value.cells] using hf)
  exact ⟨l, .e (.c (.t h1)), h2, h3⟩
theorem Came.bools {P : Program} {w : World} {t e : TypeId} {v : Value} (h : Came P w t v) (ht : P.underlying t = some (.slice e)) (he : P.underlying e = some .bool) (hsz : P.cellsOf e = 1) :
    ∃ l : List Bool, RV w (gAll w) v (vD (lF l)) ∧ l.length ≤ maxLen := by
  obtain ⟨H, enc, d, ps, b, ⟨fuel, hf⟩, hok⟩ := h
  obtain ⟨a, len, cap, rfl⟩ := Go.WideShapes.okWide_slice ht hok
  obtain ⟨l, h1, h2⟩ := rd_bools ht he hsz (v := .slice a len cap) (by simpa [Value.cells] using hf)
  exact ⟨l, .e (.c (.t h1)), h2⟩
/-- A struct of cells, field by field. -/
theorem Came.struct {P : Program} {w : World} {t : TypeId} {fs : Array Field} {v : Value} (h : Came P w t v) (ht : P.underlying t = some (.struct fs)) :
    ∃ arr : Array Value, v = .agg arr ∧ arr.size = P.cellsOf t ∧ ∃ (H : Type) (enc : TypeId × Value → H), ∀ (i : Nat) (f : Field), fs[i]? = some f → P.cellsOf f.type = 1 → f.offset < arr.size →
      ∃ n y u, arr[f.offset]? = some u ∧ DataW.trod enc P w 0 (fun _ => true) true n f.type [u] = some y := by
  obtain ⟨H, enc, d, ps, b, ⟨fuel, hf⟩, hok⟩ := h
  obtain ⟨arr, rfl, hs⟩ := Go.WideShapes.okWide_struct ht hok
  obtain ⟨_, h2⟩ := trod_field ht hf
  refine ⟨arr, rfl, hs, H, enc, fun i f hi hc ho => ?_⟩
  obtain ⟨n, y, u, h3, h4⟩ := h2 i f hi hc (by simpa [Value.cells] using ho)
  exact ⟨n, y, u, by simpa [Value.cells] using h3, h4⟩
end Go.Proofs.YthddlkhfkncgpaaGreat
