/-
  A small logic over the walks: data that does not change (D), cells (C), objects of a heap by numbers (Ob), and what they are in a world (Rel).
-/
import Derived.Test.YtheaeddojcebjaaReg
import Derived.Test.YtheaeddojcebjaaSl
set_option linter.unusedVariables false
set_option linter.unusedSimpArgs false
namespace Go.Proofs.Ytheaeddojcebjaa
open Go.RowKit

/-- Data in memory that does not change any more. -/
inductive D where
  | int (k : IntKind) (n : Int)
  | bool (b : Bool)
  | str (s : ByteArray)
  | nil
  | ls (sz n : Nat) (rows : List (List D))
  deriving Inhabited
/-- One cell: data, or what leads to an object. -/
inductive C where
  | t (t : D)
  | nilp
  | ptr (id off : Nat)
  | sl (id off n : Nat)
  | el (id i k : Nat)
  | im (cs : List D)
  | mp (id : Nat)
  | fn (f : FuncId) (caps : List C)
  deriving Inhabited
/-- A value: one cell, or a struct's. -/
inductive E where
  | c (c : C)
  | agg (cs : List C)
  deriving Inhabited
/-- What a temporary holds. -/
inductive V where
  | e (e : E)
  | tup (es : List E)
  | u
  deriving Inhabited
structure Loc where
  blk : Nat
  nil : Bool := false
  sz : Nat := 0
  tot : Nat := 0
structure Gh where
  I : Nat → Prop
  μ : Nat → Option Loc
  fp : Nat → Nat → Prop
inductive Ob where
  | dead
  | box (cs : List C)
  | arr (sz : Nat) (rows : List (List D))
  | mp (es : List (E × E))
  | opq (R : World → (Nat → Prop) → Nat → Prop)
def Ob.live : Ob → Bool
  | .dead => false
  | _ => true

inductive Rd (w : World) (I : Nat → Prop) : Value → D → Prop
  | int (k : IntKind) (n : Int) : Rd w I (.int k n) (.int k n)
  | bool (b : Bool) : Rd w I (.bool b) (.bool b)
  | str (s : ByteArray) : Rd w I (.string s) (.str s)
  | nil (A : Option Addr) : Rd w I (.slice A 0 0) .nil
  | lsn (A : Option Addr) (sz : Nat) : Rd w I (.slice A 0 0) (.ls sz 0 [])
  | ls (b o sz n c : Nat) (rows : List (List D)) (us : Nat → Nat → Value) (hI : I b) (hn : n ≤ rows.length) (hc : rows.length ≤ c) (hm : c ≤ maxLen) (hsz : 0 < sz)
      (hs : ∀ (i : Nat) r, rows[i]? = some r → r.length = sz)
      (hcell : ∀ (i : Nat) r (j : Nat) t, rows[i]? = some r → r[j]? = some t → w.cell? ⟨b, o + (i * sz + j), none⟩ = some (us i j))
      (hr : ∀ (i : Nat) r (j : Nat) t, rows[i]? = some r → r[j]? = some t → Rd w I (us i j) t) : Rd w I (.slice (some ⟨b, o, none⟩) n c) (.ls sz n rows)

inductive RC (w : World) (g : Gh) : Value → C → Prop
  | t {v : Value} {t : D} (h : Rd w g.I v t) : RC w g v (.t t)
  | nilp : RC w g (.pointer none) .nilp
  | ptr {id : Nat} {l : Loc} (off : Nat) (h : g.μ id = some l) (hn : l.nil = false) : RC w g (.pointer (some ⟨l.blk, off, none⟩)) (.ptr id off)
  | sl {id : Nat} {l : Loc} (off n : Nat) (h : g.μ id = some l) (hn : l.nil = false) (ho : off + n ≤ l.tot) : RC w g (.slice (some ⟨l.blk, off * l.sz, none⟩) n (l.tot - off)) (.sl id off n)
  | slz {id : Nat} {l : Loc} (off : Nat) (A : Option Addr) (h : g.μ id = some l) (ho : off = l.tot) : RC w g (.slice A 0 0) (.sl id off 0)
  | el {id : Nat} {l : Loc} (i k : Nat) (h : g.μ id = some l) (hn : l.nil = false) : RC w g (.pointer (some ⟨l.blk, i * l.sz + k, none⟩)) (.el id i k)
  | im (b o : Nat) (cs : List D) (us : Nat → Value) (hI : g.I b) (hc : ∀ (j : Nat) t, cs[j]? = some t → w.cell? ⟨b, o + j, none⟩ = some (us j)) (hr : ∀ (j : Nat) t, cs[j]? = some t → Rd w g.I (us j) t) :
      RC w g (.pointer (some ⟨b, o, none⟩)) (.im cs)
  | mp {id : Nat} {l : Loc} (h : g.μ id = some l) : RC w g (.map (some l.blk)) (.mp id)
  | fn (f : FuncId) (caps : Array Value) (cs : List C) (hs : caps.size = cs.length) (h : ∀ (j : Nat) v c, caps[j]? = some v → cs[j]? = some c → RC w g v c) : RC w g (.func (.func f) #[] caps) (.fn f cs)

inductive RE (w : World) (g : Gh) : Value → E → Prop
  | c {v : Value} {c : C} (h : RC w g v c) : RE w g v (.c c)
  | agg (arr : Array Value) (cs : List C) (hs : arr.size = cs.length) (h : ∀ (j : Nat) c, cs[j]? = some c → ∃ v, arr[j]? = some v ∧ RC w g v c) : RE w g (.agg arr) (.agg cs)
inductive RV (w : World) (g : Gh) : Value → V → Prop
  | e {v : Value} {e : E} (h : RE w g v e) : RV w g v (.e e)
  | tup (arr : Array Value) (es : List E) (hs : arr.size = es.length) (h : ∀ (j : Nat) e, es[j]? = some e → ∃ v, arr[j]? = some v ∧ RE w g v e) : RV w g (.tuple arr) (.tup es)
  | u : RV w g undef .u

/-- The blocks of I are as they were. -/
def Same (I : Nat → Prop) (w w' : World) : Prop := ∀ b, I b → w'.heap[b]? = w.heap[b]?
theorem Rd.more {w w' : World} {I I' : Nat → Prop} {v : Value} {t : D} (hs : Same I w w') (hi : ∀ b, I b → I' b) (h : Rd w I v t) : Rd w' I' v t := by
  induction h with
  | int k n => exact .int k n
  | bool b => exact .bool b
  | str s => exact .str s
  | nil A => exact .nil A
  | lsn A sz => exact .lsn A sz
  | ls b o sz n c rows us hI hn hc hm hsz hsr hcell hr ih =>
    exact .ls b o sz n c rows us (hi b hI) hn hc hm hsz hsr (fun i r j t h1 h2 => (World.cell?_of_block (w := w) (hs b hI)).trans (hcell i r j t h1 h2)) ih
/-- Less is known. -/
theorem Rd.take {w : World} {I : Nat → Prop} {v : Value} {sz n m : Nat} {rows : List (List D)} (h : Rd w I v (.ls sz n rows)) (hm : n ≤ m) : Rd w I v (.ls sz n (rows.take m)) := by
  have ht : ∀ (i : Nat) r, (rows.take m)[i]? = some r → rows[i]? = some r := fun i r hr => by
    rw [List.getElem?_take] at hr
    split at hr
    · exact hr
    · cases hr
  cases h with
  | lsn A sz => rw [List.take_nil]; exact .lsn A sz
  | ls b o _ _ c _ us hI hn hc hmx hsz hs hcell hr =>
    exact .ls b o sz n c _ us hI (by rw [List.length_take]; omega) (by rw [List.length_take]; omega) hmx hsz (fun i r h1 => hs i r (ht i r h1)) (fun i r j t h1 h2 => hcell i r j t (ht i r h1) h2) (fun i r j t h1 h2 => hr i r j t (ht i r h1) h2)
structure Gm (g g' : Gh) : Prop where
  I : ∀ b, g.I b → g'.I b
  μ : ∀ i l, g.μ i = some l → g'.μ i = some l
theorem Gm.refl (g : Gh) : Gm g g := ⟨fun _ h => h, fun _ _ h => h⟩
theorem Gm.trans {a b c : Gh} (h : Gm a b) (k : Gm b c) : Gm a c := ⟨fun x hx => k.I x (h.I x hx), fun i l hl => k.μ i l (h.μ i l hl)⟩
theorem RC.more {w w' : World} {g g' : Gh} {v : Value} {c : C} (hs : Same g.I w w') (hg : Gm g g') (h : RC w g v c) : RC w' g' v c := by
  induction h with
  | t h => exact .t (h.more hs hg.I)
  | nilp => exact .nilp
  | ptr off h hn => exact .ptr off (hg.μ _ _ h) hn
  | sl off n h hn ho => exact .sl off n (hg.μ _ _ h) hn ho
  | slz off A h ho => exact .slz off A (hg.μ _ _ h) ho
  | el i k h hn => exact .el i k (hg.μ _ _ h) hn
  | im b o cs us hI hc hr => exact .im b o cs us (hg.I b hI) (fun j t h => (World.cell?_of_block (w := w) (hs b hI)).trans (hc j t h)) (fun j t h => (hr j t h).more hs hg.I)
  | mp h => exact .mp (hg.μ _ _ h)
  | fn f caps cs hsz h ih => exact .fn f caps cs hsz ih
theorem RE.more {w w' : World} {g g' : Gh} {v : Value} {e : E} (hs : Same g.I w w') (hg : Gm g g') (h : RE w g v e) : RE w' g' v e := by
  cases h with
  | c h => exact .c (h.more hs hg)
  | agg arr cs hl h =>
    refine .agg arr cs hl fun j c hj => ?_
    obtain ⟨v, h1, h2⟩ := h j c hj
    exact ⟨v, h1, h2.more hs hg⟩
theorem RV.more {w w' : World} {g g' : Gh} {v : Value} {x : V} (hs : Same g.I w w') (hg : Gm g g') (h : RV w g v x) : RV w' g' v x := by
  cases h with
  | e h => exact .e (h.more hs hg)
  | tup arr es hl h =>
    refine .tup arr es hl fun j e hj => ?_
    obtain ⟨v, h1, h2⟩ := h j e hj
    exact ⟨v, h1, h2.more hs hg⟩
  | u => exact .u

def Stab (R : World → (Nat → Prop) → Nat → Prop) : Prop := ∀ w w' F b, Same F w w' → R w F b → R w' F b
/-- An object as it lies. -/
def HO (w : World) (g : Gh) (i : Nat) : Ob → Prop
  | .dead => True
  | .box cs => ∃ l arr ty, g.μ i = some l ∧ l.nil = false ∧ w.heap[l.blk]? = some (.cells arr ty (0, 0)) ∧ arr.size = cs.length ∧ (∀ (j : Nat) c, cs[j]? = some c → ∃ v, arr[j]? = some v ∧ RC w g v c) ∧ ∀ b, g.fp i b ↔ b = l.blk
  | .arr sz rows => 0 < sz ∧ ∃ l, g.μ i = some l ∧ l.sz = sz ∧
      ((l.nil = true ∧ l.tot = 0 ∧ rows = [] ∧ ∀ b, ¬ g.fp i b) ∨
       (l.nil = false ∧ rows.length ≤ l.tot ∧ l.tot ≤ maxLen ∧ (∀ b, g.fp i b ↔ b = l.blk) ∧ ∃ arr ty, w.heap[l.blk]? = some (.cells arr ty (0, 0)) ∧ arr.size = l.tot * sz ∧
         ∀ (p : Nat) r, rows[p]? = some r → r.length = sz ∧ ∀ (j : Nat) t, r[j]? = some t → ∃ v, arr[p * sz + j]? = some v ∧ Rd w g.I v t))
  | .mp es => ∃ l arr clock, g.μ i = some l ∧ w.heap[l.blk]? = some (.map arr clock) ∧ arr.size = es.length ∧ (∀ (j : Nat) e, es[j]? = some e → ∃ m, arr[j]? = some m ∧ RE w g m.key e.1 ∧ RE w g m.val e.2) ∧ ∀ b, g.fp i b ↔ b = l.blk
  | .opq R => Stab R ∧ ∃ l, g.μ i = some l ∧ l.nil = false ∧ R w (g.fp i) l.blk ∧ ∀ b, g.fp i b → b < w.heap.size
theorem HO.lt {w : World} {g : Gh} {i : Nat} {o : Ob} (h : HO w g i o) (hl : o.live = true) {b : Nat} (hb : g.fp i b) : b < w.heap.size := by
  cases o with
  | dead => cases hl
  | box cs => obtain ⟨l, arr, ty, _, _, h1, _, _, h2⟩ := h; rw [(h2 b).1 hb]; exact heap_lt h1
  | arr sz rows =>
    obtain ⟨_, l, _, _, ⟨_, _, _, h2⟩ | ⟨_, _, _, h2, arr, ty, h1, _⟩⟩ := h
    · exact absurd hb (h2 b)
    · rw [(h2 b).1 hb]; exact heap_lt h1
  | mp es => obtain ⟨l, arr, ty, _, h1, _, _, h2⟩ := h; rw [(h2 b).1 hb]; exact heap_lt h1
  | opq R => obtain ⟨_, l, _, _, _, h2⟩ := h; exact h2 b hb
theorem HO.more {w w' : World} {g g' : Gh} {i : Nat} {o : Ob} (hs : Same g.I w w') (hf : Same (g.fp i) w w') (hz : w.heap.size ≤ w'.heap.size) (hg : Gm g g') (he : g'.fp i = g.fp i) (h : HO w g i o) : HO w' g' i o := by
  cases o with
  | dead => trivial
  | box cs =>
    obtain ⟨l, arr, ty, h0, h1, h2, h3, h4, h5⟩ := h
    refine ⟨l, arr, ty, hg.μ _ _ h0, h1, (hf _ ((h5 _).2 rfl)).trans h2, h3, fun j c hj => ?_, by rw [he]; exact h5⟩
    obtain ⟨v, e1, e2⟩ := h4 j c hj
    exact ⟨v, e1, e2.more hs hg⟩
  | arr sz rows =>
    obtain ⟨hp, l, h0, h1, ⟨h2, h3, h4, h5⟩ | ⟨h2, h3, h4, h5, arr, ty, h6, h7, h8⟩⟩ := h
    · exact ⟨hp, l, hg.μ _ _ h0, h1, .inl ⟨h2, h3, h4, by rw [he]; exact h5⟩⟩
    · refine ⟨hp, l, hg.μ _ _ h0, h1, .inr ⟨h2, h3, h4, by rw [he]; exact h5, arr, ty, (hf _ ((h5 _).2 rfl)).trans h6, h7, fun p r hr => ?_⟩⟩
      obtain ⟨e1, e2⟩ := h8 p r hr
      refine ⟨e1, fun j t hj => ?_⟩
      obtain ⟨v, e3, e4⟩ := e2 j t hj
      exact ⟨v, e3, e4.more hs hg.I⟩
  | mp es =>
    obtain ⟨l, arr, ck, h0, h2, h3, h4, h5⟩ := h
    refine ⟨l, arr, ck, hg.μ _ _ h0, (hf _ ((h5 _).2 rfl)).trans h2, h3, fun j c hj => ?_, by rw [he]; exact h5⟩
    obtain ⟨m, e1, e2, e3⟩ := h4 j c hj
    exact ⟨m, e1, e2.more hs hg, e3.more hs hg⟩
  | opq R =>
    obtain ⟨hst, l, h0, h1, h2, h3⟩ := h
    refine ⟨hst, l, hg.μ _ _ h0, h1, ?_, fun b hb => ?_⟩
    · rw [he]; exact hst _ _ _ _ hf h2
    · rw [he] at hb; exact Nat.lt_of_lt_of_le (h3 b hb) hz

/-- What the objects are in a world. -/
structure Rl (w : World) (g : Gh) (h : Nat → Ob) : Prop where
  objs : ∀ i, (h i).live = true → HO w g i (h i)
  disj : ∀ i j b, (h i).live = true → (h j).live = true → g.fp i b → g.fp j b → i = j
  imm : ∀ i b, (h i).live = true → g.fp i b → ¬ g.I b
  lt : ∀ b, g.I b → b < w.heap.size

/-- The blocks of some objects. -/
def Tch (g : Gh) (h : Nat → Ob) (ids : List Nat) (b : Nat) : Prop := ∃ i ∈ ids, (h i).live = true ∧ g.fp i b
/-- The blocks of all objects. -/
def Own (g : Gh) (h : Nat → Ob) (b : Nat) : Prop := ∃ i, (h i).live = true ∧ g.fp i b

/-- What one step leaves: it writes the objects wr, and makes those from base on. -/
structure Res where
  v : V
  wr : List (Nat × Ob) := []
  rd : List Nat := []
  nw : List Ob := []
def Res.ids (s : Res) : List Nat := s.wr.map (·.1)
def getO : List (Nat × Ob) → Nat → Option Ob
  | [], _ => none
  | (i, o) :: r, j => if i = j then some o else getO r j
def Res.app (s : Res) (base : Nat) (h : Nat → Ob) (i : Nat) : Ob :=
  match getO s.wr i with
  | some o => o
  | none => if base ≤ i then (match s.nw[i - base]? with | some o => o | none => h i) else h i
def isNew (base n i : Nat) : Prop := base ≤ i ∧ i < base + n
/-- How the ghosts go on. -/
structure Go1 (w : World) (g : Gh) (h : Nat → Ob) (ids : List Nat) (base n : Nat) (w' : World) (g' : Gh) (h' : Nat → Ob) : Prop where
  keeps : Keeps (Tch g h ids) w w'
  gm : Gm g g'
  In : ∀ b, g'.I b → g.I b ∨ Tch g h ids b ∨ w.heap.size ≤ b
  μn : ∀ i, ¬ isNew base n i → g.μ i = none → g'.μ i = none
  fp : ∀ i, i ∉ ids → ¬ isNew base n i → g'.fp i = g.fp i
  fpn : ∀ i b, (i ∈ ids ∨ isNew base n i) → (h' i).live = true → g'.fp i b → Tch g h ids b ∨ w.heap.size ≤ b

theorem Same.of_keeps {F I : Nat → Prop} {w w' : World} (hk : Keeps F w w') (hI : ∀ b, I b → b < w.heap.size) (hF : ∀ b, I b → ¬ F b) : Same I w w' := fun b hb => hk.block b (hI b hb) (hF b hb)
theorem Rl.tch_imm {w : World} {g : Gh} {h : Nat → Ob} (hR : Rl w g h) {ids : List Nat} : ∀ b, g.I b → ¬ Tch g h ids b := fun b hb ⟨i, _, hl, hf⟩ => hR.imm i b hl hf hb
theorem Go1.same {w w' : World} {g g' : Gh} {h h' : Nat → Ob} {ids : List Nat} {base n : Nat} (hR : Rl w g h) (hg : Go1 w g h ids base n w' g' h') : Same g.I w w' :=
  Same.of_keeps hg.keeps hR.lt hR.tch_imm
/-- The objects that a step does not touch stay. -/
theorem Rl.step {w w' : World} {g g' : Gh} {h h' : Nat → Ob} {ids : List Nat} {base n : Nat} (hR : Rl w g h) (hg : Go1 w g h ids base n w' g' h')
    (hsame : ∀ i, i ∉ ids → ¬ isNew base n i → h' i = h i) (hdead : ∀ i, isNew base n i → (h i).live = false)
    (hobj : ∀ i, (i ∈ ids ∨ isNew base n i) → (h' i).live = true → HO w' g' i (h' i))
    (hdis : ∀ i j b, (i ∈ ids ∨ isNew base n i) → (j ∈ ids ∨ isNew base n j) → (h' i).live = true → (h' j).live = true → g'.fp i b → g'.fp j b → i = j)
    (himm : ∀ i b, (i ∈ ids ∨ isNew base n i) → (h' i).live = true → g'.fp i b → ¬ g'.I b)
    (hlt : ∀ b, g'.I b → b < w'.heap.size) : Rl w' g' h' := by
  have hcase : ∀ i, (i ∈ ids ∨ isNew base n i) ∨ (i ∉ ids ∧ ¬ isNew base n i) := fun i => by
    by_cases h1 : i ∈ ids
    · exact .inl (.inl h1)
    · by_cases h2 : isNew base n i
      · exact .inl (.inr h2)
      · exact .inr ⟨h1, h2⟩
  have hapart : ∀ i b, i ∉ ids → ¬ isNew base n i → (h' i).live = true → g'.fp i b → ¬ (Tch g h ids b ∨ w.heap.size ≤ b) := by
    intro i b h1 h2 hl hb ht
    rw [hsame i h1 h2] at hl
    rw [hg.fp i h1 h2] at hb
    rcases ht with ⟨j, hj, hjl, hjb⟩ | ht
    · have := hR.disj i j b hl hjl hb hjb
      subst this
      exact h1 hj
    · have := (hR.objs i hl).lt hl hb
      omega
  refine ⟨fun i hl => ?_, fun i j b hi hj hib hjb => ?_, fun i b hl hb hI => ?_, hlt⟩
  · rcases hcase i with hc | ⟨h1, h2⟩
    · exact hobj i hc hl
    · have e := hsame i h1 h2
      rw [e] at hl ⊢
      refine HO.more (hg.same hR) (fun b hb => ?_) hg.keeps.size hg.gm (hg.fp i h1 h2) (hR.objs i hl)
      exact hg.keeps.block b ((hR.objs i hl).lt hl hb) fun ht => hapart i b h1 h2 (by rw [e]; exact hl) (by rw [hg.fp i h1 h2]; exact hb) (.inl ht)
  · rcases hcase i with hc | ⟨h1, h2⟩ <;> rcases hcase j with hd | ⟨h3, h4⟩
    · exact hdis i j b hc hd hi hj hib hjb
    · exact absurd (hg.fpn i b hc hi hib) (hapart j b h3 h4 hj hjb)
    · exact absurd (hg.fpn j b hd hj hjb) (hapart i b h1 h2 hi hib)
    · rw [hsame i h1 h2] at hi
      rw [hsame j h3 h4] at hj
      rw [hg.fp i h1 h2] at hib
      rw [hg.fp j h3 h4] at hjb
      exact hR.disj i j b hi hj hib hjb
  · rcases hcase i with hc | ⟨h1, h2⟩
    · exact himm i b hc hl hb hI
    · have hn := hapart i b h1 h2 hl hb
      rw [hsame i h1 h2] at hl
      rw [hg.fp i h1 h2] at hb
      rcases hg.In b hI with h | h | h
      · exact hR.imm i b hl hb h
      · exact hn (.inl h)
      · exact hn (.inr h)

/-- Data of which less is told. -/
inductive D.le : D → D → Prop
  | refl (d : D) : D.le d d
  | nil (sz : Nat) : D.le .nil (.ls sz 0 [])
  | cut {sz n m : Nat} {r r' : List (List D)} (h1 : n = m) (h2 : r.take n = r') : D.le (.ls sz n r) (.ls sz m r')
inductive C.le : C → C → Prop
  | refl (c : C) : C.le c c
  | t {d d' : D} (h : D.le d d') : C.le (.t d) (.t d')
inductive LeCs : List C → List C → Prop
  | nil : LeCs [] []
  | cons {c c' : C} {l l' : List C} (h : C.le c c') (hl : LeCs l l') : LeCs (c :: l) (c' :: l')
inductive E.le : E → E → Prop
  | refl (c : E) : E.le c c
  | c {d d' : C} (h : C.le d d') : E.le (.c d) (.c d')
  | agg {l l' : List C} (h : LeCs l l') : E.le (.agg l) (.agg l')
inductive LeEs : List E → List E → Prop
  | nil : LeEs [] []
  | cons {c c' : E} {l l' : List E} (h : E.le c c') (hl : LeEs l l') : LeEs (c :: l) (c' :: l')
inductive V.le : V → V → Prop
  | refl (c : V) : V.le c c
  | e {d d' : E} (h : E.le d d') : V.le (.e d) (.e d')
  | tup {l l' : List E} (h : LeEs l l') : V.le (.tup l) (.tup l')
inductive LeVs : List V → List V → Prop
  | nil : LeVs [] []
  | cons {c c' : V} {l l' : List V} (h : V.le c c') (hl : LeVs l l') : LeVs (c :: l) (c' :: l')
theorem Rd.le {w : World} {I : Nat → Prop} {v : Value} {d d' : D} (h : Rd w I v d) (hl : D.le d d') : Rd w I v d' := by
  cases hl with
  | refl => exact h
  | nil sz => cases h; exact .lsn _ sz
  | cut h1 h2 => subst h1; subst h2; exact h.take (Nat.le_refl _)
theorem RC.le {w : World} {g : Gh} {v : Value} {d d' : C} (h : RC w g v d) (hl : C.le d d') : RC w g v d' := by
  cases hl with
  | refl => exact h
  | t hl => cases h with | t h => exact .t (h.le hl)
theorem LeCs.at : ∀ {l l' : List C}, LeCs l l' → l.length = l'.length ∧ ∀ (j : Nat) c', l'[j]? = some c' → ∃ c, l[j]? = some c ∧ C.le c c'
  | _, _, .nil => ⟨rfl, fun j c' h => by simp at h⟩
  | _, _, .cons h hl => by
    obtain ⟨e1, e2⟩ := hl.at
    refine ⟨by simp [e1], fun j c' hj => ?_⟩
    cases j with
    | zero => simp at hj; subst hj; exact ⟨_, rfl, h⟩
    | succ j => simpa using e2 j c' (by simpa using hj)
theorem RE.le {w : World} {g : Gh} {v : Value} {d d' : E} (h : RE w g v d) (hl : E.le d d') : RE w g v d' := by
  cases hl with
  | refl => exact h
  | c hl => cases h with | c h => exact .c (h.le hl)
  | agg hl =>
    cases h with
    | agg arr cs hs h =>
      obtain ⟨e1, e2⟩ := hl.at
      refine .agg arr _ (hs.trans e1) fun j c' hj => ?_
      obtain ⟨c, c1, c2⟩ := e2 j c' hj
      obtain ⟨v, v1, v2⟩ := h j c c1
      exact ⟨v, v1, v2.le c2⟩
theorem LeEs.at : ∀ {l l' : List E}, LeEs l l' → l.length = l'.length ∧ ∀ (j : Nat) c', l'[j]? = some c' → ∃ c, l[j]? = some c ∧ E.le c c'
  | _, _, .nil => ⟨rfl, fun j c' h => by simp at h⟩
  | _, _, .cons h hl => by
    obtain ⟨e1, e2⟩ := hl.at
    refine ⟨by simp [e1], fun j c' hj => ?_⟩
    cases j with
    | zero => simp at hj; subst hj; exact ⟨_, rfl, h⟩
    | succ j => simpa using e2 j c' (by simpa using hj)
theorem RV.le {w : World} {g : Gh} {v : Value} {d d' : V} (h : RV w g v d) (hl : V.le d d') : RV w g v d' := by
  cases hl with
  | refl => exact h
  | e hl => cases h with | e h => exact .e (h.le hl)
  | tup hl =>
    cases h with
    | tup arr cs hs h =>
      obtain ⟨e1, e2⟩ := hl.at
      refine .tup arr _ (hs.trans e1) fun j c' hj => ?_
      obtain ⟨c, c1, c2⟩ := e2 j c' hj
      obtain ⟨v, v1, v2⟩ := h j c c1
      exact ⟨v, v1, v2.le c2⟩
theorem LeVs.at : ∀ {l l' : List V}, LeVs l l' → l.length = l'.length ∧ ∀ (j : Nat) c', l'[j]? = some c' → ∃ c, l[j]? = some c ∧ V.le c c'
  | _, _, .nil => ⟨rfl, fun j c' h => by simp at h⟩
  | _, _, .cons h hl => by
    obtain ⟨e1, e2⟩ := hl.at
    refine ⟨by simp [e1], fun j c' hj => ?_⟩
    cases j with
    | zero => simp at hj; subst hj; exact ⟨_, rfl, h⟩
    | succ j => simpa using e2 j c' (by simpa using hj)
theorem LeVs.refl : ∀ (l : List V), LeVs l l
  | [] => .nil
  | v :: l => .cons (.refl v) (LeVs.refl l)
/-- Objects of which less is told. -/
inductive Ob.le : Ob → Ob → Prop
  | refl (o : Ob) : Ob.le o o
  | box {l l' : List C} (h : LeCs l l') : Ob.le (.box l) (.box l')
inductive LeOs : List Ob → List Ob → Prop
  | nil : LeOs [] []
  | cons {c c' : Ob} {l l' : List Ob} (h : Ob.le c c') (hl : LeOs l l') : LeOs (c :: l) (c' :: l')
theorem LeOs.refl : ∀ (l : List Ob), LeOs l l
  | [] => .nil
  | v :: l => .cons (.refl v) (LeOs.refl l)
theorem LeOs.of {l m : List Ob} (h : l = m) : LeOs l m := h ▸ LeOs.refl l
theorem LeOs.len : ∀ {l m : List Ob}, LeOs l m → l.length = m.length
  | _, _, .nil => rfl
  | _, _, .cons _ h => by simp [h.len]
theorem LeOs.at : ∀ {l m : List Ob}, LeOs l m → ∀ j, Ob.le (l.getD j .dead) (m.getD j .dead)
  | _, _, .nil, j => by simp [List.getD_eq_getElem?_getD]; exact .refl _
  | _, _, .cons h hl, j => by
    cases j with
    | zero => simpa using h
    | succ j => simpa using hl.at j
theorem HO.le {w : World} {g : Gh} {i : Nat} {o o' : Ob} (h : HO w g i o) (hl : Ob.le o o') : HO w g i o' := by
  cases hl with
  | refl => exact h
  | box hl =>
    obtain ⟨l, arr, ty, h1, h2, h3, h4, h5, h6⟩ := h
    obtain ⟨e1, e2⟩ := hl.at
    refine ⟨l, arr, ty, h1, h2, h3, h4.trans e1, fun j c hj => ?_, h6⟩
    obtain ⟨c0, c1, c2⟩ := e2 j c hj
    obtain ⟨v, v1, v2⟩ := h5 j c0 c1
    exact ⟨v, v1, v2.le c2⟩
theorem Ob.le.le_live {o o' : Ob} (h : Ob.le o o') : o'.live = o.live := by cases h <;> rfl
theorem Rl.le {w : World} {g : Gh} {h h' : Nat → Ob} (hR : Rl w g h) (hl : ∀ i, Ob.le (h i) (h' i)) : Rl w g h' :=
  ⟨fun i hi => (hR.objs i (by rw [← (hl i).le_live]; exact hi)).le (hl i), fun i j b hi hj => hR.disj i j b (by rw [← (hl i).le_live]; exact hi) (by rw [← (hl j).le_live]; exact hj),
    fun i b hi => hR.imm i b (by rw [← (hl i).le_live]; exact hi), hR.lt⟩
end Go.Proofs.Ytheaeddojcebjaa
