/-
  Words shared by this claim's walks: what a call may have changed (Keeps), small facts on whole numbers.
  Regions that draw their order, walked once in the order of the text: operations may make memory (old blocks stay): what they leave is told by a predicate in place of a value.
  Slices in memory: what lies in a row of cells, rows of the call's own, append. (The first and the last part are the guide's own lemmas to copy.)
  A small logic over the walks: data that does not change (D), cells (C), objects of a heap by numbers (Ob), and what they are in a world (Rel).
  The operations in a small language of their own (AOp), how they are told from the program's (trC), and what each yields of data, cells and objects (aop).
  The functions of the program in the small language, reckoned out of the program's own text (told again and checked by trF).
-/
import Derived.WalkKit
import Derived.WalkSpells
import Derived.WalkLawsBesides
import Derived.Deep.MidRow
import Derived.Deep.WholeRow
import Derived.Lib.Hide
import Derived.StillTailTactics
import Derived.Deep.QuietTactic
import Derived.BigQuiet
import Derived.Laws.StructEq
import Derived.Maps.AppendAt
import Derived.Deep.AppendLies
import Derived.RegionTactic
import Derived.OwnWalk
set_option linter.unusedVariables false
set_option linter.unusedSimpArgs false
namespace Go.Proofs.YthddlkhfkncgpaaGreat
open Go.RowKit

theorem ret_int {k : IntKind} {a b : Int} (h : a = b) : Ending.returned (.int k a) = .returned (.int k b) := by rw [h]
theorem ret_bool {a b : Bool} (h : a = b) : Ending.returned (.bool a) = .returned (.bool b) := by rw [h]
theorem toNat_cast (k : Nat) : ((k : Int)).toNat = k := by simp

theorem tmod_neg {k n : Int} (hn : 0 < n) (h : k.tmod n < 0) (hn2 : n ≤ 9223372036854775807) : wrap64 (k.tmod n + n) = k % n := by
  have h1 := Int.tmod_eq_emod (a := k) (b := n)
  have h2 := Int.emod_nonneg k (by omega : n ≠ 0)
  have h3 := Int.emod_lt_of_pos k hn
  unfold wrap64
  split at h1 <;> omega
theorem tmod_pos {k n : Int} (hn : 0 < n) (h : 0 ≤ k.tmod n) : k.tmod n = k % n := by
  have h1 := Int.tmod_eq_emod (a := k) (b := n)
  have h2 := Int.emod_nonneg k (by omega : n ≠ 0)
  have h3 := Int.emod_lt_of_pos k hn
  split at h1 <;> omega

/-- What a call may have changed: the blocks of F, and new ones. -/
structure Keeps (F : Nat → Prop) (w w' : World) : Prop where
  os : w'.os = w.os
  tape : w'.tape = w.tape
  output : w'.output = w.output
  size : w.heap.size ≤ w'.heap.size
  block : ∀ k, k < w.heap.size → ¬ F k → w'.heap[k]? = w.heap[k]?

/-- No old block. -/
def Nope (_ : Nat) : Prop := False

theorem Keeps.refl (F : Nat → Prop) (w : World) : Keeps F w w := ⟨rfl, rfl, rfl, Nat.le_refl _, fun _ _ _ => rfl⟩
theorem Keeps.trans {F : Nat → Prop} {a b c : World} (h : Keeps F a b) (k : Keeps F b c) : Keeps F a c :=
  ⟨k.os.trans h.os, k.tape.trans h.tape, k.output.trans h.output, Nat.le_trans h.size k.size, fun i hi hF => (k.block i (Nat.lt_of_lt_of_le hi h.size) hF).trans (h.block i hi hF)⟩
/-- A further step that touches only F and what is new. -/
theorem Keeps.then {F G : Nat → Prop} {a b c : World} (h : Keeps F a b) (k : Keeps G b c) (hG : ∀ i, i < a.heap.size → G i → F i) : Keeps F a c :=
  ⟨k.os.trans h.os, k.tape.trans h.tape, k.output.trans h.output, Nat.le_trans h.size k.size, fun i hi hF => (k.block i (Nat.lt_of_lt_of_le hi h.size) (fun g => hF (hG i hi g))).trans (h.block i hi hF)⟩
theorem Keeps.mono {F G : Nat → Prop} {a b : World} (h : Keeps F a b) (hF : ∀ i, i < a.heap.size → F i → G i) : Keeps G a b :=
  ⟨h.os, h.tape, h.output, h.size, fun i hi hG => h.block i hi (fun f => hG (hF i hi f))⟩
theorem Keeps.drew {F : Nat → Prop} {a w : World} (h : Keeps F a w) : Keeps F a w.drew := ⟨h.os, h.tape, h.output, h.size, h.block⟩
theorem Keeps.drewN {F : Nat → Prop} {a w : World} (h : Keeps F a w) (n : Nat) : Keeps F a (w.drewN n) := ⟨h.os, h.tape, h.output, h.size, h.block⟩
theorem Keeps.alloc {F : Nat → Prop} {a w : World} (h : Keeps F a w) (o : Obj) : Keeps F a (w.alloc o) :=
  ⟨h.os, h.tape, h.output, by simp; exact Nat.le_succ_of_le h.size, fun k hk hF => by
    have := h.size
    rw [Below.heap_alloc _ _ _ (by omega)]; exact h.block k hk hF⟩
theorem Keeps.setCell {F : Nat → Prop} {a w : World} (h : Keeps F a w) {p : Addr} (hp : a.heap.size ≤ p.block ∨ F p.block) (u : Value) : Keeps F a (w.setCell p u) :=
  ⟨h.os, h.tape, h.output, by simp [World.setCell]; exact h.size, fun k hk hF => by
    rw [Below.heap_setCell _ _ _ _ (by rintro rfl; rcases hp with hp | hp; · omega
                                       · exact hF hp)]; exact h.block k hk hF⟩
theorem Keeps.of_below {F : Nat → Prop} {w w' : World} (h : Below w.heap.size w w') : Keeps F w w' := ⟨h.os, h.tape, h.output, h.size, fun k hk _ => h.block k hk⟩
theorem Keeps.below {w w' : World} (h : Keeps Nope w w') : Below w.heap.size w w' := ⟨h.os, h.tape, h.output, h.size, fun k hk => h.block k hk (fun f => f)⟩
theorem Keeps.cell {F : Nat → Prop} {w w' : World} (h : Keeps F w w') {p : Addr} (hp : p.block < w.heap.size) (hF : ¬ F p.block) : w'.cell? p = w.cell? p := World.cell?_of_block (w := w) (h.block p.block hp hF)
theorem heap_lt {w : World} {g : Nat} {o : Obj} (h : w.heap[g]? = some o) : g < w.heap.size := (Array.getElem?_eq_some_iff.1 h).1
/-- One old block. -/
def Only (g k : Nat) : Prop := k = g
theorem Keeps.setAt {g : Nat} {a w : World} (h : Keeps (Only g) a w) (j : Nat) (u : Value) : Keeps (Only g) a (w.setCell ⟨g, j, none⟩ u) := h.setCell (p := ⟨g, j, none⟩) (.inr (show Only g g from rfl)) u
theorem index_agg {P : Program} {t e : TypeId} {n : Nat} {i : TypeInfo} (cs : List Value) (k : Nat) (v : Value) (ht : P.underlying t = some (.array n e)) (hk : k < n) (hs : P.info? e = some i) (hi : i.size = 1) (hb : ∀ w, (isAgg e).run P w = .ok false w) (hv : cs[k]? = some v) (w : World) :
    (Instr.index t (.agg cs.toArray) (.int .i64 (k : Int))).run P w = .ok v w := by
  simp [Instr.index, Sem.run_bind, asIntOf, run_underlying ht, hk, part, hb, sizeOf, typeInfo, hs, hi, hv]
/-- A whole row or struct goes into the block that was made last. -/
theorem wpList_store_new {P : Program} {ops : Array Oper} {rest : List Oper} {o : Oper} {a : Act} {w : World} {Q : Exit → Act → World → Prop} (hgd : o.guard = none) (ty : TypeId) (x y : Operand) (ho : o.op = .store ty x y)
    (hx : a.eval x = .pointer (some ⟨w.heap.size, 0, none⟩)) (c c' : Array Value) (hy : a.eval y = .agg c') (hi : (P.info? ty).map (·.size) = some c'.size) (hs : c.size = c'.size) (h1 : c'.all (·.oneCell') = true)
    (h : wpList P ops Q rest (a.put o.dst undef) (w.alloc (.cells c' ty))) : wpList P ops Q (o :: rest) a (w.alloc (.cells c ty)) :=
  wpList_plain hgd fun _ hK => by
    unfold Oper.wp execOp
    simp only [ho, hx, hy, Sem.run_bind, run_storeAt_new w ty c c' hi hs h1, Result.andThen_ok]
    exact hK _ _ h
/-- A region that draws its order: its first n operations leave the world alone, the rest comes in one order; what is known of the world is S. -/
theorem wp_region_tail {P : Program} {id : Nat} {Q : Exit → Act → World → Prop} {a : Act} {w : World} {l : List Oper} (n : Nat) (hm : P.follows .mixedOrders = true) (hB : Region.lexTailB .any l.toArray n = true)
    (S : World → Prop) (hS : S w.drew) (h : ∀ W, S W → wpStill P l.toArray W (fun a' => wpList P l.toArray Q (l.drop n) a' W) (l.take n) a) : (Code.region id l.toArray true).wp P Q a w :=
  wp_region_still_tail n hm hB (h _ hS)
theorem cells_at {w : World} {g : Nat} {cs : Array Value} {t : TypeId} (h : w.heap[g]? = some (.cells cs t (0, 0))) : (∀ j, w.cell? ⟨g, j, none⟩ = cs[j]?) ∧ (∀ j, w.frozen? ⟨g, j, none⟩ = false) :=
  ⟨fun j => by simp [World.cell?, h], fun j => by simp [World.frozen?, h]⟩
theorem Keeps.setRow {F : Nat → Prop} {a w : World} (h : Keeps F a w) {g : Nat} (hp : a.heap.size ≤ g ∨ F g) (cs : Array Value) : Keeps F a (w.setRow g cs) :=
  ⟨h.os, h.tape, h.output, by rw [setRow_size]; exact h.size, fun k hk hF => by
    rw [setRow_other _ _ _ _ (by rintro rfl; rcases hp with hp | hp; · omega
                                 · exact hF hp)]; exact h.block k hk hF⟩
theorem wrap_u16 {x : Int} (h1 : 0 ≤ x) (h2 : x ≤ 65535) : IntKind.i64.wrap x = x := IntWalk.i64_in _ (by omega)
/-- A world of a class. -/
structure InClass (C : World → Prop) where
  w : World
  ok : C w
/-- A region that draws its order, each of whose operations yields one value in every world of a class, and leaves a world of the class. -/
theorem wp_region_class {P : Program} {id : Nat} {Q : Exit → Act → World → Prop} {a : Act} {w : World} {l : List Oper} (C : World → Prop) (hm : P.follows .mixedOrders = true) (hB : Region.lexB .any l.toArray = true) (hC : C w.drew)
    (h : Nonempty (InClass C) → wpQuiet P l.toArray (fun w' => ∃ x : InClass C, w' = x.w) (fun a' => ∀ W, C W → Q .normal a' W) l a) : (Code.region id l.toArray true).wp P Q a w := by
  refine wp_region_quiet (C := fun w' => ∃ x : InClass C, w' = x.w) hm hB ⟨⟨_, hC⟩, rfl⟩ ?_
  have e : (fun a' => ∀ w', (∃ x : InClass C, w' = x.w) → Q .normal a' w') = (fun a' => ∀ W, C W → Q .normal a' W) := by
    funext a'
    exact propext ⟨fun H W hW => H _ ⟨⟨W, hW⟩, rfl⟩, fun H w' ⟨x, hx⟩ => hx ▸ H x.w x.ok⟩
  show wpQuiet P l.toArray _ (fun a' => ∀ w', (∃ x : InClass C, w' = x.w) → Q .normal a' w') l a
  rw [e]
  exact h ⟨⟨_, hC⟩⟩
theorem Calls.inClass {P : Program} {f : FuncId} {args : Array Value} {v : Value} {C : World → Prop} (hst : ∀ W W', C W → Keeps Nope W W' → C W') (x : InClass C)
    (h : Calls P f args x.w fun e w' => e = .returned v ∧ Keeps Nope x.w w') : Calls P f args x.w fun e w'' => e = .returned v ∧ ∃ y : InClass C, w'' = y.w :=
  h.mono fun _ w' ⟨he, hk⟩ => ⟨he, ⟨w', hst _ _ x.ok hk⟩, rfl⟩
theorem Calls.inClass_same {P : Program} {f : FuncId} {args : Array Value} {v : Value} {C : World → Prop} (x : InClass C)
    (h : Calls P f args x.w fun e w' => e = .returned v ∧ x.w = w') : Calls P f args x.w fun e w'' => e = .returned v ∧ ∃ y : InClass C, w'' = y.w :=
  h.mono fun _ _ ⟨he, hk⟩ => ⟨he, x, hk.symm⟩
theorem all_range_ints (xs ys : List Int) (h : xs.length = ys.length) : ((List.range xs.length).all fun i => xs.getD i 0 == ys.getD i 0) = (xs == ys) := by
  rw [Bool.eq_iff_iff, List.all_eq_true]
  simp only [List.mem_range, beq_iff_eq]
  constructor
  · intro H
    refine List.ext_getElem h fun i h1 h2 => ?_
    have := H i h1
    simpa [List.getD_eq_getElem?_getD, List.getElem?_eq_getElem h1, List.getElem?_eq_getElem h2] using this
  · rintro rfl i _
    rfl
/-- Two arrays of whole numbers, held against each other. -/
theorem equal_ints {P : Program} (w : World) (d : Nat) (t e : TypeId) (n : Nat) (k : IntKind) (ht : P.underlying t = some (.array n e)) (he : P.underlying e = some (.int k)) (hsz : ∀ w, (sizeOf e).run P w = .ok 1 w)
    (xs ys : List Int) (hx : xs.length = n) (hy : ys.length = n) :
    (Op.equalIn (d + 2) t (.agg (xs.map (Value.int k)).toArray) (.agg (ys.map (Value.int k)).toArray)).run P w = .ok (xs == ys) w := by
  rw [← all_range_ints xs ys (hx.trans hy.symm), hx, List.range_eq_range', Op.equalIn]
  simp only [Sem.run_bind, run_underlying ht, Result.andThen_ok, hsz, Std.Legacy.Range.forIn_eq_forIn_range', Std.Legacy.Range.size, Nat.sub_zero, Nat.add_sub_cancel, Nat.div_one]
  have hl : ∀ i ∈ List.range' 0 n 1, i < n := fun i hi => by simpa using (List.mem_range'_1.1 hi).2
  generalize List.range' 0 n 1 = l at hl ⊢
  induction l with
  | nil => simp
  | cons i l ih =>
    have hi : i < n := hl i (by simp)
    have px : (part e (xs.map (Value.int k)).toArray (i * 1)).run P w = .ok (.int k (xs.getD i 0)) w := by
      simp [part, isAgg, run_underlying he, List.getD, List.getElem?_eq_getElem (show i < xs.length by omega)]
    have py : (part e (ys.map (Value.int k)).toArray (i * 1)).run P w = .ok (.int k (ys.getD i 0)) w := by
      simp [part, isAgg, run_underlying he, List.getD, List.getElem?_eq_getElem (show i < ys.length by omega)]
    have pe : (Op.equalIn (d + 1) e (.int k (xs.getD i 0)) (.int k (ys.getD i 0))).run P w = .ok (xs.getD i 0 == ys.getD i 0) w := run_equalIn_int w d e k k _ _ he
    simp only [List.forIn_cons, Sem.run_bind, px, py, pe, Result.andThen_ok, List.all_cons]
    cases hb : (xs.getD i 0 == ys.getD i 0)
    · simp
    · simp only [Bool.not_true, Bool.false_eq_true, if_false, Sem.run_pure, Result.andThen_ok, Bool.true_and]
      exact ih fun j hj => hl j (by simp [hj])
end Go.Proofs.YthddlkhfkncgpaaGreat
set_option linter.unusedVariables false
set_option linter.unusedSimpArgs false
namespace Go.Proofs.YthddlkhfkncgpaaGreat
open Go.RowKit

/-- A world behind w₀: what was there is there, but for the blocks of F. -/
structure Lat (F : Nat → Prop) (w₀ : World) where
  w : World
  keeps : Keeps F w₀ w
abbrev Rel := Value → World → Prop
/-- What holds, holds on, whatever is made, and whatever becomes of the blocks of F. -/
def Grows (F : Nat → Prop) (g : Rel) : Prop := ∀ v W W', Keeps F W W' → g v W → g v W'
def LGrows (L : World → Prop) : Prop := ∀ W W', Keeps Nope W W' → L W → L W'
theorem Keeps.widen {F : Nat → Prop} {W W' : World} (h : Keeps Nope W W') : Keeps F W W' := h.mono (fun _ _ f => f.elim)

def aftersOf (ops : Array Oper) (i : Nat) : List Nat :=
  match ops[i]? with
  | some o => (o.after.toList.filter (fun e => Region.binds .any e)).map (·.on)
  | none => []
def downTo (ops : Array Oper) : Nat → List Nat → List Nat
  | 0, s => s
  | k + 1, s => downTo ops k (if s.contains k then s ++ aftersOf ops k else s)
def upon (ops : Array Oper) (i : Nat) : List Nat := downTo ops i (aftersOf ops i)
def dstOf (ops : Array Oper) (i : Nat) : Option Tmp := (ops[i]?).bind (·.dst)
def looksOf (ops : Array Oper) (i : Nat) : List Tmp := match ops[i]? with | some o => o.looksAt ops | none => []
def canon (n m : Nat) : Array Bool := (List.replicate n true ++ List.replicate (m - n) false).toArray
def relB (ops : Array Oper) (n N : Nat) (eff : List Nat) : Bool :=
  Region.noSelect ops && decide (n ≤ ops.size) &&
  (List.range n).all (fun i => (aftersOf ops i).all (fun j => decide (j < i))) &&
  (List.range n).all (fun i => match dstOf ops i with | some d => decide (d < N) && (List.range i).all (fun j => dstOf ops j != some d) | none => true) &&
  (List.range n).all (fun i => (looksOf ops i).all fun t => (List.range n).all fun j =>
      dstOf ops j != some t || (if j < i then (upon ops i).contains j else j == i || (upon ops j).contains i)) &&
  eff.all (fun j => decide (j < n) && eff.all (fun k => decide (k ≤ j) || (upon ops k).contains j)) &&
  (n == ops.size || Region.sinkB .any ops n && Region.chainB .any ops n) && Region.seqB .any ops (ops.size - n) n (canon n ops.size)

/-- The looked-at temporaries of which a predicate is told are any values that it lets in. -/
def bindSome (done : List (Tmp × Rel)) (W : World) : List Tmp → Act → (Act → Prop) → Prop
  | [], a, K => K a
  | t :: ts, a, K => match done.find? (fun p => p.1 == t) with
    | none => bindSome done W ts a K
    | some p => ∀ v, p.2 v W → bindSome done W ts (a.put (some t) v) K
def bindAll (W : World) : List (Tmp × Rel) → Act → (Act → Prop) → Prop
  | [], a, K => K a
  | p :: done, a, K => ∀ v, p.2 v W → bindAll W done (a.put (some p.1) v) K

/-- What an operation leaves: a value, or one of which a predicate is told. -/
inductive Spec where
  | ex (v : Value)
  | re (g : Rel)
def Spec.ok : Spec → Value → World → Prop
  | .ex v, u, _ => u = v
  | .re g, u, W => g u W
def Spec.grows (F : Nat → Prop) : Spec → Prop
  | .ex _ => True
  | .re g => Grows F g
def Spec.val : Spec → Value
  | .ex v => v
  | .re _ => undef
def Spec.push (d : Option Tmp) (done : List (Tmp × Rel)) : Spec → List (Tmp × Rel)
  | .ex _ => done
  | .re g => match d with | some t => (t, g) :: done | none => done
theorem Spec.ok_more {F : Nat → Prop} {s : Spec} (hs : s.grows F) {v : Value} {W W' : World} (hk : Keeps F W W') (h : s.ok v W) : s.ok v W' := by
  cases s with
  | ex u => exact h
  | re g => exact hs v W W' hk h
def SlotIs : Option Tmp → Act → Value → Prop
  | none, _, _ => True
  | some t, a, v => a.tmps[t]? = some v
def guardLooks (ops : Array Oper) (o : Oper) : List Tmp := match o.guard with | some (g, _) => ((ops[g]?).bind (·.dst)).toList | none => []
def clear (done : List (Tmp × Rel)) (ts : List Tmp) : Bool := ts.all (fun t => !(done.any (fun p => p.1 == t)))

def tsB (ops : Array Oper) (o : Oper) (done : List (Tmp × Rel)) (ts : List Tmp) : Bool :=
  (o.looksAt ops).all (fun t => !(done.any (fun p => p.1 == t)) || ts.contains t) && ts.all (fun t => (o.looksAt ops).contains t)
def wpRel (P : Program) (ops : Array Oper) (F : Nat → Prop) (w : World) (eff : List Nat) (Q : List (Tmp × Rel) → (World → Prop) → Act → Prop) : List Oper → Nat → List (Tmp × Rel) → (World → Prop) → Act → Prop
  | [], i, done, L, a => Q done L a
  | o :: rest, i, done, L, a =>
    clear done (guardLooks ops o) = true ∧
    ((Region.wanted o (yielded ops a.tmps) = false ∧ wpRel P ops F w eff Q rest (i + 1) done L (a.put o.dst undef)) ∨
     (Region.wanted o (yielded ops a.tmps) = true ∧
      ((eff.contains i = false ∧ ∃ a₁, clear done (o.looksAt ops) = true ∧ (∀ x : Lat F w, o.quiet P a (fun W' => W' = x.w) (fun a' => a' = a₁)) ∧ wpRel P ops F w eff Q rest (i + 1) done L a₁) ∨
       (eff.contains i = false ∧ ∃ (s : Spec) (ts : List Tmp), s.grows F ∧ tsB ops o done ts = true ∧
        (∀ x : Lat F w, bindSome done x.w ts a (fun a' => o.wp P a' x.w (fun a'' W' => ∃ v, a'' = a'.put o.dst v ∧ Keeps Nope x.w W' ∧ s.ok v W') (fun _ _ _ => False))) ∧
        wpRel P ops F w eff Q rest (i + 1) (s.push o.dst done) L (a.put o.dst s.val)) ∨
       (eff.contains i = true ∧ ∃ (s : Spec) (ts : List Tmp) (L' : World → Prop), s.grows F ∧ LGrows L' ∧ tsB ops o done ts = true ∧
        (∀ x : Lat F w, L x.w → bindSome done x.w ts a (fun a' => o.wp P a' x.w (fun a'' W' => ∃ v, a'' = a'.put o.dst v ∧ (Keeps F x.w W' ∧ L' W') ∧ s.ok v W') (fun _ _ _ => False))) ∧
        wpRel P ops F w eff Q rest (i + 1) (s.push o.dst done) L' (a.put o.dst s.val)))))

section
variable {P : Program} {ops : Array Oper} {F : Nat → Prop} {w : World} {eff : List Nat} {Q : List (Tmp × Rel) → (World → Prop) → Act → Prop} {o : Oper} {rest : List Oper} {i : Nat} {done : List (Tmp × Rel)} {L : World → Prop} {a : Act}
theorem rel_end {Q' : Exit → Act → World → Prop} {tl : List Oper} (h : ∀ x : Lat F w, L x.w → bindAll x.w done a (fun a'' => wpList P ops Q' tl a'' x.w)) :
    wpRel P ops F w eff (fun done L a' => ∀ x : Lat F w, L x.w → bindAll x.w done a' (fun a'' => wpList P ops Q' tl a'' x.w)) [] i done L a := h
/-- An operation of one value, that leaves the world alone. -/
theorem wpRel_step (hg : clear done (guardLooks ops o) = true) (hl : clear done (o.looksAt ops) = true) (hw : Region.wanted o (yielded ops a.tmps) = true) (he : eff.contains i = false) (a₁ : Act)
    (h : ∀ x : Lat F w, o.quiet P a (fun W' => W' = x.w) (fun a' => a' = a₁)) (hr : wpRel P ops F w eff Q rest (i + 1) done L a₁) : wpRel P ops F w eff Q (o :: rest) i done L a :=
  ⟨hg, .inr ⟨hw, .inl ⟨he, a₁, hl, h, hr⟩⟩⟩
theorem wpRel_skip (hg : clear done (guardLooks ops o) = true) (hw : Region.wanted o (yielded ops a.tmps) = false) (a₁ : Act) (ha : a.put o.dst undef = a₁)
    (h : wpRel P ops F w eff Q rest (i + 1) done L a₁) : wpRel P ops F w eff Q (o :: rest) i done L a :=
  ⟨hg, .inl ⟨hw, ha ▸ h⟩⟩
/-- An operation of which a predicate is told. -/
theorem wpRel_rel (ts : List Tmp) (g : Rel) (hg : clear done (guardLooks ops o) = true) (hts : tsB ops o done ts = true) (hw : Region.wanted o (yielded ops a.tmps) = true) (he : eff.contains i = false) (hs : Grows F g)
    (d : Tmp) (hd : o.dst = some d) (ha : a.put (some d) undef = a)
    (h : ∀ x : Lat F w, bindSome done x.w ts a (fun a' => o.wp P a' x.w (fun a'' W' => ∃ v, a'' = a'.put o.dst v ∧ Keeps Nope x.w W' ∧ g v W') (fun _ _ _ => False)))
    (hr : wpRel P ops F w eff Q rest (i + 1) ((d, g) :: done) L a) : wpRel P ops F w eff Q (o :: rest) i done L a :=
  ⟨hg, .inr ⟨hw, .inr (.inl ⟨he, .re g, ts, hs, hts, h, by simp only [Spec.push, Spec.val, hd]; rw [ha]; exact hr⟩)⟩⟩
/-- .. where the temporary held something. -/
theorem wpRel_relv (ts : List Tmp) (g : Rel) (hg : clear done (guardLooks ops o) = true) (hts : tsB ops o done ts = true) (hw : Region.wanted o (yielded ops a.tmps) = true) (he : eff.contains i = false) (hs : Grows F g)
    (d : Tmp) (hd : o.dst = some d) (a₁ : Act) (ha : a.put (some d) undef = a₁)
    (h : ∀ x : Lat F w, bindSome done x.w ts a (fun a' => o.wp P a' x.w (fun a'' W' => ∃ v, a'' = a'.put o.dst v ∧ Keeps Nope x.w W' ∧ g v W') (fun _ _ _ => False)))
    (hr : wpRel P ops F w eff Q rest (i + 1) ((d, g) :: done) L a₁) : wpRel P ops F w eff Q (o :: rest) i done L a :=
  ⟨hg, .inr ⟨hw, .inr (.inl ⟨he, .re g, ts, hs, hts, h, by simp only [Spec.push, Spec.val, hd]; rw [ha]; exact hr⟩)⟩⟩
/-- A copy of one of which a predicate is told. -/
theorem wpRel_copy (t d : Tmp) (g : Rel) (ho : o.op = .move (.tmp t) ∨ o.op = .assign (.tmp t)) (hg : clear done (guardLooks ops o) = true) (hts : tsB ops o done [t] = true) (hw : Region.wanted o (yielded ops a.tmps) = true) (he : eff.contains i = false)
    (hs : Grows F g) (hf : (done.find? (fun p => p.1 == t)).map (·.2) = some g) (hsz : t < a.tmps.size) (hd : o.dst = some d) (a₁ : Act) (ha : a.put (some d) undef = a₁)
    (hr : wpRel P ops F w eff Q rest (i + 1) ((d, g) :: done) L a₁) : wpRel P ops F w eff Q (o :: rest) i done L a := by
  refine wpRel_relv [t] g hg hts hw he hs d hd a₁ ha (fun x => ?_) hr
  cases hf' : done.find? (fun p => p.1 == t) with
  | none => rw [hf'] at hf; cases hf
  | some p =>
    rw [hf'] at hf
    simp only [Option.map_some, Option.some.injEq] at hf
    simp only [bindSome, hf', hf]
    intro v hv
    have e : (a.put (some t) v).eval (.tmp t) = v := by simp [Act.eval, Act.put, hsz]
    unfold Oper.wp execOp
    rcases ho with ho | ho <;>
    · simp only [ho, Sem.run_pure, Oper.upon, e]
      exact ⟨v, rfl, Keeps.refl _ _, hv⟩
/-- An operation of one value, that makes memory. -/
theorem wpRel_ex (ts : List Tmp) (v : Value) (hg : clear done (guardLooks ops o) = true) (hts : tsB ops o done ts = true) (hw : Region.wanted o (yielded ops a.tmps) = true) (he : eff.contains i = false)
    (a₁ : Act) (ha : a.put o.dst v = a₁)
    (h : ∀ x : Lat F w, bindSome done x.w ts a (fun a' => o.wp P a' x.w (fun a'' W' => ∃ u, a'' = a'.put o.dst u ∧ Keeps Nope x.w W' ∧ u = v) (fun _ _ _ => False)))
    (hr : wpRel P ops F w eff Q rest (i + 1) done L a₁) : wpRel P ops F w eff Q (o :: rest) i done L a :=
  ⟨hg, .inr ⟨hw, .inr (.inl ⟨he, .ex v, ts, trivial, hts, h, ha ▸ hr⟩)⟩⟩
/-- An operation that turns blocks of F; of a value. -/
theorem wpRel_eff (ts : List Tmp) (v : Value) (L' : World → Prop) (hL : LGrows L') (hg : clear done (guardLooks ops o) = true) (hts : tsB ops o done ts = true) (hw : Region.wanted o (yielded ops a.tmps) = true) (he : eff.contains i = true)
    (a₁ : Act) (ha : a.put o.dst v = a₁)
    (h : ∀ x : Lat F w, L x.w → bindSome done x.w ts a (fun a' => o.wp P a' x.w (fun a'' W' => ∃ u, a'' = a'.put o.dst u ∧ (Keeps F x.w W' ∧ L' W') ∧ u = v) (fun _ _ _ => False)))
    (hr : wpRel P ops F w eff Q rest (i + 1) done L' a₁) : wpRel P ops F w eff Q (o :: rest) i done L a :=
  ⟨hg, .inr ⟨hw, .inr (.inr ⟨he, .ex v, ts, L', trivial, hL, hts, h, ha ▸ hr⟩)⟩⟩
/-- .. of which a predicate is told. -/
theorem wpRel_effr (ts : List Tmp) (g : Rel) (L' : World → Prop) (hL : LGrows L') (hg : clear done (guardLooks ops o) = true) (hts : tsB ops o done ts = true) (hw : Region.wanted o (yielded ops a.tmps) = true) (he : eff.contains i = true) (hs : Grows F g)
    (d : Tmp) (hd : o.dst = some d) (a₁ : Act) (ha : a.put (some d) undef = a₁)
    (h : ∀ x : Lat F w, L x.w → bindSome done x.w ts a (fun a' => o.wp P a' x.w (fun a'' W' => ∃ u, a'' = a'.put o.dst u ∧ (Keeps F x.w W' ∧ L' W') ∧ g u W') (fun _ _ _ => False)))
    (hr : wpRel P ops F w eff Q rest (i + 1) ((d, g) :: done) L' a₁) : wpRel P ops F w eff Q (o :: rest) i done L a :=
  ⟨hg, .inr ⟨hw, .inr (.inr ⟨he, .re g, ts, L', hs, hL, hts, h, by simp only [Spec.push, Spec.val, hd]; rw [ha]; exact hr⟩)⟩⟩
end

section
variable {P : Program} {ops : Array Oper} {F : Nat → Prop} {w : World} {eff : List Nat}

theorem slot_put_ne {a : Act} {d t : Tmp} {v : Value} (h : d ≠ t) : (a.put (some d) v).tmps[t]? = a.tmps[t]? := by
  simp [Act.put, Array.getElem?_setIfInBounds_ne h]
theorem slot_put {a : Act} {t : Tmp} {v : Value} (h : t < a.tmps.size) : (a.put (some t) v).tmps[t]? = some v := by
  simp [Act.put, h]
theorem put_size (a : Act) (d : Option Tmp) (v : Value) : (a.put d v).tmps.size = a.tmps.size := by
  cases d <;> simp [Act.put]
theorem put_defers (a : Act) (d : Option Tmp) (v : Value) : (a.put d v).defers = a.defers := by cases d <;> rfl
theorem slot_put_other {a : Act} {d : Option Tmp} {t : Tmp} {v : Value} (h : d ≠ some t) : (a.put d v).tmps[t]? = a.tmps[t]? := by
  cases d with
  | none => rfl
  | some d => exact slot_put_ne (fun e => h (e ▸ rfl))

theorem eval_of_slots {a b : Act} {ts : List Tmp} {x : Operand} (h : ∀ t ∈ ts, a.tmps[t]? = b.tmps[t]?) (hx : ∀ t, x = .tmp t → t ∈ ts) : a.eval x = b.eval x := by
  cases x with
  | tmp t => have := h t (hx t rfl); simp [Act.eval, this]
  | _ => rfl
theorem execOp_slots (o : Oper) (hs : ∀ cs b, o.op ≠ .select cs b) {a b : Act} (h : ∀ t ∈ o.looksAt ops, a.tmps[t]? = b.tmps[t]?) : execOp a.eval o = execOp b.eval o :=
  execOp_congr o hs fun x hx => eval_of_slots h fun t ht => by
    subst ht
    exact List.mem_append_left _ (List.mem_filterMap.2 ⟨.tmp t, by simpa using hx, rfl⟩)
theorem wanted_slots (o : Oper) {a b : Act} (h : ∀ t ∈ guardLooks ops o, a.tmps[t]? = b.tmps[t]?) : Region.wanted o (yielded ops a.tmps) = Region.wanted o (yielded ops b.tmps) := by
  unfold Region.wanted
  cases hg : o.guard with
  | none => rfl
  | some gw =>
    obtain ⟨g, want⟩ := gw
    have hy : yielded ops a.tmps g = yielded ops b.tmps g := by
      unfold yielded
      cases ht : (ops[g]?).bind (·.dst) with
      | none => rfl
      | some t =>
        have := h t (by simp [guardLooks, hg, ht])
        simp [this]
    simp only [hy]
theorem guard_looks {o : Oper} {t : Tmp} (h : t ∈ guardLooks ops o) : t ∈ o.looksAt ops := by
  unfold guardLooks at h
  unfold Oper.looksAt
  exact List.mem_append_right _ h

/-- The same operation in another state that shows it the same. -/
theorem wp_slots {o : Oper} (hs : ∀ cs b, o.op ≠ .select cs b) {a b : Act} {W : World} {g : Value → World → Prop} (ha : ∀ t, o.dst = some t → t < a.tmps.size)
    (h : ∀ t ∈ o.looksAt ops, a.tmps[t]? = b.tmps[t]?) (hw : o.wp P a W (fun a'' W' => ∃ v, a'' = a.put o.dst v ∧ g v W') (fun _ _ _ => False)) :
    o.wp P b W (fun b' W' => ∃ v, b' = b.put o.dst v ∧ g v W') (fun _ _ _ => False) := by
  have tr : ∀ u v, a.put o.dst u = a.put o.dst v → b.put o.dst u = b.put o.dst v := fun u v e => by
    cases hd : o.dst with
    | none => rfl
    | some t =>
      rw [hd] at e
      have h2 := congrArg (fun c : Act => c.tmps[t]?) e
      simp only [slot_put (ha t hd)] at h2
      injection h2 with h2
      rw [h2]
  unfold Oper.wp at *
  rw [execOp_slots o hs h] at hw
  generalize (execOp b.eval o).run P W = r at *
  cases r with
  | ok n w' =>
    cases n <;> simp only [Oper.upon] at hw ⊢
    case value u => obtain ⟨v, e, hg⟩ := hw; exact ⟨v, tr u v e, hg⟩
    case skip => obtain ⟨v, e, hg⟩ := hw; exact ⟨v, tr _ v e, hg⟩
    case defer d =>
      obtain ⟨v, e, hg⟩ := hw
      have := congrArg Act.defers e
      rw [put_defers, put_defers] at this
      exact absurd (congrArg List.length this) (by simp)
    case enter f args =>
      refine Calls.mono hw fun e w'' he => ?_
      cases e with
      | returned u => obtain ⟨v, e, hg⟩ := he; exact ⟨v, tr u v e, hg⟩
      | panicked c => exact he
      | outgrown => obtain ⟨_, _, h⟩ := he; exact h.elim
    case row row args =>
      refine Rows.mono hw fun u w'' he => ?_
      obtain ⟨v, e, hg⟩ := he
      exact ⟨v, tr u v e, hg⟩
  | halt x w' => cases x <;> simp only [Oper.upon] at hw ⊢

/-- What is known of a temporary, operations below i having come up if it waits for them: told by who wrote it, or as it was. -/
def Knows (ops : Array Oper) (S : Nat → Spec) (a₀ : Act) (i : Nat) (b : Act) (W : World) (t : Tmp) : Prop :=
  (∀ j, j < i → dstOf ops j = some t → ∃ v, b.tmps[t]? = some v ∧ (S j).ok v W) ∧ ((∀ j, j < i → dstOf ops j ≠ some t) → b.tmps[t]? = a₀.tmps[t]?)

/-- Operation i, in whatever state: where what it looks at is as it should be, it leaves what it should. -/
def After (F : Nat → Prop) (L : World → Prop) (e : Bool) (W W' : World) : Prop := (e = false → Keeps Nope W W') ∧ (e = true → Keeps F W W' ∧ L W')
def Runs (P : Program) (ops : Array Oper) (F : Nat → Prop) (w : World) (eff : List Nat) (S : Nat → Spec) (Ls : Nat → World → Prop) (a₀ : Act) (i : Nat) (o : Oper) : Prop :=
  ∀ (b : Act) (W : World), Keeps F w W → b.tmps.size = a₀.tmps.size → (∀ t ∈ o.looksAt ops, Knows ops S a₀ i b W t) → (eff.contains i = true → Ls i W) →
    if Region.wanted o (yielded ops b.tmps) then o.wp P b W (fun b' W' => ∃ v, b' = b.put o.dst v ∧ After F (Ls (i + 1)) (eff.contains i) W W' ∧ (S i).ok v W') (fun _ _ _ => False)
    else (S i).ok undef W ∧ (eff.contains i = true → Ls (i + 1) W)

/-- The template: exact values laid; of the others a predicate. -/
structure Templ (F : Nat → Prop) (ops : Array Oper) (S : Nat → Spec) (a₀ : Act) (i : Nat) (done : List (Tmp × Rel)) (a : Act) : Prop where
  size : a.tmps.size = a₀.tmps.size
  defers : a.defers = a₀.defers
  ex : ∀ j v t, j < i → dstOf ops j = some t → S j = .ex v → a.tmps[t]? = some v
  re : ∀ j g t, j < i → dstOf ops j = some t → S j = .re g → done.find? (fun p => p.1 == t) = some (t, g)
  other : ∀ t, (∀ j, j < i → dstOf ops j ≠ some t) → a.tmps[t]? = a₀.tmps[t]?
  only : ∀ p ∈ done, ∃ j, j < i ∧ dstOf ops j = some p.1 ∧ S j = .re p.2
  grows : ∀ j, j < i → (S j).grows F

theorem clear_spec {done : List (Tmp × Rel)} {ts : List Tmp} (h : clear done ts = true) : ∀ t ∈ ts, ∀ p ∈ done, p.1 ≠ t := by
  intro t ht p hp e
  have := List.all_eq_true.1 h t ht
  simp only [Bool.not_eq_true', List.any_eq_false, beq_iff_eq] at this
  exact this p hp e
theorem find_none {done : List (Tmp × Rel)} {t : Tmp} (h : ∀ p ∈ done, p.1 ≠ t) : done.find? (fun p => p.1 == t) = none := by
  simp only [List.find?_eq_none, beq_iff_eq]
  exact h

/-- Of a temporary that no predicate tells of, the state shows what the template shows. -/
theorem Templ.same {S : Nat → Spec} {a₀ a b : Act} {i : Nat} {done : List (Tmp × Rel)} {W : World} {t : Tmp} (T : Templ F ops S a₀ i done a) (hc : ∀ p ∈ done, p.1 ≠ t) (hk : Knows ops S a₀ i b W t) : a.tmps[t]? = b.tmps[t]? := by
  by_cases h : ∃ j, j < i ∧ dstOf ops j = some t
  · obtain ⟨j, hj, hd⟩ := h
    obtain ⟨v, hv, hok⟩ := hk.1 j hj hd
    cases hS : S j with
    | ex u =>
      rw [hS] at hok
      rw [T.ex j u t hj hd hS, hv]
      exact congrArg some hok.symm
    | re g =>
      have := T.re j g t hj hd hS
      rw [find_none hc] at this
      cases this
  · have hn : ∀ j, j < i → dstOf ops j ≠ some t := fun j hj hd => h ⟨j, hj, hd⟩
    rw [T.other t hn, hk.2 hn]

theorem bind_inst {S : Nat → Spec} {a₀ b : Act} {i : Nat} {done : List (Tmp × Rel)} {W : World} {K : Act → Prop} : ∀ (ts : List Tmp) (a a₁ : Act), Templ F ops S a₀ i done a → (∀ t ∈ ts, Knows ops S a₀ i b W t) →
    a₁.tmps.size = a₀.tmps.size → b.tmps.size = a₀.tmps.size → (∀ t : Tmp, a₁.tmps[t]? = a.tmps[t]? ∨ a₁.tmps[t]? = b.tmps[t]?) →
    bindSome done W ts a₁ K → ∃ a₂, K a₂ ∧ a₂.tmps.size = a₀.tmps.size ∧ a₂.defers = a₁.defers ∧ (∀ t : Tmp, a₁.tmps[t]? = b.tmps[t]? → a₂.tmps[t]? = b.tmps[t]?) ∧ (∀ t ∈ ts, a₂.tmps[t]? = b.tmps[t]?)
  | [], a, a₁, T, _, hs, hb, _, h => ⟨a₁, h, hs, rfl, fun _ h => h, fun t ht => by cases ht⟩
  | t :: ts, a, a₁, T, hk, hs, hb, ho, h => by
    simp only [bindSome] at h
    have hkt := hk t (by simp)
    cases hf : done.find? (fun p => p.1 == t) with
    | none =>
      rw [hf] at h
      have hc : ∀ p ∈ done, p.1 ≠ t := by
        intro p hp e
        have := List.find?_eq_none.1 hf p hp
        simp [e] at this
      obtain ⟨a₂, h1, h2, h0, h3, h4⟩ := bind_inst ts a a₁ T (fun u hu => hk u (by simp [hu])) hs hb ho h
      have e1 : a₁.tmps[t]? = b.tmps[t]? := by
        rcases ho t with e | e
        · rw [e]; exact T.same hc hkt
        · exact e
      refine ⟨a₂, h1, h2, h0, h3, fun u hu => ?_⟩
      rcases List.mem_cons.1 hu with rfl | hu
      · exact h3 _ e1
      · exact h4 u hu
    | some p =>
      rw [hf] at h
      have hp : p.1 = t := by have := List.find?_some hf; simpa using this
      have hm : p ∈ done := List.mem_of_find?_eq_some hf
      obtain ⟨j, hj, hd, hS⟩ := T.only p hm
      rw [hp] at hd
      obtain ⟨v, hv, hok⟩ := hkt.1 j hj hd
      rw [hS] at hok
      have htl : t < a₁.tmps.size := by
        rw [hs, ← hb]
        exact (Array.getElem?_eq_some_iff.1 hv).1
      have e1 : (a₁.put (some t) v).tmps[t]? = b.tmps[t]? := by rw [slot_put htl, hv]
      obtain ⟨a₂, h1, h2, h0, h3, h4⟩ := bind_inst ts a (a₁.put (some t) v) T (fun u hu => hk u (by simp [hu])) (by rw [put_size]; exact hs) hb (fun u => by
        by_cases hu : u = t
        · subst hu; exact .inr e1
        · rw [slot_put_ne (Ne.symm hu)]; exact ho u) (h v hok)
      refine ⟨a₂, h1, h2, h0, fun u hu => ?_, fun u hu => ?_⟩
      · by_cases hut : u = t
        · subst hut; exact h3 _ e1
        · exact h3 u (by rw [slot_put_ne (Ne.symm hut)]; exact hu)
      · rcases List.mem_cons.1 hu with rfl | hu
        · exact h3 _ e1
        · exact h4 u hu
theorem bindAll_inst {S : Nat → Spec} {a₀ a b : Act} {i : Nat} {done : List (Tmp × Rel)} {W : World} {K : Act → Prop} (T : Templ F ops S a₀ i done a) (hk : ∀ t, Knows ops S a₀ i b W t)
    (hb : b.tmps.size = a₀.tmps.size) : ∀ (d : List (Tmp × Rel)) (a₁ : Act), (∀ p ∈ d, p ∈ done) → a₁.tmps.size = a₀.tmps.size → bindAll W d a₁ K →
    ∃ a₂, K a₂ ∧ a₂.tmps.size = a₀.tmps.size ∧ a₂.defers = a₁.defers ∧ (∀ t : Tmp, a₁.tmps[t]? = b.tmps[t]? → a₂.tmps[t]? = b.tmps[t]?) ∧ (∀ p ∈ d, a₂.tmps[p.1]? = b.tmps[p.1]?) ∧ (∀ t : Tmp, (∀ p ∈ d, p.1 ≠ t) → a₂.tmps[t]? = a₁.tmps[t]?)
  | [], a₁, _, hs, h => ⟨a₁, h, hs, rfl, fun _ h => h, (fun p hp => (List.not_mem_nil hp).elim), fun _ _ => rfl⟩
  | p :: d, a₁, hd, hs, h => by
    obtain ⟨j, hj, hdj, hS⟩ := T.only p (hd p (by simp))
    obtain ⟨v, hv, hok⟩ := (hk p.1).1 j hj hdj
    rw [hS] at hok
    have htl : p.1 < a₁.tmps.size := by
      rw [hs, ← hb]
      exact (Array.getElem?_eq_some_iff.1 hv).1
    have e1 : (a₁.put (some p.1) v).tmps[p.1]? = b.tmps[p.1]? := by rw [slot_put htl, hv]
    obtain ⟨a₂, h1, h2, h0, h3, h4, h5⟩ := bindAll_inst T hk hb d (a₁.put (some p.1) v) (fun q hq => hd q (by simp [hq])) (by rw [put_size]; exact hs) (h v hok)
    refine ⟨a₂, h1, h2, h0, fun u hu => ?_, fun q hq => ?_, fun u hu => ?_⟩
    · by_cases hut : u = p.1
      · subst hut; exact h3 _ e1
      · exact h3 u (by rw [slot_put_ne (Ne.symm hut)]; exact hu)
    · rcases List.mem_cons.1 hq with rfl | hq
      · exact h3 _ e1
      · exact h4 q hq
    · rw [h5 u (fun q hq => hu q (by simp [hq])), slot_put_ne (hu p (by simp))]

theorem Runs.congr {S S' : Nat → Spec} {Ls Ls' : Nat → World → Prop} {a₀ : Act} {i : Nat} {o : Oper} (h : ∀ j, j ≤ i → S j = S' j) (hL : ∀ j, j ≤ i + 1 → Ls j = Ls' j) (hr : Runs P ops F w eff S Ls a₀ i o) : Runs P ops F w eff S' Ls' a₀ i o := by
  intro b W hK hs hk hl
  have := hr b W hK hs (fun t ht => ⟨fun j hj hd => by rw [h j (Nat.le_of_lt hj)]; exact (hk t ht).1 j hj hd, (hk t ht).2⟩) (fun he => by rw [hL i (by omega)]; exact hl he)
  rw [h i (Nat.le_refl i), hL (i + 1) (Nat.le_refl _)] at this
  exact this

theorem quiet_runs {o : Oper} (hs : ∀ cs b, o.op ≠ .select cs b) {a b : Act} {v : Value} {W : World} (ha : ∀ t, o.dst = some t → t < a.tmps.size) (h : ∀ t ∈ o.looksAt ops, a.tmps[t]? = b.tmps[t]?)
    (hq : o.quiet P a (fun W' => W' = W) (fun a' => SlotIs o.dst a' v)) : o.wp P b W (fun b' W' => ∃ u, b' = b.put o.dst u ∧ Keeps Nope W W' ∧ u = v) (fun _ _ _ => False) := by
  obtain ⟨u, h1, h2⟩ := hq
  have h3 := h1 W rfl
  have e : ∀ c : Act, c.put o.dst u = c.put o.dst v := fun c => by
    cases hd : o.dst with
    | none => rfl
    | some t =>
      rw [hd] at h2
      simp only [SlotIs, slot_put (ha t hd)] at h2
      injection h2 with h2
      rw [h2]
  unfold Oper.quietAt at h3
  rw [execOp_slots o hs h] at h3
  unfold Oper.wp
  generalize (execOp b.eval o).run P W = r at *
  cases r with
  | ok n w' =>
    cases n <;> simp only [Oper.quietUpon] at h3 <;> simp only [Oper.upon]
    case value x => obtain ⟨rfl, rfl⟩ := h3; exact ⟨v, e b, Keeps.refl _ _, rfl⟩
    case skip => obtain ⟨rfl, rfl⟩ := h3; exact ⟨v, e b, Keeps.refl _ _, rfl⟩
    case enter f args =>
      obtain ⟨rfl, hc⟩ := h3
      exact hc.mono fun x w'' ⟨he, hw''⟩ => by subst he; subst hw''; exact ⟨v, e b, Keeps.refl _ _, rfl⟩
  | halt x w' => simp only [Oper.quietUpon] at h3

/-- What the walk in the text's order shows of each operation. -/
theorem chain {Q : List (Tmp × Rel) → (World → Prop) → Act → Prop} {a₀ : Act} {n : Nat} (hsel : ∀ (j : Nat) (o : Oper) cs b, ops[j]? = some o → o.op ≠ .select cs b)
    (hdist : ∀ i, i < n → ∀ d, dstOf ops i = some d → d < a₀.tmps.size ∧ ∀ j, j < i → dstOf ops j ≠ some d) :
    ∀ (l : List Oper) (k : Nat) (S₀ : Nat → Spec) (L₀ : Nat → World → Prop) (done : List (Tmp × Rel)) (a : Act), (∀ j, j < l.length → l[j]? = ops[k + j]?) → k + l.length ≤ n → Templ F ops S₀ a₀ k done a → LGrows (L₀ k) → wpRel P ops F w eff Q l k done (L₀ k) a →
    ∃ S Ls done' a', (∀ j, j < k → S j = S₀ j) ∧ (∀ j, j ≤ k → Ls j = L₀ j) ∧ (∀ i o, k ≤ i → i < k + l.length → ops[i]? = some o → Runs P ops F w eff S Ls a₀ i o) ∧ (∀ i, k ≤ i → i < k + l.length → eff.contains i = false → Ls (i + 1) = Ls i) ∧
      (∀ i, k ≤ i → i ≤ k + l.length → LGrows (Ls i)) ∧ Templ F ops S a₀ (k + l.length) done' a' ∧ Q done' (Ls (k + l.length)) a'
  | [], k, S₀, L₀, done, a, _, _, T, hLg, h => ⟨S₀, L₀, done, a, fun _ _ => rfl, fun _ _ => rfl, fun i o h1 h2 _ => absurd h2 (by simp; omega), fun i h1 h2 => absurd h2 (by simp; omega), fun i h1 h2 => (show i = k by simp at h2; omega) ▸ hLg, T, h⟩
  | o :: l, k, S₀, L₀, done, a, hl, hn, T, hLg, h => by
    have h0 : ops[k]? = some o := by have := hl 0 (by simp); simpa using this.symm
    have hkn : k < n := by simp at hn; omega
    have hd0 : dstOf ops k = o.dst := by simp [dstOf, h0]
    have hdk := hdist k hkn
    rw [hd0] at hdk
    have hdst : ∀ t, o.dst = some t → t < a.tmps.size := fun t ht => by rw [T.size]; exact (hdk t ht).1
    -- one step
    have step : ∃ (s : Spec) (L' : World → Prop), s.grows F ∧ LGrows L' ∧ (eff.contains k = false → L' = L₀ k) ∧ Runs P ops F w eff (fun j => if j = k then s else S₀ j) (fun j => if j = k + 1 then L' else L₀ j) a₀ k o ∧ wpRel P ops F w eff Q l (k + 1) (s.push o.dst done) L' (a.put o.dst s.val) := by
      obtain ⟨hgl, h⟩ := h
      have gd : ∀ (s : Spec) (b : Act) (W : World), (∀ t ∈ o.looksAt ops, Knows ops (fun j => if j = k then s else S₀ j) a₀ k b W t) → (∀ t ∈ o.looksAt ops, Knows ops S₀ a₀ k b W t) := fun s b W hk t ht =>
        ⟨fun j hj hd => by have := (hk t ht).1 j hj hd; simpa [show j ≠ k by omega] using this, (hk t ht).2⟩
      have gw : ∀ (b : Act) (W : World), (∀ t ∈ o.looksAt ops, Knows ops S₀ a₀ k b W t) → Region.wanted o (yielded ops b.tmps) = Region.wanted o (yielded ops a.tmps) := fun b W hk =>
        (wanted_slots o fun t ht => T.same (clear_spec hgl t ht) (hk t (guard_looks ht))).symm
      have gl : ∀ (L' : World → Prop) (W : World), (if k = k + 1 then L' else L₀ k) W → L₀ k W := fun L' W h => by rwa [if_neg (by omega)] at h
      rcases h with ⟨hw, h⟩ | ⟨hw, ⟨hef, a₁, hcl, hq, h⟩ | ⟨hef, s, ts, hg, hts, hq, h⟩ | ⟨hef, s, ts, L', hg, hLg', hts, hq, h⟩⟩
      · refine ⟨.ex undef, L₀ k, trivial, hLg, fun _ => rfl, fun b W hK hs hk hL => ?_, h⟩
        rw [gw b W (gd _ b W hk), hw]
        simp only [Bool.false_eq_true, if_false, if_true, Spec.ok, true_and]
        exact fun he => gl _ W (hL he)
      · obtain ⟨v, _, e1⟩ := hq ⟨w, Keeps.refl _ _⟩
        subst e1
        refine ⟨.ex v, L₀ k, trivial, hLg, fun _ => rfl, fun b W hK hs hk hL => ?_, h⟩
        have hk' := gd _ b W hk
        rw [gw b W hk', hw]
        simp only [if_true]
        refine Oper.wp_mono (fun b' W' h => ?_) (quiet_runs (hsel k o · · h0) hdst (fun t ht => T.same (clear_spec hcl t ht) (hk' t ht)) (Oper.quiet_mono (fun a' e => by
          subst e
          cases hdo : o.dst with
          | none => trivial
          | some t => exact slot_put (hdst t hdo)) (hq ⟨W, hK⟩)))
        obtain ⟨u, e1, e2, e3⟩ := h
        exact ⟨u, e1, ⟨fun _ => e2, fun he => (by rw [hef] at he; cases he)⟩, e3⟩
      · refine ⟨s, L₀ k, hg, hLg, fun _ => rfl, fun b W hK hs hk hL => ?_, h⟩
        have hk' := gd _ b W hk
        rw [gw b W hk', hw]
        simp only [if_true]
        simp only [tsB, Bool.and_eq_true, List.all_eq_true, Bool.or_eq_true, Bool.not_eq_true', List.any_eq_false, beq_iff_eq, List.contains_iff_mem] at hts
        obtain ⟨a₂, hwp, hs2, _, hsl3, hsl⟩ := bind_inst ts a a T (fun t ht => hk' t (hts.2 t ht)) T.size hs (fun t => .inl rfl) (hq ⟨W, hK⟩)
        refine wp_slots (ops := ops) (hsel k o · · h0) (fun t ht => by rw [hs2]; exact (hdk t ht).1) (fun t ht => ?_) (Oper.wp_mono (fun b' W' h => ?_) hwp)
        · rcases hts.1 t ht with h1 | h1
          · exact hsl3 t (T.same h1 (hk' t ht))
          · exact hsl t h1
        · obtain ⟨u, e1, e2, e3⟩ := h
          exact ⟨u, e1, ⟨fun _ => e2, fun he => (by rw [hef] at he; cases he)⟩, e3⟩
      · refine ⟨s, L', hg, hLg', fun he => (by rw [hef] at he; cases he), fun b W hK hs hk hL => ?_, h⟩
        have hk' := gd _ b W hk
        rw [gw b W hk', hw]
        simp only [if_true]
        simp only [tsB, Bool.and_eq_true, List.all_eq_true, Bool.or_eq_true, Bool.not_eq_true', List.any_eq_false, beq_iff_eq, List.contains_iff_mem] at hts
        obtain ⟨a₂, hwp, hs2, _, hsl3, hsl⟩ := bind_inst ts a a T (fun t ht => hk' t (hts.2 t ht)) T.size hs (fun t => .inl rfl) (hq ⟨W, hK⟩ (gl _ W (hL hef)))
        refine wp_slots (ops := ops) (hsel k o · · h0) (fun t ht => by rw [hs2]; exact (hdk t ht).1) (fun t ht => ?_) (Oper.wp_mono (fun b' W' h => ?_) hwp)
        · rcases hts.1 t ht with h1 | h1
          · exact hsl3 t (T.same h1 (hk' t ht))
          · exact hsl t h1
        · obtain ⟨u, e1, e2, e3⟩ := h
          exact ⟨u, e1, ⟨fun he => (by rw [hef] at he; cases he), fun _ => e2⟩, e3⟩
    obtain ⟨s, L', hg, hLg', hLe, hrun, hrest⟩ := step
    have T' : Templ F ops (fun j => if j = k then s else S₀ j) a₀ (k + 1) (s.push o.dst done) (a.put o.dst s.val) := by
      refine ⟨by rw [put_size]; exact T.size, by rw [put_defers]; exact T.defers, fun j v t hj hd hS => ?_, fun j g t hj hd hS => ?_, fun t ht => ?_, fun p hp => ?_, fun j hj => ?_⟩
      · by_cases hjk : j = k
        · subst hjk
          simp only [if_true] at hS
          subst hS
          rw [hd0] at hd
          rw [hd]
          exact slot_put (hdst t hd)
        · have hj' : j < k := by omega
          simp only [hjk, if_false] at hS
          rw [slot_put_other (fun e => (hdk t e).2 j hj' hd)]
          exact T.ex j v t hj' hd hS
      · by_cases hjk : j = k
        · subst hjk
          simp only [if_true] at hS
          subst hS
          rw [hd0] at hd
          simp [Spec.push, hd]
        · have hj' : j < k := by omega
          simp only [hjk, if_false] at hS
          have h2 := T.re j g t hj' hd hS
          cases s with
          | ex v => exact h2
          | re g' =>
            simp only [Spec.push]
            cases hdo : o.dst with
            | none => exact h2
            | some d =>
              have hne : d ≠ t := fun e => (hdk d hdo).2 j hj' (e ▸ hd)
              simp only [List.find?_cons]
              rw [show (d == t) = false by simpa using hne]
              exact h2
      · rw [slot_put_other (fun e => ht k (by omega) (hd0.trans e))]
        exact T.other t fun j hj => ht j (by omega)
      · have keep : ∀ p ∈ done, ∃ j, j < k + 1 ∧ dstOf ops j = some p.1 ∧ (if j = k then s else S₀ j) = .re p.2 := fun p hp => by
          obtain ⟨j, hj, hd, hS⟩ := T.only p hp
          exact ⟨j, by omega, hd, by rw [if_neg (by omega)]; exact hS⟩
        cases s with
        | ex v => exact keep p hp
        | re g =>
          simp only [Spec.push] at hp
          cases hdo : o.dst with
          | none => rw [hdo] at hp; exact keep p hp
          | some d =>
            rw [hdo] at hp
            rcases List.mem_cons.1 hp with rfl | hp
            · exact ⟨k, by omega, hd0.trans hdo, by simp⟩
            · exact keep p hp
      · by_cases hjk : j = k
        · simp only [hjk, if_true]; exact hg
        · simp only [hjk, if_false]; exact T.grows j (by omega)
    obtain ⟨S, Ls, done', a', hS, hL, hR, hE, hG, hT, hQ⟩ := chain hsel hdist l (k + 1) (fun j => if j = k then s else S₀ j) (fun j => if j = k + 1 then L' else L₀ j) _ _ (fun j hj => by have := hl (j + 1) (by simp; omega); simpa [Nat.add_assoc, Nat.add_comm 1 j] using this) (by simp at hn; omega) T' (by simp only [if_true]; exact hLg') (by simp only [if_true]; exact hrest)
    have e : k + 1 + l.length = k + (o :: l).length := by simp; omega
    refine ⟨S, Ls, done', a', fun j hj => by rw [hS j (by omega), if_neg (by omega)], fun j hj => by rw [hL j (by omega), if_neg (by omega)], fun i oi h1 h2 hi => ?_, fun i h1 h2 he => ?_, fun i h1 h2 => ?_, e ▸ hT, e ▸ hQ⟩
    · by_cases hik : i = k
      · subst hik
        obtain rfl : o = oi := Option.some.inj (h0.symm.trans hi)
        exact hrun.congr (fun j hj => (hS j (by omega)).symm) (fun j hj => (hL j hj).symm)
      · exact hR i oi (by omega) (by rw [e]; exact h2) hi
    · by_cases hik : i = k
      · subst hik
        rw [hL (i + 1) (Nat.le_refl _), hL i (by omega), if_pos rfl, if_neg (by omega)]
        exact hLe he
      · exact hE i (by omega) (by rw [e]; exact h2) he
    · by_cases hik : i = k
      · subst hik
        rw [hL i (by omega), if_neg (by omega)]
        exact hLg
      · exact hG i (by omega) (by rw [e]; exact h2)

theorem wp_widen {o : Oper} {b : Act} {W : World} {K : Act → World → Prop} {Q' : Exit → Act → World → Prop} (h : o.wp P b W K (fun _ _ _ => False)) : o.wp P b W K Q' := by
  unfold Oper.wp at *
  generalize (execOp b.eval o).run P W = r at *
  cases r with
  | ok n w' =>
    cases n <;> simp only [Oper.upon] at h ⊢
    case value u => exact h
    case skip => exact h
    case defer d => exact h
    case enter f args =>
      refine Calls.mono h fun e w'' he => ?_
      cases e with
      | returned u => exact he
      | panicked c => exact he.elim
      | outgrown => obtain ⟨_, _, h⟩ := he; exact h.elim
    case row row args => exact h
  | halt x w' => cases x <;> simp only [Oper.upon] at h ⊢

def cnt (listed : Array Bool) : Nat → Nat
  | 0 => 0
  | k + 1 => cnt listed k + (if listed.getD k false then 0 else 1)
theorem cnt_set {listed : Array Bool} {i : Nat} : ∀ (n : Nat), i < listed.size → listed.getD i false = false → (n ≤ i → cnt (listed.setIfInBounds i true) n = cnt listed n) ∧ (i < n → cnt (listed.setIfInBounds i true) n + 1 = cnt listed n)
  | 0, _, _ => ⟨fun _ => rfl, fun h => absurd h (by omega)⟩
  | k + 1, hs, hi => by
    have ih := cnt_set k hs hi
    refine ⟨fun h => ?_, fun h => ?_⟩
    · simp only [cnt]
      rw [ih.1 (by omega), getD_set_ne false (by omega)]
    · simp only [cnt]
      by_cases hik : i = k
      · subst hik
        rw [ih.1 (Nat.le_refl _)]
        have : (listed.setIfInBounds i true).getD i false = true := by simp [hs]
        rw [this, hi]
        simp
      · have := ih.2 (by omega)
        rw [getD_set_ne false hik]
        omega
theorem cnt_zero {listed : Array Bool} : ∀ (n : Nat), cnt listed n = 0 → ∀ i, i < n → listed.getD i false = true
  | 0, _, i, hi => absurd hi (by omega)
  | k + 1, h, i, hi => by
    simp only [cnt] at h
    by_cases hik : i = k
    · subst hik
      cases hl : listed.getD i false with
      | true => rfl
      | false => rw [hl] at h; simp at h
    · exact cnt_zero k (by omega) i (by omega)
theorem cnt_pos {listed : Array Bool} : ∀ (n : Nat), cnt listed n ≠ 0 → ∃ i, i < n ∧ listed.getD i false = false ∧ ∀ j, j < i → listed.getD j false = true
  | 0, h => absurd rfl h
  | k + 1, h => by
    by_cases hc : cnt listed k = 0
    · refine ⟨k, by omega, ?_, cnt_zero k hc⟩
      cases hl : listed.getD k false with
      | false => rfl
      | true => simp only [cnt, hc, hl] at h; simp at h
    · obtain ⟨i, h1, h2, h3⟩ := cnt_pos k hc
      exact ⟨i, by omega, h2, h3⟩

theorem afters_spec {i j : Nat} {o : Oper} (ho : ops[i]? = some o) : j ∈ aftersOf ops i ↔ ∃ e ∈ o.after, Region.binds .any e = true ∧ e.on = j := by
  unfold aftersOf
  simp only [ho, List.mem_map, List.mem_filter, Array.mem_toList_iff]
  exact ⟨fun ⟨e, ⟨h1, h2⟩, h3⟩ => ⟨e, h1, h2, h3⟩, fun ⟨e, h1, h2, h3⟩ => ⟨e, ⟨h1, h2⟩, h3⟩⟩
theorem downTo_listed {listed : Array Bool} (hc : ∀ j oj, ops[j]? = some oj → listed.getD j false = true → ∀ e ∈ oj.after, Region.binds .any e = true → listed.getD e.on false = true) :
    ∀ (k : Nat) (s : List Nat), (∀ x ∈ s, listed.getD x false = true) → ∀ x ∈ downTo ops k s, listed.getD x false = true
  | 0, s, h => h
  | k + 1, s, h => by
    simp only [downTo]
    refine downTo_listed hc k _ ?_
    split
    · rename_i hk
      intro x hx
      rcases List.mem_append.1 hx with hx | hx
      · exact h x hx
      · have hkl := h k (by simpa using hk)
        cases hok : ops[k]? with
        | none => simp [aftersOf, hok] at hx
        | some ok =>
          obtain ⟨e, he, hb, rfl⟩ := (afters_spec hok).1 hx
          exact hc k ok hok hkl e he hb
    · exact h

/-- The head's state, whatever came up. -/
structure RInv (ops : Array Oper) (F : Nat → Prop) (w : World) (eff : List Nat) (S : Nat → Spec) (Ls : Nat → World → Prop) (a₀ : Act) (n : Nat) (listed : Array Bool) (b : Act) (W : World) : Prop where
  head : HeadInv .any ops n listed
  keeps : Keeps F w W
  lin : ∃ j, j ≤ n ∧ (∀ e, e < n → eff.contains e = true → (listed.getD e false = true ↔ e < j)) ∧ Ls j W
  size : b.tmps.size = a₀.tmps.size
  defers : b.defers = a₀.defers
  done : ∀ j, j < n → listed.getD j false = true → ∀ t, dstOf ops j = some t → ∃ v, b.tmps[t]? = some v ∧ (S j).ok v W
  fresh : ∀ t, (∀ j, j < n → listed.getD j false = true → dstOf ops j ≠ some t) → b.tmps[t]? = a₀.tmps[t]?

structure Fine (ops : Array Oper) (n N : Nat) (eff : List Nat) : Prop where
  sel : ∀ (j : Nat) (o : Oper) cs b, ops[j]? = some o → o.op ≠ .select cs b
  le : n ≤ ops.size
  order : ∀ i, i < n → ∀ j ∈ aftersOf ops i, j < i
  dist : ∀ i, i < n → ∀ d, dstOf ops i = some d → d < N ∧ ∀ j, j < i → dstOf ops j ≠ some d
  looks : ∀ i, i < n → ∀ t ∈ looksOf ops i, ∀ j, j < n → dstOf ops j = some t → (j < i → j ∈ upon ops i) ∧ (i ≤ j → j = i ∨ i ∈ upon ops j)
  effs : ∀ j ∈ eff, j < n ∧ ∀ k ∈ eff, j < k → j ∈ upon ops k
  tail : n = ops.size ∨ (Region.sinkB .any ops n = true ∧ Region.chainB .any ops n = true)
  seq : Region.seqB .any ops (ops.size - n) n (canon n ops.size) = true

theorem relB_fine {n N : Nat} (h : relB ops n N eff = true) : Fine ops n N eff := by
  simp only [relB, Bool.and_eq_true, decide_eq_true_eq] at h
  obtain ⟨⟨⟨⟨⟨⟨⟨h1, h2⟩, h3⟩, h4⟩, h5⟩, h8⟩, h6⟩, h7⟩ := h
  refine ⟨Region.noSelect_spec h1, h2, fun i hi j hj => ?_, fun i hi d hd => ?_, fun i hi t ht j hj hd => ?_, fun j hj => ?_, ?_, h7⟩
  · have := List.all_eq_true.1 (List.all_eq_true.1 h3 i (List.mem_range.2 hi)) j hj
    simpa using this
  · have := List.all_eq_true.1 h4 i (List.mem_range.2 hi)
    rw [hd] at this
    simp only [Bool.and_eq_true, decide_eq_true_eq, List.all_eq_true, List.mem_range, bne_iff_ne] at this
    exact this
  · have := List.all_eq_true.1 (List.all_eq_true.1 (List.all_eq_true.1 h5 i (List.mem_range.2 hi)) t ht) j (List.mem_range.2 hj)
    simp only [Bool.or_eq_true, bne_iff_ne] at this
    rcases this with h | h
    · exact absurd hd h
    · refine ⟨fun hji => ?_, fun hij => ?_⟩
      · rw [if_pos hji] at h; simpa using h
      · rw [if_neg (by omega)] at h; simpa using h
  · have := List.all_eq_true.1 h8 j hj
    simp only [Bool.and_eq_true, decide_eq_true_eq, List.all_eq_true, Bool.or_eq_true, List.contains_iff_mem] at this
    refine ⟨this.1, fun k hk hjk => ?_⟩
    rcases this.2 k hk with h | h
    · omega
    · exact h
  · simp only [Bool.or_eq_true, beq_iff_eq, Bool.and_eq_true] at h6
    exact h6

theorem getD_false_iff {listed : Array Bool} {i : Nat} (hi : i < listed.size) : listed.getD i true = false ↔ listed.getD i false = false := by simp [hi]

theorem lin_same {Ls : Nat → World → Prop} {n : Nat} (hE : ∀ i, i < n → eff.contains i = false → Ls (i + 1) = Ls i) : ∀ (d j : Nat), j + d ≤ n → (∀ i, j ≤ i → i < j + d → eff.contains i = false) → Ls (j + d) = Ls j
  | 0, _, _, _ => rfl
  | d + 1, j, hn, h => by
    rw [← Nat.add_assoc, hE (j + d) (by omega) (h _ (by omega) (by omega))]
    exact lin_same hE d j (by omega) (fun i h1 h2 => h i h1 (by omega))

theorem wpAny_rel {Q' : Exit → Act → World → Prop} {S : Nat → Spec} {Ls : Nat → World → Prop} {a₀ : Act} {n : Nat} (Fi : Fine ops n a₀.tmps.size eff)
    (hR : ∀ i o, i < n → ops[i]? = some o → Runs P ops F w eff S Ls a₀ i o) (hG : ∀ j, j < n → (S j).grows F) (hE : ∀ i, i < n → eff.contains i = false → Ls (i + 1) = Ls i) (hLg : ∀ i, i ≤ n → LGrows (Ls i))
    (hend : ∀ b W, (RInv ops F w eff S Ls a₀ n (canon n ops.size) b W) → wpList P ops Q' (ops.toList.drop n) b W) :
    ∀ (m : Nat) (listed : Array Bool) (b : Act) (W : World), RInv ops F w eff S Ls a₀ n listed b W → cnt listed n = m → wpAny P .any ops Q' (m + (ops.size - n)) listed b W
  | 0, listed, b, W, inv, hm => by
    have hall := cnt_zero n hm
    have e : listed = canon n ops.size := by
      refine Array.ext (by rw [inv.head.size]; simp [canon]; have := Fi.le; omega) fun i h1 h2 => ?_
      rw [inv.head.size] at h1
      by_cases hi : i < n
      · have h3 := hall i hi
        have h4 : listed[i] = true := by simpa [Array.getD, inv.head.size, h1] using h3
        rw [h4]
        simp [canon, List.getElem_append, hi]
      · have h3 := inv.head.tail i (by omega) h1
        have h4 : listed[i] = false := by simpa [Array.getD, inv.head.size, h1] using h3
        rw [h4]
        simp [canon, List.getElem_append, hi]
    subst e
    rw [Nat.zero_add]
    have := wpAny_of_seq (md := .any) (Q' := Q') (ops.toList.drop n) n (canon n ops.size) b W (fun j => by simp [List.getElem?_drop]) (by rw [List.length_drop, Array.length_toList]; exact Fi.seq) (hend b W inv)
    rwa [List.length_drop, Array.length_toList] at this
  | m + 1, listed, b, W, inv, hm => by
    obtain ⟨i, hi, hiu, hbelow⟩ := cnt_pos n (by omega : cnt listed n ≠ 0)
    have his : i < ops.size := by have := Fi.le; omega
    have hius : i < listed.size := by rw [inv.head.size]; exact his
    have hready : i ∈ Region.ready .any ops listed := by
      rw [mem_ready]
      refine ⟨(getD_false_iff hius).2 hiu, ops[i], by simp [his], fun e he hb => hbelow _ (Fi.order i hi _ ((afters_spec (by simp [his])).2 ⟨e, he, hb, rfl⟩))⟩
    rw [show m + 1 + (ops.size - n) = (m + (ops.size - n)) + 1 by omega]
    refine ⟨fun h => (by rw [h] at hready; cases hready), fun j hj => ?_⟩
    obtain ⟨hju, oj, hoj, hall⟩ := mem_ready.1 hj
    have hjs : j < ops.size := (Array.getElem?_eq_some_iff.1 hoj).1
    have hjn : j < n := by
      rcases Nat.lt_or_ge j n with h | h
      · exact h
      · rcases Fi.tail with h2 | ⟨h2, h3⟩
        · omega
        · rcases Nat.lt_or_ge n ops.size with h4 | h4
          · exact absurd hj (tail_waits h2 h3 h4 inv.head _ i rfl hi ((getD_false_iff hius).2 hiu) j h)
          · omega
    have hjus : j < listed.size := by rw [inv.head.size]; exact hjs
    have hjf := (getD_false_iff hjus).1 hju
    have hupon : ∀ x ∈ upon ops j, listed.getD x false = true := downTo_listed inv.head.closed j _ fun x hx => by
      obtain ⟨e, he, hb, rfl⟩ := (afters_spec hoj).1 hx
      exact hall e he hb
    have hlooks : looksOf ops j = oj.looksAt ops := by simp [looksOf, hoj]
    have know : ∀ t ∈ oj.looksAt ops, Knows ops S a₀ j b W t := fun t ht => by
      have hl := Fi.looks j hjn t (by rw [hlooks]; exact ht)
      refine ⟨fun x hx hd => inv.done x (by omega) (hupon x ((hl x (by omega) hd).1 hx)) t hd, fun hno => inv.fresh t fun x hx hxl hd => ?_⟩
      by_cases hxj : x < j
      · exact hno x hxj hd
      · rcases (hl x hx hd).2 (by omega) with rfl | h
        · rw [hxl] at hjf; cases hjf
        · cases hox : ops[x]? with
          | none => simp [dstOf, hox] at hd
          | some ox =>
            have := downTo_listed (ops := ops) inv.head.closed x (aftersOf ops x) (fun y hy => by
              obtain ⟨e, he, hb, rfl⟩ := (afters_spec hox).1 hy
              exact inv.head.closed x ox hox hxl e he hb) j h
            rw [this] at hjf; cases hjf
    have notlisted : ∀ x, x < n → listed.getD x false = true → j ∈ upon ops x → False := fun x hx hxl h => by
      cases hox : ops[x]? with
      | none => have := Fi.le; simp at hox; omega
      | some ox =>
        have := downTo_listed (ops := ops) inv.head.closed x (aftersOf ops x) (fun y hy => by
          obtain ⟨e, he, hb, rfl⟩ := (afters_spec hox).1 hy
          exact inv.head.closed x ox hox hxl e he hb) j h
        rw [this] at hjf; cases hjf
    obtain ⟨p, hp, hpe, hpl⟩ := inv.lin
    have atj : eff.contains j = true → Ls j W := fun he => by
      have hpj : p ≤ j := by
        have := (hpe j hjn he)
        rw [hjf] at this
        simpa using this
      have e1 := lin_same hE (j - p) p (by omega) (fun i h1 h2 => by
        cases hce : eff.contains i with
        | false => rfl
        | true =>
          have hil := hupon i ((Fi.effs i (by simpa using hce)).2 j (by simpa using he) (by omega))
          have := (hpe i (by omega) hce).1 hil
          omega)
      rw [show p + (j - p) = j by omega] at e1
      rw [e1]
      exact hpl
    have hrun := hR j oj hjn hoj b W inv.keeps inv.size know atj
    have hdj : dstOf ops j = oj.dst := by simp [dstOf, hoj]
    have next : ∀ (v : Value) (W' : World), After F (Ls (j + 1)) (eff.contains j) W W' → (S j).ok v W' → wpAny P .any ops Q' (m + (ops.size - n)) (listed.setIfInBounds j true) (b.put oj.dst v) W' := fun v W' haf hok => by
      have hk : Keeps F W W' := by
        cases hce : eff.contains j with
        | false => exact (haf.1 hce).widen
        | true => exact (haf.2 hce).1
      have hlin : ∃ q, q ≤ n ∧ (∀ e, e < n → eff.contains e = true → ((listed.setIfInBounds j true).getD e false = true ↔ e < q)) ∧ Ls q W' := by
        cases hce : eff.contains j with
        | false =>
          refine ⟨p, hp, fun e he hec => ?_, hLg p hp W W' (haf.1 hce) hpl⟩
          have hne : j ≠ e := fun h => by subst h; rw [hce] at hec; cases hec
          rw [getD_set_ne false hne]
          exact hpe e he hec
        | true =>
          refine ⟨j + 1, by omega, fun e he hec => ?_, (haf.2 hce).2⟩
          by_cases hej : j = e
          · subst hej
            simp [hjus]
          · rw [getD_set_ne false hej]
            constructor
            · intro hel
              have h1 := (hpe e he hec).1 hel
              have h2 : ¬ j < p := fun h => by have := (hpe j hjn hce).2 h; rw [hjf] at this; cases this
              omega
            · intro hlt
              exact hupon e ((Fi.effs e (by simpa using hec)).2 j (by simpa using hce) (by omega))
      refine wpAny_rel Fi hR hG hE hLg hend m _ _ _ ⟨inv.head.set hj hjn, inv.keeps.trans hk, hlin, by rw [put_size]; exact inv.size, by rw [put_defers]; exact inv.defers, fun x hx hxl t hd => ?_, fun t ht => ?_⟩ ?_
      · by_cases hxj : x = j
        · subst hxj
          rw [hdj] at hd
          rw [hd]
          exact ⟨v, slot_put (by rw [inv.size]; exact (Fi.dist x hx t (hdj.trans hd)).1), hok⟩
        · rw [getD_set_ne false (Ne.symm hxj)] at hxl
          obtain ⟨u, hu, huo⟩ := inv.done x hx hxl t hd
          refine ⟨u, ?_, Spec.ok_more (hG x hx) hk huo⟩
          rw [slot_put_other (fun e => ?_)]
          · exact hu
          · rcases Nat.lt_or_ge x j with h | h
            · exact (Fi.dist j hjn t (hdj.trans e)).2 x h hd
            · exact (Fi.dist x hx t hd).2 j (by omega) (hdj.trans e)
      · rw [slot_put_other (fun e => ht j hjn (by simp [hjus]) (hdj.trans e))]
        exact inv.fresh t fun x hx hxl hd => ht x hx (getD_set_true hxl) hd
      · have := (cnt_set (listed := listed) (i := j) n hjus hjf).2 hjn
        omega
    unfold wpOp
    simp only [hoj]
    split
    · rename_i hw
      rw [if_pos hw] at hrun
      left
      refine wp_widen (Oper.wp_mono (fun b' W' h => ?_) hrun)
      obtain ⟨v, e, hk, hok⟩ := h
      subst e
      exact next v W' hk hok
    · rename_i hw
      rw [if_neg hw] at hrun
      exact next undef W ⟨fun _ => Keeps.refl _ _, fun he => ⟨Keeps.refl _ _, hrun.2 he⟩⟩ hrun.1

/-- ONE WALK IN THE TEXT'S ORDER. n: how many operations come in any order; behind them the rest, in the text's. F: the blocks that the operations of eff may turn; L₀: what is known of those at first. -/
theorem wp_region_eff {id : Nat} {Q' : Exit → Act → World → Prop} {a : Act} {l : List Oper} (n N : Nat) (eff : List Nat) (F : Nat → Prop) (L₀ : World → Prop) (hLg : LGrows L₀) (hL₀ : L₀ w) (hm : P.follows .mixedOrders = true) (hN : a.tmps.size = N) (hB : relB l.toArray n N eff = true)
    (h : wpRel P l.toArray F w eff (fun done L a' => ∀ x : Lat F w, L x.w → bindAll x.w done a' (fun a'' => wpList P l.toArray Q' (l.drop n) a'' x.w)) (l.take n) 0 [] L₀ a) : (Code.region id l.toArray true).wp P Q' a w := by
  subst hN
  have Fi := relB_fine hB
  have hln : (l.take n).length = n := by have := Fi.le; simp at this; simp; omega
  obtain ⟨S, Ls, done, a', _, hL, hR, hE, hG, T, hQ⟩ := chain (a₀ := a) (n := n) Fi.sel Fi.dist (l.take n) 0 (fun _ => .ex undef) (fun _ => L₀) [] a (fun j hj => by
      rw [hln] at hj
      simp [List.getElem?_take, hj]) (by omega) ⟨rfl, rfl, fun j v t hj => absurd hj (by omega), fun j g t hj => absurd hj (by omega), fun _ _ => rfl, (fun p hp => (List.not_mem_nil hp).elim), fun j hj => absurd hj (by omega)⟩ hLg h
  rw [hln, Nat.zero_add] at *
  refine wp_region_any hm ?_
  have inv0 : RInv l.toArray F w eff S Ls a n (Array.replicate l.toArray.size false) a { w with drawn := w.drawn + 1 } :=
    ⟨⟨by simp, fun j oj _ hl => (by rw [getD_replicate_false] at hl; cases hl), fun t _ ht => getD_in (by simpa using ht) (getD_replicate_false _ _)⟩, (Keeps.refl _ w).drew,
      ⟨0, Nat.zero_le _, fun e _ _ => (by rw [getD_replicate_false]; simp), by rw [hL 0 (Nat.le_refl _)]; exact hLg w _ (Keeps.refl _ w).drew hL₀⟩, rfl, rfl,
      fun j _ hl => (by rw [getD_replicate_false] at hl; cases hl), fun _ _ => rfl⟩
  have hc : cnt (Array.replicate l.toArray.size false) n = n := by
    have : ∀ k, cnt (Array.replicate l.toArray.size false) k = k := fun k => by
      induction k with
      | zero => rfl
      | succ k ih => simp only [cnt, ih, getD_replicate_false]; simp
    exact this n
  have := wpAny_rel (Q' := Q') Fi (fun i o hi ho => hR i o (Nat.zero_le _) hi ho) T.grows (fun i hi => hE i (Nat.zero_le _) hi) (fun i hi => hG i (Nat.zero_le _) hi) (fun b W inv => ?_) n _ _ _ inv0 hc
  · rwa [show n + (l.toArray.size - n) = l.toArray.size by have := Fi.le; omega] at this
  · have know : ∀ t, Knows l.toArray S a n b W t := fun t =>
      ⟨fun j hj hd => inv.done j hj (by simp [canon, List.getElem?_append, hj]) t hd, fun hno => inv.fresh t fun j hj _ hd => hno j hj hd⟩
    have hLn : Ls n W := by
      obtain ⟨p, hp, hpe, hpl⟩ := inv.lin
      have e1 := lin_same (fun i hi => hE i (Nat.zero_le _) hi) (n - p) p (by omega) (fun i h1 h2 => by
        cases hce : eff.contains i with
        | false => rfl
        | true =>
          have hin : i < n := by omega
          have hil : (canon n l.toArray.size).getD i false = true := by simp [canon, List.getElem?_append, hin]
          have := (hpe i (by omega) hce).1 hil
          omega)
      rw [show p + (n - p) = n by omega] at e1
      rw [e1]
      exact hpl
    obtain ⟨a₂, h1, h2, h0, h3, h4, h5⟩ := bindAll_inst T know inv.size done a' (fun p hp => hp) T.size (hQ ⟨W, inv.keeps⟩ hLn)
    have e : a₂ = b := by
      have et : a₂.tmps = b.tmps := by
        refine Array.ext_getElem? fun t => ?_
        by_cases ht : ∃ p ∈ done, p.1 = t
        · obtain ⟨p, hp, rfl⟩ := ht
          exact h4 p hp
        · have hc : ∀ p ∈ done, p.1 ≠ t := fun p hp e => ht ⟨p, hp, e⟩
          rw [h5 t hc]
          exact T.same hc (know t)
      have ed : a₂.defers = b.defers := by rw [h0, T.defers, inv.defers]
      cases a₂; cases b
      simp only at et ed
      subst et ed
      rfl
    rw [← e]
    simpa using h1
/-- .. where nothing old is turned. -/
theorem wp_region_rel {id : Nat} {Q' : Exit → Act → World → Prop} {a : Act} {l : List Oper} (n N : Nat) (hm : P.follows .mixedOrders = true) (hN : a.tmps.size = N) (hB : relB l.toArray n N [] = true)
    (h : wpRel P l.toArray Nope w [] (fun done L a' => ∀ x : Lat Nope w, L x.w → bindAll x.w done a' (fun a'' => wpList P l.toArray Q' (l.drop n) a'' x.w)) (l.take n) 0 [] (fun _ => True) a) : (Code.region id l.toArray true).wp P Q' a w :=
  wp_region_eff n N [] Nope (fun _ => True) (fun _ _ _ _ => trivial) trivial hm hN hB h

/-- What follows behind a variable. -/
theorem wp_hand_eff {o : Oper} {a : Act} {W : World} {g : Rel} {L : World → Prop} (h : ∀ K : Act → World → Prop, (∀ v W' a₂, a.put o.dst v = a₂ → g v W' → Keeps F W W' → L W' → K a₂ W') → o.wp P a W K (fun _ _ _ => False)) :
    o.wp P a W (fun a'' W' => ∃ v, a'' = a.put o.dst v ∧ (Keeps F W W' ∧ L W') ∧ g v W') (fun _ _ _ => False) :=
  h _ fun v W' a₂ e hg hk hl => ⟨v, e.symm, ⟨hk, hl⟩, hg⟩
theorem wp_hand {o : Oper} {a : Act} {W : World} {g : Rel} (h : ∀ K : Act → World → Prop, (∀ v W' a₂, a.put o.dst v = a₂ → g v W' → Keeps Nope W W' → K a₂ W') → o.wp P a W K (fun _ _ _ => False)) :
    o.wp P a W (fun a'' W' => ∃ v, a'' = a.put o.dst v ∧ Keeps Nope W W' ∧ g v W') (fun _ _ _ => False) :=
  h _ fun v W' a₂ e hg hk => ⟨v, e.symm, hk, hg⟩
end
end Go.Proofs.YthddlkhfkncgpaaGreat
set_option linter.unusedVariables false
set_option linter.unusedSimpArgs false
namespace Go.Proofs.YthddlkhfkncgpaaGreat
open Go.RowKit

theorem block_of_add (a : Addr) (n : Nat) : (a.add n).block = a.block := by unfold Addr.add; split <;> rfl
theorem add_of_add (a : Addr) (i j : Nat) : (a.add i).add j = a.add (i + j) := by
  unfold Addr.add
  by_cases hi : i = 0 <;> by_cases hj : j = 0 <;> simp [hi, hj, Nat.add_assoc]

def Reads (w : World) (B size : Nat) (A : Option Addr) (n : Nat) (xs : List Value) : Prop :=
  xs.length = n * size ∧ (0 < n → ∃ ad, A = some ad ∧ ad.block < B ∧ ∀ j u, xs[j]? = some u → w.cell? (ad.add j) = some u)

section
variable {w w' : World} {B B' size n : Nat} {A : Option Addr} {xs : List Value}
theorem Reads.none_ : Reads w B size A 0 [] := ⟨by simp, fun h => absurd h (by omega)⟩
theorem Reads.at_ {k : Nat} (h : Reads w B 1 A n xs) (hk : k < n) : ∃ ad u, A = some ad ∧ ad.block < B ∧ xs[k]? = some u ∧ w.cell? (ad.add k) = some u := by
  obtain ⟨ad, e, hb, hc⟩ := h.2 (by omega)
  have hl : k < xs.length := by have := h.1; omega
  exact ⟨ad, xs[k], e, hb, List.getElem?_eq_getElem hl, hc k _ (List.getElem?_eq_getElem hl)⟩
theorem Reads.keep (h : Reads w B size A n xs) (hk : ∀ p : Addr, p.block < B → w'.cell? p = w.cell? p) : Reads w' B size A n xs :=
  ⟨h.1, fun hn => by
    obtain ⟨ad, e, hb, hc⟩ := h.2 hn
    exact ⟨ad, e, hb, fun j u hu => (hk _ (by rw [block_of_add]; exact hb)).trans (hc j u hu)⟩⟩
theorem Reads.more (h : Reads w B size A n xs) (hB : B ≤ B') : Reads w B' size A n xs :=
  ⟨h.1, fun hn => by
    obtain ⟨ad, e, hb, hc⟩ := h.2 hn
    exact ⟨ad, e, by omega, hc⟩⟩
theorem Reads.below (h : Reads w B size A n xs) (hb : Below B w w') : Reads w' B size A n xs := h.keep fun _ hp => hb.cell hp
theorem Reads.drew (h : Reads w B size A n xs) : Reads w.drew B size A n xs := h
theorem Reads.drewN (h : Reads w B size A n xs) (k : Nat) : Reads (w.drewN k) B size A n xs := h
theorem Reads.alloc (h : Reads w B size A n xs) (hB : B ≤ w.heap.size) (o : Obj) : Reads (w.alloc o) B size A n xs := h.keep fun p hp => World.cell?_alloc_lt w o p (by omega)
theorem Reads.setCell (h : Reads w B size A n xs) {p : Addr} (hB : B ≤ p.block) (u : Value) : Reads (w.setCell p u) B size A n xs :=
  h.keep fun q hq => World.cell?_setCell_other w p q u (fun e => by subst e; omega)
theorem Reads.grown (h : Reads w B size A n xs) {row : Option Nat} (hg : w.grownBy w' row) (hB : B ≤ w.heap.size) (hr : ∀ g, row = some g → B ≤ g) : Reads w' B size A n xs :=
  h.keep fun p hp => World.cell?_of_block (hg.block p.block (by omega) (fun e => by have := hr _ e.symm; omega))
theorem Reads.cut (h : Reads w B size A n xs) {k cap : Nat} (hk : k ≤ n) (hc : n ≤ cap) :
    Reads w B size (if cap = k then A else A.map (·.add (k * size))) (n - k) (xs.drop (k * size)) := by
  refine ⟨by rw [List.length_drop, h.1, Nat.sub_mul], fun hn => ?_⟩
  obtain ⟨ad, rfl, hb, hcell⟩ := h.2 (by omega)
  rw [if_neg (by omega)]
  refine ⟨ad.add (k * size), rfl, by rw [block_of_add]; exact hb, fun j u hu => ?_⟩
  rw [add_of_add]
  exact hcell _ u (by rw [← hu, List.getElem?_drop])
theorem Reads.of_own {base : Nat} {e : TypeId} {c : Nat} (h : w.ownsRow base e size (.slice A n c) n xs) : Reads w w.heap.size size A n xs := by
  refine ⟨h.1, fun hn => ?_⟩
  obtain ⟨g, cap, hv, _, hlt⟩ := h.form hn
  have hA : A = some ⟨g, 0, none⟩ := by injection hv
  subst hA
  exact ⟨_, rfl, hlt, h.cells (g := g) rfl⟩
end

/-- A slice's cells: where there are any, they lie in a row. -/
def Lies (w : World) (A : Option Addr) (cs : List Value) : Prop := cs ≠ [] → ∃ b o, A = some ⟨b, o, none⟩ ∧ w.rangeAt b o cs
theorem Lies.nil (w : World) (A : Option Addr) : Lies w A [] := fun h => absurd rfl h
theorem Lies.keeps {w w' : World} {A : Option Addr} {cs : List Value} (h : Lies w A cs) (hk : Keeps Nope w w') : Lies w' A cs := by
  intro hne
  obtain ⟨b, o, e, hr⟩ := h hne
  refine ⟨b, o, e, fun j v hj => ?_⟩
  have := hr j v hj
  rw [hk.cell (p := ⟨b, o + j, none⟩) (World.block_lt_of_cell? w _ this) (fun f => f)]
  exact this
theorem Lies.reads {w : World} {A : Option Addr} {cs : List Value} {n size : Nat} (h : Lies w A cs) (hl : cs.length = n * size) (hs : 0 < size) : Reads w w.heap.size size A n cs := by
  refine ⟨hl, fun hn => ?_⟩
  have hc0 : 0 < cs.length := by rw [hl]; exact Nat.mul_pos hn hs
  obtain ⟨b, o, rfl, hr⟩ := h (by rintro rfl; simp at hc0)
  refine ⟨_, rfl, World.block_lt_of_cell? w ⟨b, o + 0, none⟩ (hr 0 _ (List.getElem?_eq_getElem hc0)), fun j u hu => ?_⟩
  rw [Addr.add_mid]
  exact hr j u hu
theorem Lies.of_own {w : World} {base : Nat} {e : TypeId} {size n : Nat} {v : Value} {cs : List Value} (h : w.ownsRow base e size v n cs) : ∃ A c, v = .slice A n c ∧ Lies w A cs ∧ n ≤ c := by
  rcases h.2 with ⟨rfl, rfl⟩ | ⟨g, cap, cur, rfl, _, hh, hn, _, _, ht⟩
  · refine ⟨none, 0, rfl, fun hne => absurd ?_ hne, Nat.le_refl _⟩
    exact List.eq_nil_of_length_eq_zero (by simpa using h.1)
  · refine ⟨_, cap, rfl, fun _ => ⟨g, 0, rfl, fun j u hu => ?_⟩, hn⟩
    rw [cell_of_row w g (0 + j) cur e (0, 0) hh]
    rw [← ht] at hu
    rw [Nat.zero_add]
    have hj : j < n * size := by
      have := (List.getElem?_eq_some_iff.1 hu).1
      simp at this
      omega
    rw [List.getElem?_take_of_lt hj] at hu
    simpa using hu
theorem own_keeps {F : Nat → Prop} {w w' : World} {base : Nat} {e : TypeId} {size n : Nat} {v : Value} {cs : List Value} (h : w.ownsRow base e size v n cs) (hk : Keeps F w w') (hF : ∀ g, v.ownBlock = some g → ¬ F g) : w'.ownsRow base e size v n cs := by
  refine ⟨h.1, ?_⟩
  rcases h.2 with h2 | ⟨g, cap, cur, rfl, hg, hh, r⟩
  · exact .inl h2
  · exact .inr ⟨g, cap, cur, rfl, hg, (hk.block g (heap_lt hh) (hF g rfl)).trans hh, r⟩
theorem own_more {w w' : World} {base : Nat} {e : TypeId} {size n : Nat} {v : Value} {cs : List Value} (h : w.ownsRow base e size v n cs) (hk : Keeps Nope w w') : w'.ownsRow base e size v n cs := own_keeps h hk (fun _ _ f => f)
theorem own_lower {w : World} {base base' : Nat} {e : TypeId} {size n : Nat} {v : Value} {cs : List Value} (h : w.ownsRow base e size v n cs) (hb : base' ≤ base) : w.ownsRow base' e size v n cs := by
  refine ⟨h.1, ?_⟩
  rcases h.2 with h2 | ⟨g, cap, cur, rfl, hg, r⟩
  · exact .inl h2
  · exact .inr ⟨g, cap, cur, rfl, Nat.le_trans hb hg, r⟩
theorem own_from {w : World} {base : Nat} {e : TypeId} {size n : Nat} {v : Value} {cs : List Value} (h : w.ownsRow base e size v n cs) (g : Nat) (hg : v.ownBlock = some g) : base ≤ g := by
  rcases h.2 with ⟨rfl, _⟩ | ⟨g', cap, cur, rfl, hb, _⟩
  · simp [Value.ownBlock] at hg
  · have : g' = g := by simpa [Value.ownBlock] using hg
    omega
theorem own_lt {w : World} {base : Nat} {e : TypeId} {size n : Nat} {v : Value} {cs : List Value} (h : w.ownsRow base e size v n cs) (g : Nat) (hg : v.ownBlock = some g) : g < w.heap.size := by
  rcases h.2 with ⟨rfl, _⟩ | ⟨g', cap, cur, rfl, hb, hh, _⟩
  · simp [Value.ownBlock] at hg
  · have : g' = g := by simpa [Value.ownBlock] using hg
    exact this ▸ heap_lt hh
theorem own_nil (w : World) (base : Nat) (e : TypeId) (size : Nat) : w.ownsRow base e size (.slice none 0 0) 0 [] := ⟨by simp, .inl ⟨rfl, rfl⟩⟩
theorem Keeps.grown {F : Nat → Prop} {a w w' : World} {row : Option Nat} (h : Keeps F a w) (hg : w.grownBy w' row) (hr : ∀ g, row = some g → a.heap.size ≤ g ∨ F g) : Keeps F a w' :=
  ⟨hg.os.trans h.os, hg.tape.trans h.tape, hg.output.trans h.output, Nat.le_trans h.size hg.size, fun k hk hF => by
    have hne : some k ≠ row := fun e => by
      rcases hr k e.symm with h' | h'
      · omega
      · exact hF h'
    rw [hg.block k (Nat.lt_of_lt_of_le hk h.size) hne]
    exact h.block k hk hF⟩

/-- A call that gives back a new row, and changes nothing that was there. -/
def GivesRow (E : TypeId) (size n : Nat) (cs : List Value) (w : World) (e : Ending) (w' : World) : Prop := ∃ v, e = .returned v ∧ w'.ownsRow w.heap.size E size v n cs ∧ Keeps Nope w w'

section
variable {P : Program} (w : World)

theorem run_append_of_nil (base : Nat) (t ty e : TypeId) (i : TypeInfo) (size : Nat) (ht : P.underlying t = some (.slice e)) (hi : P.info? e = some i)
    (v : Value) (n : Nat) (xs : List Value) (hown : w.ownsRow base e size v n xs) (c : Nat) : (Builtin.append_ #[t, t] ty #[v, .slice none 0 c]).run P w = .ok v w := by
  rcases hown.2 with ⟨rfl, rfl⟩ | ⟨g, cap, cur, rfl, _, _, hnc, _⟩
  · simp [Builtin.append_, run_underlying ht, sizeOf, typeInfo, hi, Builtin.lenOf, Builtin.firstCells]
  · simp [Builtin.append_, run_underlying ht, sizeOf, typeInfo, hi, Builtin.lenOf, Builtin.firstCells, hnc, storeCells]

theorem run_append_any (base : Nat) (t ty e : TypeId) (i : TypeInfo) (z : Value) (size bytes : Nat) (ht : P.underlying t = some (.slice e)) (hi : P.info? e = some i) (hz : i.zero = some z)
    (hsize : i.size = size) (hby : i.bytes = bytes) (hzs : z.cells.size = size) (hsz : 0 < size)
    (v : Value) (n : Nat) (xs : List Value) (hown : w.ownsRow base e size v n xs)
    (B : Nat) (A : Option Addr) (m c : Nat) (news : List Value) (hr : Reads w B size A m news) (h1 : ∀ u ∈ news, u.oneCell' = true)
    (h63 : n + m ≤ maxLen) (hbytes : (n + m) * bytes ≤ 140737488355328) (hbase : base ≤ w.heap.size) :
    ∃ v' w', (Builtin.append_ #[t, t] ty #[v, .slice A m c]).run P w = .ok v' w' ∧ w'.ownsRow base e size v' (n + m) (xs ++ news) ∧ w.grownBy w' v.ownBlock ∧
      (v'.ownBlock = v.ownBlock ∨ v'.ownBlock = some w.heap.size) := by
  rcases A with _ | ad
  · have hm : m = 0 := by
      rcases Nat.eq_zero_or_pos m with h0 | h0
      · exact h0
      · obtain ⟨ad, h, _⟩ := hr.2 h0
        cases h
    subst hm
    have hn : news = [] := List.eq_nil_of_length_eq_zero (by simpa using hr.1)
    subst hn
    exact ⟨v, w, run_append_of_nil w base t ty e i size ht hi v n xs hown c, by simpa using hown, World.grownBy.refl w _, .inl rfl⟩
  · have hcells : ∀ j u, news[j]? = some u → w.cell? (ad.add j) = some u := by
      intro j u hu
      rcases Nat.eq_zero_or_pos m with h0 | h0
      · subst h0
        have hn : news = [] := List.eq_nil_of_length_eq_zero (by simpa using hr.1)
        subst hn
        simp at hu
      · obtain ⟨ad', h, _, hc⟩ := hr.2 h0
        injection h with h
        subst h
        exact hc j u hu
    obtain ⟨v', w', hrun, h2, h3, _, h5⟩ := run_append_own_at (P := P) w base t ty e i z size bytes ht hi hz hsize hby hzs hsz v n xs hown ad m c news hr.1 hcells h1 h63 hbytes hbase
    exact ⟨v', w', hrun, h2, h3, h5⟩

theorem wp_append_any {o : Oper} {a : Act} {K : Act → World → Prop} {Q : Exit → Act → World → Prop} (s x : Operand) (t : TypeId)
    (ho : o.op = .call { callee := .builtin .append, args := #[s, x], argTypes := #[t, t] })
    (base : Nat) (e : TypeId) (i : TypeInfo) (z : Value) (size bytes : Nat) (ht : P.underlying t = some (.slice e)) (hi : P.info? e = some i) (hz : i.zero = some z)
    (hsize : i.size = size) (hby : i.bytes = bytes) (hzs : z.cells.size = size) (hsz : 0 < size)
    (v : Value) (n : Nat) (xs : List Value) (hs : a.eval s = v) (hown : w.ownsRow base e size v n xs)
    (B : Nat) (A : Option Addr) (m c : Nat) (news : List Value) (hx : a.eval x = .slice A m c) (hr : Reads w B size A m news) (h1 : ∀ u ∈ news, u.oneCell' = true)
    (h63 : n + m ≤ maxLen) (hbytes : (n + m) * bytes ≤ 140737488355328) (hbase : base ≤ w.heap.size)
    (h : ∀ v' w', w'.ownsRow base e size v' (n + m) (xs ++ news) → w.grownBy w' v.ownBlock → (v'.ownBlock = v.ownBlock ∨ v'.ownBlock = some w.heap.size) → K (a.put o.dst v') w') : o.wp P a w K Q := by
  obtain ⟨v', w', hrun, h2, h3, h4⟩ := run_append_any (P := P) w base t o.type e i z size bytes ht hi hz hsize hby hzs hsz v n xs hown B A m c news hr h1 h63 hbytes hbase
  unfold Oper.wp execOp
  simp only [ho, resolve, invoke, builtin, Sem.run_bind, Sem.run_pure, Result.andThen_ok, List.map_toArray, List.map_cons, List.map_nil, hs, hx, hrun]
  exact h v' w' h2 h3 h4

theorem wpList_append_any {ops : Array Oper} {rest : List Oper} {o : Oper} {a : Act} {Q : Exit → Act → World → Prop} (hgd : o.guard = none) (s x : Operand) (t : TypeId)
    (ho : o.op = .call { callee := .builtin .append, args := #[s, x], argTypes := #[t, t] })
    (base : Nat) (e : TypeId) (i : TypeInfo) (z : Value) (size bytes : Nat) (ht : P.underlying t = some (.slice e)) (hi : P.info? e = some i) (hz : i.zero = some z)
    (hsize : i.size = size) (hby : i.bytes = bytes) (hzs : z.cells.size = size) (hsz : 0 < size)
    (v : Value) (n : Nat) (xs : List Value) (hs : a.eval s = v) (hown : w.ownsRow base e size v n xs)
    (B : Nat) (A : Option Addr) (m c : Nat) (news : List Value) (hx : a.eval x = .slice A m c) (hr : Reads w B size A m news) (h1 : ∀ u ∈ news, u.oneCell' = true)
    (h63 : n + m ≤ maxLen) (hbytes : (n + m) * bytes ≤ 140737488355328) (hbase : base ≤ w.heap.size)
    (h : ∀ v' w', w'.ownsRow base e size v' (n + m) (xs ++ news) → w.grownBy w' v.ownBlock → (v'.ownBlock = v.ownBlock ∨ v'.ownBlock = some w.heap.size) → wpList P ops Q rest (a.put o.dst v') w') : wpList P ops Q (o :: rest) a w :=
  wpList_plain hgd fun _ hK => wp_append_any w s x t ho base e i z size bytes ht hi hz hsize hby hzs hsz v n xs hs hown B A m c news hx hr h1 h63 hbytes hbase fun v' w' h2 h3 h4 => hK _ _ (h v' w' h2 h3 h4)

theorem step_append_any {ops : Array Oper} {o : Oper} {a : Act} {K : Act → World → Prop} {Q : Exit → Act → World → Prop} {E : Prop} (hgd : o.guard = none) (s x : Operand) (t : TypeId)
    (ho : o.op = .call { callee := .builtin .append, args := #[s, x], argTypes := #[t, t] })
    (base : Nat) (e : TypeId) (i : TypeInfo) (z : Value) (size bytes : Nat) (ht : P.underlying t = some (.slice e)) (hi : P.info? e = some i) (hz : i.zero = some z)
    (hsize : i.size = size) (hby : i.bytes = bytes) (hzs : z.cells.size = size) (hsz : 0 < size)
    (v : Value) (n : Nat) (xs : List Value) (hs : a.eval s = v) (hown : w.ownsRow base e size v n xs)
    (B : Nat) (A : Option Addr) (m c : Nat) (news : List Value) (hx : a.eval x = .slice A m c) (hr : Reads w B size A m news) (h1 : ∀ u ∈ news, u.oneCell' = true)
    (h63 : n + m ≤ maxLen) (hbytes : (n + m) * bytes ≤ 140737488355328) (hbase : base ≤ w.heap.size)
    (h : ∀ v' w', w'.ownsRow base e size v' (n + m) (xs ++ news) → w.grownBy w' v.ownBlock → (v'.ownBlock = v.ownBlock ∨ v'.ownBlock = some w.heap.size) → K (a.put o.dst v') w') :
    if Region.wanted o (yielded ops a.tmps) = true then Oper.wp P o a w K Q else E := by
  have hw : Region.wanted o (yielded ops a.tmps) = true := by simp [Region.wanted, hgd]
  rw [if_pos hw]
  exact wp_append_any w s x t ho base e i z size bytes ht hi hz hsize hby hzs hsz v n xs hs hown B A m c news hx hr h1 h63 hbytes hbase h
end

/-- append onto a row of the call's own, in a plain region. -/
theorem wpList_app {P : Program} {ops : Array Oper} {rest : List Oper} {o : Oper} {a : Act} {Q : Exit → Act → World → Prop} {w : World} (hgd : o.guard = none) (s x : Operand) (t e : TypeId) (z : Value) (size bytes : Nat)
    (ho : o.op = .call { callee := .builtin .append, args := #[s, x], argTypes := #[t, t] }) (ht : P.underlying t = some (.slice e)) (hinfo : (P.info? e).map (fun i => (i.zero, i.size, i.bytes)) = some (some z, size, bytes)) (hzs : z.cells.size = size) (hsz : 0 < size)
    (F : Nat → Prop) (w0 : World) (v : Value) (n : Nat) (xs : List Value) (A : Option Addr) (m c : Nat) (news : List Value) (hs : a.eval s = v) (hx : a.eval x = .slice A m c)
    (hown : w.ownsRow w0.heap.size e size v n xs) (hnews : Lies w A news) (hl : news.length = m * size) (h1 : ∀ u ∈ news, u.oneCell' = true) (h63 : n + m ≤ 1000000000000) (hbytes : (n + m) * bytes ≤ 140737488355328) (hK : Keeps F w0 w)
    (h : ∀ v' w', w'.ownsRow w0.heap.size e size v' (n + m) (xs ++ news) → Keeps F w0 w' → w.grownBy w' v.ownBlock → (v'.ownBlock = v.ownBlock ∨ v'.ownBlock = some w.heap.size) → wpList P ops Q rest (a.put o.dst v') w') : wpList P ops Q (o :: rest) a w := by
  obtain ⟨i0, hi, hzz⟩ := Option.map_eq_some_iff.1 hinfo
  simp only [Prod.mk.injEq] at hzz
  obtain ⟨hz0, hz1, hz2⟩ := hzz
  exact wpList_append_any w hgd s x t ho w0.heap.size e i0 z size bytes ht hi hz0 hz1 hz2 hzs hsz v n xs hs hown w.heap.size A m c news hx (hnews.reads hl hsz) h1 (by simp only [maxLen]; omega) hbytes hK.size
    fun v' w' h2 h3 h4 => h v' w' h2 (hK.grown h3 (fun g hg => .inl (own_from hown g hg))) h3 h4
theorem zeroCells_length (z : Array Value) (n : Nat) : (Builtin.zeroCells z n).size = n * z.size := by simp [Builtin.zeroCells]
theorem zeroCells_one (z : Array Value) (n : Nat) (h : ∀ v ∈ z, v.oneCell' = true) (h0 : n * z.size ≠ 0 → 0 < z.size) : ∀ v ∈ (Builtin.zeroCells z n).toList, v.oneCell' = true := by
  intro v hv
  simp only [Builtin.zeroCells, Array.toList_map, List.mem_map, Array.toList_range, List.mem_range] at hv
  obtain ⟨i, hi, rfl⟩ := hv
  have hz : 0 < z.size := h0 (by omega)
  have hlt : i % z.size < z.size := Nat.mod_lt _ hz
  rw [getElem!_pos z (i % z.size) hlt]
  exact h _ (Array.getElem_mem hlt)
/-- clear of a row's end: what is ahead of it stays. -/
theorem run_clear_end {P : Program} (w : World) (base : Nat) (t e ty : TypeId) (z : Value) (size : Nat) (ht : P.underlying t = some (.slice e)) (hv : ∀ w, (zeroValue e).run P w = .ok z w) (hzs : z.cells.size = size) (hsz : 0 < size) (h1 : ∀ v ∈ z.cells, v.oneCell' = true)
    (g n cap i c : Nat) (cs : List Value) (hown : w.ownsRow base e size (.slice (some ⟨g, 0, none⟩) n cap) n cs) (hi : i < n) :
    ∃ w', (Builtin.clear_ #[t] ty #[.slice (some ⟨g, i * size, none⟩) (n - i) c]).run P w = .ok (.tuple #[]) w' ∧ w'.ownsRow base e size (.slice (some ⟨g, 0, none⟩) i cap) i (cs.take (i * size)) ∧ Keeps (Only g) w w' := by
  rcases hown.2 with ⟨h0, _⟩ | ⟨g', cap', cur, h0, hg, hh, hn, hm, hs, htk⟩
  · cases h0
  · injection h0 with ha hb hc
    injection ha with ha
    injection ha with ha _ _
    subst ha; subst hc
    obtain ⟨m, hm'⟩ : ∃ m, n - i = m + 1 := ⟨n - i - 1, by omega⟩
    have hle : i * size + (n - i) * size = n * size := by rw [← Nat.add_mul]; congr 1; omega
    have hle2 : n * size ≤ cap * size := Nat.mul_le_mul_right _ hn
    have hst := run_storeCells_at (P := P) g (i * size) e (Builtin.zeroCells z.cells (n - i)).toList 0 cur w hh (by rw [Array.length_toList, zeroCells_length, hzs, hs]; omega) (zeroCells_one _ _ h1 (fun _ => by rw [hzs]; exact hsz))
    generalize hX : (cur.toList.take (i * size + 0) ++ (Builtin.zeroCells z.cells (n - i)).toList ++ cur.toList.drop (i * size + 0 + (Builtin.zeroCells z.cells (n - i)).toList.length)).toArray = X at hst
    have hlen : (Builtin.zeroCells z.cells (n - i)).toList.length = (n - i) * size := by rw [Array.length_toList, zeroCells_length, hzs]
    have hcl : cur.toList.length = cap * size := by rw [Array.length_toList, hs]
    refine ⟨w.setRow g X, ?_, ⟨?_, .inr ⟨g, cap, X, rfl, hg, setRow_heap w g cur _ e _ hh, by omega, hm, ?_, ?_⟩⟩, (Keeps.refl (Only g) w).setRow (.inr (show Only g g from rfl)) _⟩
    · rw [hm'] at hst ⊢
      simp [Builtin.clear_, run_underlying ht, hv, hst]
    · rw [List.length_take, hown.1, Nat.min_eq_left (by omega)]
    · subst hX
      simp only [List.size_toArray, List.length_append, List.length_take, List.length_drop, hlen, hcl]
      omega
    · subst hX
      rw [← htk, List.take_take, Nat.min_eq_left (by omega)]
      simp only [Nat.add_zero, List.append_assoc]
      rw [List.take_append_of_le_length (by rw [List.length_take, hcl]; omega), List.take_take, Nat.min_self]
end Go.Proofs.YthddlkhfkncgpaaGreat
set_option linter.unusedVariables false
set_option linter.unusedSimpArgs false
namespace Go.Proofs.YthddlkhfkncgpaaGreat
open Go.RowKit

/-- Data in memory that does not change any more. -/
inductive D where
  | int (k : IntKind) (n : Int)
  | bool (b : Bool)
  | str (s : ByteArray)
  | nil
  | ls (sz n : Nat) (rows : List (List D))
  deriving Inhabited
/-- One cell: data, or what leads to an object. -/
inductive C where
  | t (t : D)
  | nilp
  | nilm
  | nilf
  | pa (id n : Nat)
  | ptr (id off : Nat)
  | sl (id off n : Nat)
  | el (id i k : Nat)
  | im (cs : List D)
  | mp (id : Nat)
  | fn (f : FuncId) (caps : List C)
  | bm (f : FuncId) (id off : Nat)
  deriving Inhabited
/-- A value: one cell, or a struct's. -/
inductive E where
  | c (c : C)
  | agg (cs : List C)
  deriving Inhabited
/-- What a temporary holds. -/
inductive V where
  | e (e : E)
  | tup (es : List E)
  | u
  deriving Inhabited
structure Loc where
  blk : Nat
  nil : Bool := false
  sz : Nat := 0
  tot : Nat := 0
structure Gh where
  I : Nat → Prop
  μ : Nat → Option Loc
  fp : Nat → Nat → Prop
/-- A map from numbers to data: its clock; entries by their stamps, keys, cells. -/
structure Mp where
  ck : Nat
  es : List (Nat × Int × List D)
/-- A value of a map: data, or a list in memory of the map's own. -/
inductive MV where
  | o (ds : List D)
  | i (sz : Nat) (rows : List (List D))
/-- A map from pairs of numbers: its clock; entries by their stamps, keys, values. -/
structure Cm where
  ck : Nat
  es : List (Nat × (Int × Int) × MV)
inductive Ob where
  | dead
  | box (cs : List C)
  | arr (sz : Nat) (rows : List (List D))
  | mp (ag : Bool) (m : Mp)
  | cm (ag : Bool) (m : Cm) (out : Option (Nat × Nat × Nat))
  | it (mid since : Nat) (seen : List Nat) (last : Nat)
  | opq (R : World → (Nat → Prop) → Nat → Prop)
def Ob.live : Ob → Bool
  | .dead => false
  | _ => true

inductive Rd (w : World) (I : Nat → Prop) : Value → D → Prop
  | int (k : IntKind) (n : Int) : Rd w I (.int k n) (.int k n)
  | bool (b : Bool) : Rd w I (.bool b) (.bool b)
  | str (s : ByteArray) : Rd w I (.string s) (.str s)
  | nil (A : Option Addr) : Rd w I (.slice A 0 0) .nil
  | lsn (A : Option Addr) (sz : Nat) : Rd w I (.slice A 0 0) (.ls sz 0 [])
  | ls (b o sz n c : Nat) (rows : List (List D)) (us : Nat → Nat → Value) (hI : I b) (hn : n ≤ rows.length) (hc : rows.length ≤ c) (hm : c ≤ maxLen) (hsz : 0 < sz)
      (hs : ∀ (i : Nat) r, rows[i]? = some r → r.length = sz)
      (hcell : ∀ (i : Nat) r (j : Nat) t, rows[i]? = some r → r[j]? = some t → w.cell? ⟨b, o + (i * sz + j), none⟩ = some (us i j))
      (hr : ∀ (i : Nat) r (j : Nat) t, rows[i]? = some r → r[j]? = some t → Rd w I (us i j) t) : Rd w I (.slice (some ⟨b, o, none⟩) n c) (.ls sz n rows)

inductive RC (w : World) (g : Gh) : Value → C → Prop
  | t {v : Value} {t : D} (h : Rd w g.I v t) : RC w g v (.t t)
  | nilp : RC w g (.pointer none) .nilp
  | nilm : RC w g (.map none) .nilm
  | nilf : RC w g .nilFunc .nilf
  | pa {id : Nat} {l : Loc} (n : Nat) (h : g.μ id = some l) (hn : l.nil = false) (ht : l.tot = n) : RC w g (.pointer (some ⟨l.blk, 0, none⟩)) (.pa id n)
  | ptr {id : Nat} {l : Loc} (off : Nat) (h : g.μ id = some l) (hn : l.nil = false) : RC w g (.pointer (some ⟨l.blk, off, none⟩)) (.ptr id off)
  | sl {id : Nat} {l : Loc} (off n : Nat) (h : g.μ id = some l) (hn : l.nil = false) (ho : off + n ≤ l.tot) : RC w g (.slice (some ⟨l.blk, off * l.sz, none⟩) n (l.tot - off)) (.sl id off n)
  | slz {id : Nat} {l : Loc} (off : Nat) (A : Option Addr) (h : g.μ id = some l) (ho : off = l.tot) : RC w g (.slice A 0 0) (.sl id off 0)
  | el {id : Nat} {l : Loc} (i k : Nat) (h : g.μ id = some l) (hn : l.nil = false) : RC w g (.pointer (some ⟨l.blk, i * l.sz + k, none⟩)) (.el id i k)
  | im (b o : Nat) (cs : List D) (us : Nat → Value) (hI : g.I b) (hc : ∀ (j : Nat) t, cs[j]? = some t → w.cell? ⟨b, o + j, none⟩ = some (us j)) (hr : ∀ (j : Nat) t, cs[j]? = some t → Rd w g.I (us j) t) :
      RC w g (.pointer (some ⟨b, o, none⟩)) (.im cs)
  | mp {id : Nat} {l : Loc} (h : g.μ id = some l) : RC w g (.map (some l.blk)) (.mp id)
  | bm {id : Nat} {l : Loc} (f : FuncId) (off : Nat) (h : g.μ id = some l) (hn : l.nil = false) : RC w g (.func (.func f) #[.pointer (some ⟨l.blk, off, none⟩)] #[]) (.bm f id off)
  | fn (f : FuncId) (caps : Array Value) (cs : List C) (hs : caps.size = cs.length) (h : ∀ (j : Nat) v c, caps[j]? = some v → cs[j]? = some c → RC w g v c) : RC w g (.func (.func f) #[] caps) (.fn f cs)

inductive RE (w : World) (g : Gh) : Value → E → Prop
  | c {v : Value} {c : C} (h : RC w g v c) : RE w g v (.c c)
  | agg (arr : Array Value) (cs : List C) (hs : arr.size = cs.length) (h : ∀ (j : Nat) c, cs[j]? = some c → ∃ v, arr[j]? = some v ∧ RC w g v c) : RE w g (.agg arr) (.agg cs)
inductive RV (w : World) (g : Gh) : Value → V → Prop
  | e {v : Value} {e : E} (h : RE w g v e) : RV w g v (.e e)
  | tup (arr : Array Value) (es : List E) (hs : arr.size = es.length) (h : ∀ (j : Nat) e, es[j]? = some e → ∃ v, arr[j]? = some v ∧ RE w g v e) : RV w g (.tuple arr) (.tup es)
  | u : RV w g undef .u

def valE (ag : Bool) (ds : List D) : E := match ag with
  | true => .agg (ds.map .t)
  | false => .c (.t (ds.headD .nil))
/-- The blocks of I are as they were. -/
def Same (I : Nat → Prop) (w w' : World) : Prop := ∀ b, I b → w'.heap[b]? = w.heap[b]?
theorem Rd.more {w w' : World} {I I' : Nat → Prop} {v : Value} {t : D} (hs : Same I w w') (hi : ∀ b, I b → I' b) (h : Rd w I v t) : Rd w' I' v t := by
  induction h with
  | int k n => exact .int k n
  | bool b => exact .bool b
  | str s => exact .str s
  | nil A => exact .nil A
  | lsn A sz => exact .lsn A sz
  | ls b o sz n c rows us hI hn hc hm hsz hsr hcell hr ih =>
    exact .ls b o sz n c rows us (hi b hI) hn hc hm hsz hsr (fun i r j t h1 h2 => (World.cell?_of_block (w := w) (hs b hI)).trans (hcell i r j t h1 h2)) ih
/-- Less is known. -/
theorem Rd.take {w : World} {I : Nat → Prop} {v : Value} {sz n m : Nat} {rows : List (List D)} (h : Rd w I v (.ls sz n rows)) (hm : n ≤ m) : Rd w I v (.ls sz n (rows.take m)) := by
  have ht : ∀ (i : Nat) r, (rows.take m)[i]? = some r → rows[i]? = some r := fun i r hr => by
    rw [List.getElem?_take] at hr
    split at hr
    · exact hr
    · cases hr
  cases h with
  | lsn A sz => rw [List.take_nil]; exact .lsn A sz
  | ls b o _ _ c _ us hI hn hc hmx hsz hs hcell hr =>
    exact .ls b o sz n c _ us hI (by rw [List.length_take]; omega) (by rw [List.length_take]; omega) hmx hsz (fun i r h1 => hs i r (ht i r h1)) (fun i r j t h1 h2 => hcell i r j t (ht i r h1) h2) (fun i r j t h1 h2 => hr i r j t (ht i r h1) h2)
structure Gm (g g' : Gh) : Prop where
  I : ∀ b, g.I b → g'.I b
  μ : ∀ i l, g.μ i = some l → g'.μ i = some l
theorem Gm.refl (g : Gh) : Gm g g := ⟨fun _ h => h, fun _ _ h => h⟩
theorem Gm.trans {a b c : Gh} (h : Gm a b) (k : Gm b c) : Gm a c := ⟨fun x hx => k.I x (h.I x hx), fun i l hl => k.μ i l (h.μ i l hl)⟩
theorem RC.more {w w' : World} {g g' : Gh} {v : Value} {c : C} (hs : Same g.I w w') (hg : Gm g g') (h : RC w g v c) : RC w' g' v c := by
  induction h with
  | t h => exact .t (h.more hs hg.I)
  | nilp => exact .nilp
  | nilm => exact .nilm
  | nilf => exact .nilf
  | pa n h hn ht => exact .pa n (hg.μ _ _ h) hn ht
  | ptr off h hn => exact .ptr off (hg.μ _ _ h) hn
  | sl off n h hn ho => exact .sl off n (hg.μ _ _ h) hn ho
  | slz off A h ho => exact .slz off A (hg.μ _ _ h) ho
  | el i k h hn => exact .el i k (hg.μ _ _ h) hn
  | im b o cs us hI hc hr => exact .im b o cs us (hg.I b hI) (fun j t h => (World.cell?_of_block (w := w) (hs b hI)).trans (hc j t h)) (fun j t h => (hr j t h).more hs hg.I)
  | mp h => exact .mp (hg.μ _ _ h)
  | bm f off h hn => exact .bm f off (hg.μ _ _ h) hn
  | fn f caps cs hsz h ih => exact .fn f caps cs hsz ih
theorem RE.more {w w' : World} {g g' : Gh} {v : Value} {e : E} (hs : Same g.I w w') (hg : Gm g g') (h : RE w g v e) : RE w' g' v e := by
  cases h with
  | c h => exact .c (h.more hs hg)
  | agg arr cs hl h =>
    refine .agg arr cs hl fun j c hj => ?_
    obtain ⟨v, h1, h2⟩ := h j c hj
    exact ⟨v, h1, h2.more hs hg⟩
theorem RV.more {w w' : World} {g g' : Gh} {v : Value} {x : V} (hs : Same g.I w w') (hg : Gm g g') (h : RV w g v x) : RV w' g' v x := by
  cases h with
  | e h => exact .e (h.more hs hg)
  | tup arr es hl h =>
    refine .tup arr es hl fun j e hj => ?_
    obtain ⟨v, h1, h2⟩ := h j e hj
    exact ⟨v, h1, h2.more hs hg⟩
  | u => exact .u

def keyV (k : Int × Int) : Value := .agg #[.int .i64 k.1, .int .i64 k.2]
/-- A list in a block of its own. -/
def InB (w : World) (I : Nat → Prop) (b : Nat) (v : Value) (sz : Nat) (rows : List (List D)) : Prop := 0 < sz ∧ ∃ c arr ty, v = .slice (some ⟨b, 0, none⟩) rows.length c ∧ rows.length ≤ c ∧ c ≤ maxLen ∧ w.heap[b]? = some (.cells arr ty (0, 0)) ∧ arr.size = c * sz ∧
  ∀ (p : Nat) r, rows[p]? = some r → r.length = sz ∧ ∀ (j : Nat) t, r[j]? = some t → ∃ v, arr[p * sz + j]? = some v ∧ Rd w I v t
def outAt (out : Option (Nat × Nat × Nat)) (j : Nat) : Option (Nat × Nat) := match out with
  | some (p, id, n) => if p = j then some (id, n) else none
  | none => none
/-- The value of an entry. -/
def MvR (w : World) (g : Gh) (ag : Bool) (b : Nat) (v : Value) (x : MV) (o : Option (Nat × Nat)) : Prop := match o with
  | some (id, n) => RC w g v (.sl id 0 n)
  | none => match x with
    | .o ds => RE w g v (valE ag ds)
    | .i sz rows => InB w g.I b v sz rows
/-- An entry whose list lies in a block of the map's own. -/
def inn (m : Cm) (out : Option (Nat × Nat × Nat)) (j : Nat) : Prop := outAt out j = none ∧ ∃ st k sz rows, m.es[j]? = some (st, k, .i sz rows)
/-- Entries as they are told. -/
def EntC (w : World) (g : Gh) (ag : Bool) (bs : Nat → Nat) (arr : Array MapEntry) (m : Cm) (out : Option (Nat × Nat × Nat)) : Prop :=
  arr.size = m.es.length ∧ ∀ (j : Nat) e, m.es[j]? = some e → ∃ x, arr[j]? = some x ∧ x.born = e.1 ∧ x.key = keyV e.2.1 ∧ MvR w g ag (bs j) x.val e.2.2 (outAt out j)
theorem InB.more {w w' : World} {I I' : Nat → Prop} {b : Nat} {v : Value} {sz : Nat} {rows : List (List D)} (hs : Same I w w') (hi : ∀ b, I b → I' b) (hb : w'.heap[b]? = w.heap[b]?) (h : InB w I b v sz rows) : InB w' I' b v sz rows := by
  obtain ⟨h0, c, arr, ty, h1, h2, h3, h4, h5, h6⟩ := h
  refine ⟨h0, c, arr, ty, h1, h2, h3, hb.trans h4, h5, fun p r hr => ?_⟩
  obtain ⟨e1, e2⟩ := h6 p r hr
  refine ⟨e1, fun j t hj => ?_⟩
  obtain ⟨v, v1, v2⟩ := e2 j t hj
  exact ⟨v, v1, v2.more hs hi⟩
theorem EntC.more {w w' : World} {g g' : Gh} {ag : Bool} {bs : Nat → Nat} {arr : Array MapEntry} {m : Cm} {out : Option (Nat × Nat × Nat)} (hs : Same g.I w w') (hg : Gm g g') (hb : ∀ j, inn m out j → w'.heap[bs j]? = w.heap[bs j]?) (h : EntC w g ag bs arr m out) : EntC w' g' ag bs arr m out := by
  refine ⟨h.1, fun j e hj => ?_⟩
  obtain ⟨x, h1, h2, h3, h4⟩ := h.2 j e hj
  refine ⟨x, h1, h2, h3, ?_⟩
  unfold MvR at h4 ⊢
  split
  · rename_i id n ho
    rw [ho] at h4
    exact h4.more hs hg
  · rename_i ho
    rw [ho] at h4
    obtain ⟨st, k, v⟩ := e
    cases v with
    | o ds => exact RE.more hs hg h4
    | i sz rows => exact InB.more hs hg.I (hb j ⟨ho, st, k, sz, rows, hj⟩) h4

def Stab (R : World → (Nat → Prop) → Nat → Prop) : Prop := ∀ w w' F b, Same F w w' → R w F b → R w' F b
/-- An object as it lies. -/
def HO (w : World) (g : Gh) (i : Nat) : Ob → Prop
  | .dead => True
  | .box cs => ∃ l arr ty, g.μ i = some l ∧ l.nil = false ∧ w.heap[l.blk]? = some (.cells arr ty (0, 0)) ∧ arr.size = cs.length ∧ (∀ (j : Nat) c, cs[j]? = some c → ∃ v, arr[j]? = some v ∧ RC w g v c) ∧ ∀ b, g.fp i b ↔ b = l.blk
  | .arr sz rows => 0 < sz ∧ ∃ l, g.μ i = some l ∧ l.sz = sz ∧
      ((l.nil = true ∧ l.tot = 0 ∧ rows = [] ∧ ∀ b, ¬ g.fp i b) ∨
       (l.nil = false ∧ rows.length ≤ l.tot ∧ l.tot ≤ maxLen ∧ (∀ b, g.fp i b ↔ b = l.blk) ∧ ∃ arr ty, w.heap[l.blk]? = some (.cells arr ty (0, 0)) ∧ arr.size = l.tot * sz ∧
         ∀ (p : Nat) r, rows[p]? = some r → r.length = sz ∧ ∀ (j : Nat) t, r[j]? = some t → ∃ v, arr[p * sz + j]? = some v ∧ Rd w g.I v t))
  | .mp ag m => ∃ l arr, g.μ i = some l ∧ w.heap[l.blk]? = some (.map arr m.ck) ∧ arr.size = m.es.length ∧ (∀ (j : Nat) e, m.es[j]? = some e → ∃ x, arr[j]? = some x ∧ x.born = e.1 ∧ x.key = .int .i64 e.2.1 ∧ RE w g x.val (valE ag e.2.2)) ∧ ∀ b, g.fp i b ↔ b = l.blk
  | .cm ag m out => ∃ l arr, ∃ bs : Nat → Nat, g.μ i = some l ∧ w.heap[l.blk]? = some (.map arr m.ck) ∧ EntC w g ag bs arr m out ∧ (∀ j k, inn m out j → inn m out k → bs j = bs k → j = k) ∧ ∀ b, g.fp i b ↔ b = l.blk ∨ ∃ j, inn m out j ∧ b = bs j
  | .it mid since seen last => ∃ l lm, g.μ i = some l ∧ l.nil = false ∧ g.μ mid = some lm ∧ w.heap[l.blk]? = some (.mapIter (some lm.blk) since seen.toArray last) ∧ ∀ b, g.fp i b ↔ b = l.blk
  | .opq R => Stab R ∧ ∃ l, g.μ i = some l ∧ l.nil = false ∧ R w (g.fp i) l.blk ∧ ∀ b, g.fp i b → b < w.heap.size
theorem EntC.blk {w : World} {g : Gh} {ag : Bool} {bs : Nat → Nat} {arr : Array MapEntry} {m : Cm} {out : Option (Nat × Nat × Nat)} (h : EntC w g ag bs arr m out) {j : Nat} (hj : inn m out j) : ∃ arr ty, w.heap[bs j]? = some (.cells arr ty (0, 0)) := by
  obtain ⟨ho, st, k, sz, rows, he⟩ := hj
  obtain ⟨x, _, _, _, h4⟩ := h.2 j _ he
  rw [ho] at h4
  obtain ⟨_, c, arr, ty, _, _, _, h5, _⟩ := h4
  exact ⟨arr, ty, h5⟩
theorem HO.lt {w : World} {g : Gh} {i : Nat} {o : Ob} (h : HO w g i o) (hl : o.live = true) {b : Nat} (hb : g.fp i b) : b < w.heap.size := by
  cases o with
  | dead => cases hl
  | box cs => obtain ⟨l, arr, ty, _, _, h1, _, _, h2⟩ := h; rw [(h2 b).1 hb]; exact heap_lt h1
  | arr sz rows =>
    obtain ⟨_, l, _, _, ⟨_, _, _, h2⟩ | ⟨_, _, _, h2, arr, ty, h1, _⟩⟩ := h
    · exact absurd hb (h2 b)
    · rw [(h2 b).1 hb]; exact heap_lt h1
  | mp ag m => obtain ⟨l, arr, _, h1, _, _, h2⟩ := h; rw [(h2 b).1 hb]; exact heap_lt h1
  | cm ag m out =>
    obtain ⟨l, arr, bs, _, h1, h2, _, h3⟩ := h
    rcases (h3 b).1 hb with rfl | ⟨j, hj, rfl⟩
    · exact heap_lt h1
    · obtain ⟨_, _, h4⟩ := h2.blk hj; exact heap_lt h4
  | it mid since seen last => obtain ⟨l, lm, _, _, _, h1, h2⟩ := h; rw [(h2 b).1 hb]; exact heap_lt h1
  | opq R => obtain ⟨_, l, _, _, _, h2⟩ := h; exact h2 b hb
theorem HO.more {w w' : World} {g g' : Gh} {i : Nat} {o : Ob} (hs : Same g.I w w') (hf : Same (g.fp i) w w') (hz : w.heap.size ≤ w'.heap.size) (hg : Gm g g') (he : g'.fp i = g.fp i) (h : HO w g i o) : HO w' g' i o := by
  cases o with
  | dead => trivial
  | box cs =>
    obtain ⟨l, arr, ty, h0, h1, h2, h3, h4, h5⟩ := h
    refine ⟨l, arr, ty, hg.μ _ _ h0, h1, (hf _ ((h5 _).2 rfl)).trans h2, h3, fun j c hj => ?_, by rw [he]; exact h5⟩
    obtain ⟨v, e1, e2⟩ := h4 j c hj
    exact ⟨v, e1, e2.more hs hg⟩
  | arr sz rows =>
    obtain ⟨hp, l, h0, h1, ⟨h2, h3, h4, h5⟩ | ⟨h2, h3, h4, h5, arr, ty, h6, h7, h8⟩⟩ := h
    · exact ⟨hp, l, hg.μ _ _ h0, h1, .inl ⟨h2, h3, h4, by rw [he]; exact h5⟩⟩
    · refine ⟨hp, l, hg.μ _ _ h0, h1, .inr ⟨h2, h3, h4, by rw [he]; exact h5, arr, ty, (hf _ ((h5 _).2 rfl)).trans h6, h7, fun p r hr => ?_⟩⟩
      obtain ⟨e1, e2⟩ := h8 p r hr
      refine ⟨e1, fun j t hj => ?_⟩
      obtain ⟨v, e3, e4⟩ := e2 j t hj
      exact ⟨v, e3, e4.more hs hg.I⟩
  | mp ag m =>
    obtain ⟨l, arr, h0, h2, h3, h4, h5⟩ := h
    refine ⟨l, arr, hg.μ _ _ h0, (hf _ ((h5 _).2 rfl)).trans h2, h3, fun j c hj => ?_, by rw [he]; exact h5⟩
    obtain ⟨m, e1, e2, e3, e4⟩ := h4 j c hj
    exact ⟨m, e1, e2, e3, e4.more hs hg⟩
  | cm ag m out =>
    obtain ⟨l, arr, bs, h0, h1, h2, h3, h4⟩ := h
    exact ⟨l, arr, bs, hg.μ _ _ h0, (hf _ ((h4 _).2 (.inl rfl))).trans h1, h2.more hs hg (fun j hj => hf _ ((h4 _).2 (.inr ⟨j, hj, rfl⟩))), h3, by rw [he]; exact h4⟩
  | it mid since seen last =>
    obtain ⟨l, lm, h0, h1, h2, h3, h4⟩ := h
    exact ⟨l, lm, hg.μ _ _ h0, h1, hg.μ _ _ h2, (hf _ ((h4 _).2 rfl)).trans h3, by rw [he]; exact h4⟩
  | opq R =>
    obtain ⟨hst, l, h0, h1, h2, h3⟩ := h
    refine ⟨hst, l, hg.μ _ _ h0, h1, ?_, fun b hb => ?_⟩
    · rw [he]; exact hst _ _ _ _ hf h2
    · rw [he] at hb; exact Nat.lt_of_lt_of_le (h3 b hb) hz

/-- What the objects are in a world. -/
structure Rl (w : World) (g : Gh) (h : Nat → Ob) : Prop where
  objs : ∀ i, (h i).live = true → HO w g i (h i)
  disj : ∀ i j b, (h i).live = true → (h j).live = true → g.fp i b → g.fp j b → i = j
  imm : ∀ i b, (h i).live = true → g.fp i b → ¬ g.I b
  lt : ∀ b, g.I b → b < w.heap.size

/-- The blocks of some objects. -/
def Tch (g : Gh) (h : Nat → Ob) (ids : List Nat) (b : Nat) : Prop := ∃ i ∈ ids, (h i).live = true ∧ g.fp i b
/-- The blocks of all objects. -/
def Own (g : Gh) (h : Nat → Ob) (b : Nat) : Prop := ∃ i, (h i).live = true ∧ g.fp i b

/-- What one step leaves: it writes the objects wr, and makes those from base on. -/
structure Res where
  v : V
  wr : List (Nat × Ob) := []
  rd : List Nat := []
  nw : List Ob := []
def Res.ids (s : Res) : List Nat := s.wr.map (·.1)
def getO : List (Nat × Ob) → Nat → Option Ob
  | [], _ => none
  | (i, o) :: r, j => if i = j then some o else getO r j
def Res.app (s : Res) (base : Nat) (h : Nat → Ob) (i : Nat) : Ob :=
  match getO s.wr i with
  | some o => o
  | none => if base ≤ i then (match s.nw[i - base]? with | some o => o | none => h i) else h i
def isNew (base n i : Nat) : Prop := base ≤ i ∧ i < base + n
/-- How the ghosts go on. -/
structure Go1 (w : World) (g : Gh) (h : Nat → Ob) (ids : List Nat) (base n : Nat) (w' : World) (g' : Gh) (h' : Nat → Ob) : Prop where
  keeps : Keeps (Tch g h ids) w w'
  gm : Gm g g'
  In : ∀ b, g'.I b → g.I b ∨ Tch g h ids b ∨ w.heap.size ≤ b
  μn : ∀ i, ¬ isNew base n i → g.μ i = none → g'.μ i = none
  fp : ∀ i, i ∉ ids → ¬ isNew base n i → g'.fp i = g.fp i
  fpn : ∀ i b, (i ∈ ids ∨ isNew base n i) → (h' i).live = true → g'.fp i b → Tch g h ids b ∨ w.heap.size ≤ b

theorem Same.of_keeps {F I : Nat → Prop} {w w' : World} (hk : Keeps F w w') (hI : ∀ b, I b → b < w.heap.size) (hF : ∀ b, I b → ¬ F b) : Same I w w' := fun b hb => hk.block b (hI b hb) (hF b hb)
theorem Rl.tch_imm {w : World} {g : Gh} {h : Nat → Ob} (hR : Rl w g h) {ids : List Nat} : ∀ b, g.I b → ¬ Tch g h ids b := fun b hb ⟨i, _, hl, hf⟩ => hR.imm i b hl hf hb
theorem Go1.same {w w' : World} {g g' : Gh} {h h' : Nat → Ob} {ids : List Nat} {base n : Nat} (hR : Rl w g h) (hg : Go1 w g h ids base n w' g' h') : Same g.I w w' :=
  Same.of_keeps hg.keeps hR.lt hR.tch_imm
/-- The objects that a step does not touch stay. -/
theorem Rl.step {w w' : World} {g g' : Gh} {h h' : Nat → Ob} {ids : List Nat} {base n : Nat} (hR : Rl w g h) (hg : Go1 w g h ids base n w' g' h')
    (hsame : ∀ i, i ∉ ids → ¬ isNew base n i → h' i = h i) (hdead : ∀ i, isNew base n i → (h i).live = false)
    (hobj : ∀ i, (i ∈ ids ∨ isNew base n i) → (h' i).live = true → HO w' g' i (h' i))
    (hdis : ∀ i j b, (i ∈ ids ∨ isNew base n i) → (j ∈ ids ∨ isNew base n j) → (h' i).live = true → (h' j).live = true → g'.fp i b → g'.fp j b → i = j)
    (himm : ∀ i b, (i ∈ ids ∨ isNew base n i) → (h' i).live = true → g'.fp i b → ¬ g'.I b)
    (hlt : ∀ b, g'.I b → b < w'.heap.size) : Rl w' g' h' := by
  have hcase : ∀ i, (i ∈ ids ∨ isNew base n i) ∨ (i ∉ ids ∧ ¬ isNew base n i) := fun i => by
    by_cases h1 : i ∈ ids
    · exact .inl (.inl h1)
    · by_cases h2 : isNew base n i
      · exact .inl (.inr h2)
      · exact .inr ⟨h1, h2⟩
  have hapart : ∀ i b, i ∉ ids → ¬ isNew base n i → (h' i).live = true → g'.fp i b → ¬ (Tch g h ids b ∨ w.heap.size ≤ b) := by
    intro i b h1 h2 hl hb ht
    rw [hsame i h1 h2] at hl
    rw [hg.fp i h1 h2] at hb
    rcases ht with ⟨j, hj, hjl, hjb⟩ | ht
    · have := hR.disj i j b hl hjl hb hjb
      subst this
      exact h1 hj
    · have := (hR.objs i hl).lt hl hb
      omega
  refine ⟨fun i hl => ?_, fun i j b hi hj hib hjb => ?_, fun i b hl hb hI => ?_, hlt⟩
  · rcases hcase i with hc | ⟨h1, h2⟩
    · exact hobj i hc hl
    · have e := hsame i h1 h2
      rw [e] at hl ⊢
      refine HO.more (hg.same hR) (fun b hb => ?_) hg.keeps.size hg.gm (hg.fp i h1 h2) (hR.objs i hl)
      exact hg.keeps.block b ((hR.objs i hl).lt hl hb) fun ht => hapart i b h1 h2 (by rw [e]; exact hl) (by rw [hg.fp i h1 h2]; exact hb) (.inl ht)
  · rcases hcase i with hc | ⟨h1, h2⟩ <;> rcases hcase j with hd | ⟨h3, h4⟩
    · exact hdis i j b hc hd hi hj hib hjb
    · exact absurd (hg.fpn i b hc hi hib) (hapart j b h3 h4 hj hjb)
    · exact absurd (hg.fpn j b hd hj hjb) (hapart i b h1 h2 hi hib)
    · rw [hsame i h1 h2] at hi
      rw [hsame j h3 h4] at hj
      rw [hg.fp i h1 h2] at hib
      rw [hg.fp j h3 h4] at hjb
      exact hR.disj i j b hi hj hib hjb
  · rcases hcase i with hc | ⟨h1, h2⟩
    · exact himm i b hc hl hb hI
    · have hn := hapart i b h1 h2 hl hb
      rw [hsame i h1 h2] at hl
      rw [hg.fp i h1 h2] at hb
      rcases hg.In b hI with h | h | h
      · exact hR.imm i b hl hb h
      · exact hn (.inl h)
      · exact hn (.inr h)

/-- Data of which less is told. -/
inductive D.le : D → D → Prop
  | refl (d : D) : D.le d d
  | nil (sz : Nat) : D.le .nil (.ls sz 0 [])
  | cut {sz n m : Nat} {r r' : List (List D)} (h1 : n = m) (h2 : r.take n = r') : D.le (.ls sz n r) (.ls sz m r')
inductive C.le : C → C → Prop
  | refl (c : C) : C.le c c
  | t {d d' : D} (h : D.le d d') : C.le (.t d) (.t d')
inductive LeCs : List C → List C → Prop
  | nil : LeCs [] []
  | cons {c c' : C} {l l' : List C} (h : C.le c c') (hl : LeCs l l') : LeCs (c :: l) (c' :: l')
inductive E.le : E → E → Prop
  | refl (c : E) : E.le c c
  | c {d d' : C} (h : C.le d d') : E.le (.c d) (.c d')
  | agg {l l' : List C} (h : LeCs l l') : E.le (.agg l) (.agg l')
inductive LeEs : List E → List E → Prop
  | nil : LeEs [] []
  | cons {c c' : E} {l l' : List E} (h : E.le c c') (hl : LeEs l l') : LeEs (c :: l) (c' :: l')
inductive V.le : V → V → Prop
  | refl (c : V) : V.le c c
  | e {d d' : E} (h : E.le d d') : V.le (.e d) (.e d')
  | tup {l l' : List E} (h : LeEs l l') : V.le (.tup l) (.tup l')
inductive LeVs : List V → List V → Prop
  | nil : LeVs [] []
  | cons {c c' : V} {l l' : List V} (h : V.le c c') (hl : LeVs l l') : LeVs (c :: l) (c' :: l')
theorem Rd.le {w : World} {I : Nat → Prop} {v : Value} {d d' : D} (h : Rd w I v d) (hl : D.le d d') : Rd w I v d' := by
  cases hl with
  | refl => exact h
  | nil sz => cases h; exact .lsn _ sz
  | cut h1 h2 => subst h1; subst h2; exact h.take (Nat.le_refl _)
theorem RC.le {w : World} {g : Gh} {v : Value} {d d' : C} (h : RC w g v d) (hl : C.le d d') : RC w g v d' := by
  cases hl with
  | refl => exact h
  | t hl => cases h with | t h => exact .t (h.le hl)
theorem LeCs.at : ∀ {l l' : List C}, LeCs l l' → l.length = l'.length ∧ ∀ (j : Nat) c', l'[j]? = some c' → ∃ c, l[j]? = some c ∧ C.le c c'
  | _, _, .nil => ⟨rfl, fun j c' h => by simp at h⟩
  | _, _, .cons h hl => by
    obtain ⟨e1, e2⟩ := hl.at
    refine ⟨by simp [e1], fun j c' hj => ?_⟩
    cases j with
    | zero => simp at hj; subst hj; exact ⟨_, rfl, h⟩
    | succ j => simpa using e2 j c' (by simpa using hj)
theorem RE.le {w : World} {g : Gh} {v : Value} {d d' : E} (h : RE w g v d) (hl : E.le d d') : RE w g v d' := by
  cases hl with
  | refl => exact h
  | c hl => cases h with | c h => exact .c (h.le hl)
  | agg hl =>
    cases h with
    | agg arr cs hs h =>
      obtain ⟨e1, e2⟩ := hl.at
      refine .agg arr _ (hs.trans e1) fun j c' hj => ?_
      obtain ⟨c, c1, c2⟩ := e2 j c' hj
      obtain ⟨v, v1, v2⟩ := h j c c1
      exact ⟨v, v1, v2.le c2⟩
theorem LeEs.at : ∀ {l l' : List E}, LeEs l l' → l.length = l'.length ∧ ∀ (j : Nat) c', l'[j]? = some c' → ∃ c, l[j]? = some c ∧ E.le c c'
  | _, _, .nil => ⟨rfl, fun j c' h => by simp at h⟩
  | _, _, .cons h hl => by
    obtain ⟨e1, e2⟩ := hl.at
    refine ⟨by simp [e1], fun j c' hj => ?_⟩
    cases j with
    | zero => simp at hj; subst hj; exact ⟨_, rfl, h⟩
    | succ j => simpa using e2 j c' (by simpa using hj)
theorem RV.le {w : World} {g : Gh} {v : Value} {d d' : V} (h : RV w g v d) (hl : V.le d d') : RV w g v d' := by
  cases hl with
  | refl => exact h
  | e hl => cases h with | e h => exact .e (h.le hl)
  | tup hl =>
    cases h with
    | tup arr cs hs h =>
      obtain ⟨e1, e2⟩ := hl.at
      refine .tup arr _ (hs.trans e1) fun j c' hj => ?_
      obtain ⟨c, c1, c2⟩ := e2 j c' hj
      obtain ⟨v, v1, v2⟩ := h j c c1
      exact ⟨v, v1, v2.le c2⟩
theorem LeVs.at : ∀ {l l' : List V}, LeVs l l' → l.length = l'.length ∧ ∀ (j : Nat) c', l'[j]? = some c' → ∃ c, l[j]? = some c ∧ V.le c c'
  | _, _, .nil => ⟨rfl, fun j c' h => by simp at h⟩
  | _, _, .cons h hl => by
    obtain ⟨e1, e2⟩ := hl.at
    refine ⟨by simp [e1], fun j c' hj => ?_⟩
    cases j with
    | zero => simp at hj; subst hj; exact ⟨_, rfl, h⟩
    | succ j => simpa using e2 j c' (by simpa using hj)
theorem LeVs.refl : ∀ (l : List V), LeVs l l
  | [] => .nil
  | v :: l => .cons (.refl v) (LeVs.refl l)
inductive LeDs : List D → List D → Prop
  | nil : LeDs [] []
  | cons {c c' : D} {l l' : List D} (h : D.le c c') (hl : LeDs l l') : LeDs (c :: l) (c' :: l')
theorem LeDs.refl : ∀ (l : List D), LeDs l l
  | [] => .nil
  | d :: l => .cons (.refl d) (LeDs.refl l)
inductive LeMs : List (Nat × Int × List D) → List (Nat × Int × List D) → Prop
  | nil : LeMs [] []
  | cons {s : Nat} {k : Int} {d d' : List D} {l l' : List (Nat × Int × List D)} (h : LeDs d d') (hl : LeMs l l') : LeMs ((s, k, d) :: l) ((s, k, d') :: l')
theorem LeMs.refl : ∀ (l : List (Nat × Int × List D)), LeMs l l
  | [] => .nil
  | (_, _, d) :: l => .cons (LeDs.refl d) (LeMs.refl l)
theorem LeDs.cs : ∀ {l l' : List D}, LeDs l l' → LeCs (l.map .t) (l'.map .t)
  | _, _, .nil => .nil
  | _, _, .cons h hl => .cons (.t h) hl.cs
theorem LeDs.head : ∀ {l l' : List D}, LeDs l l' → D.le (l.headD .nil) (l'.headD .nil)
  | _, _, .nil => .refl _
  | _, _, .cons h hl => h
theorem LeMs.at : ∀ {l l' : List (Nat × Int × List D)}, LeMs l l' → l.length = l'.length ∧ ∀ (j : Nat) e', l'[j]? = some e' → ∃ e, l[j]? = some e ∧ e.1 = e'.1 ∧ e.2.1 = e'.2.1 ∧ LeDs e.2.2 e'.2.2
  | _, _, .nil => ⟨rfl, fun j c' h => by simp at h⟩
  | _, _, .cons h hl => by
    obtain ⟨e1, e2⟩ := hl.at
    refine ⟨by simp [e1], fun j c' hj => ?_⟩
    cases j with
    | zero => simp at hj; subst hj; exact ⟨_, rfl, rfl, rfl, h⟩
    | succ j => simpa using e2 j c' (by simpa using hj)
theorem valE_le {w : World} {g : Gh} {v : Value} {ag : Bool} {l l' : List D} (h : RE w g v (valE ag l)) (hl : LeDs l l') : RE w g v (valE ag l') := by
  cases ag with
  | true => exact h.le (.agg hl.cs)
  | false => exact h.le (.c (.t hl.head))
/-- Objects of which less is told. -/
inductive Ob.le : Ob → Ob → Prop
  | refl (o : Ob) : Ob.le o o
  | mp {ag : Bool} {ck : Nat} {l l' : List (Nat × Int × List D)} (h : LeMs l l') : Ob.le (.mp ag ⟨ck, l⟩) (.mp ag ⟨ck, l'⟩)
  | box {l l' : List C} (h : LeCs l l') : Ob.le (.box l) (.box l')
  | arr {sz : Nat} {rows : List (List D)} (k : Nat) : Ob.le (.arr sz rows) (.arr sz (rows.take k))
inductive LeOs : List Ob → List Ob → Prop
  | nil : LeOs [] []
  | cons {c c' : Ob} {l l' : List Ob} (h : Ob.le c c') (hl : LeOs l l') : LeOs (c :: l) (c' :: l')
theorem LeOs.refl : ∀ (l : List Ob), LeOs l l
  | [] => .nil
  | v :: l => .cons (.refl v) (LeOs.refl l)
theorem LeOs.of {l m : List Ob} (h : l = m) : LeOs l m := h ▸ LeOs.refl l
theorem LeOs.len : ∀ {l m : List Ob}, LeOs l m → l.length = m.length
  | _, _, .nil => rfl
  | _, _, .cons _ h => by simp [h.len]
theorem LeOs.at : ∀ {l m : List Ob}, LeOs l m → ∀ j, Ob.le (l.getD j .dead) (m.getD j .dead)
  | _, _, .nil, j => by simp [List.getD_eq_getElem?_getD]; exact .refl _
  | _, _, .cons h hl, j => by
    cases j with
    | zero => simpa using h
    | succ j => simpa using hl.at j
theorem HO.le {w : World} {g : Gh} {i : Nat} {o o' : Ob} (h : HO w g i o) (hl : Ob.le o o') : HO w g i o' := by
  cases hl with
  | refl => exact h
  | mp hl =>
    obtain ⟨l, arr, h1, h2, h3, h4, h5⟩ := h
    obtain ⟨e1, e2⟩ := hl.at
    refine ⟨l, arr, h1, h2, h3.trans e1, fun j e hj => ?_, h5⟩
    obtain ⟨e0, c1, c2, c3, c4⟩ := e2 j e hj
    obtain ⟨x, x1, x2, x3, x4⟩ := h4 j e0 c1
    exact ⟨x, x1, x2.trans c2, by rw [x3, c3], valE_le x4 c4⟩
  | arr k =>
    obtain ⟨hp, l, h0, h1, ⟨h2, h3, h4, h5⟩ | ⟨h2, h3, h4, h5, arr, ty, h6, h7, h8⟩⟩ := h
    · exact ⟨hp, l, h0, h1, .inl ⟨h2, h3, by rw [h4, List.take_nil], h5⟩⟩
    · refine ⟨hp, l, h0, h1, .inr ⟨h2, Nat.le_trans (by rw [List.length_take]; omega) h3, h4, h5, arr, ty, h6, h7, fun p r hr => h8 p r ?_⟩⟩
      rw [List.getElem?_take] at hr
      split at hr
      · exact hr
      · cases hr
  | box hl =>
    obtain ⟨l, arr, ty, h1, h2, h3, h4, h5, h6⟩ := h
    obtain ⟨e1, e2⟩ := hl.at
    refine ⟨l, arr, ty, h1, h2, h3, h4.trans e1, fun j c hj => ?_, h6⟩
    obtain ⟨c0, c1, c2⟩ := e2 j c hj
    obtain ⟨v, v1, v2⟩ := h5 j c0 c1
    exact ⟨v, v1, v2.le c2⟩
theorem Ob.le.le_live {o o' : Ob} (h : Ob.le o o') : o'.live = o.live := by cases h <;> rfl
theorem Rl.le {w : World} {g : Gh} {h h' : Nat → Ob} (hR : Rl w g h) (hl : ∀ i, Ob.le (h i) (h' i)) : Rl w g h' :=
  ⟨fun i hi => (hR.objs i (by rw [← (hl i).le_live]; exact hi)).le (hl i), fun i j b hi hj => hR.disj i j b (by rw [← (hl i).le_live]; exact hi) (by rw [← (hl j).le_live]; exact hj),
    fun i b hi => hR.imm i b (by rw [← (hl i).le_live]; exact hi), hR.lt⟩
end Go.Proofs.YthddlkhfkncgpaaGreat
set_option linter.unusedVariables false
set_option linter.unusedSimpArgs false
namespace Go.Proofs.YthddlkhfkncgpaaGreat
open Go.RowKit

inductive AX where
  | tmp (t : Nat)
  | k (e : E)
  deriving Inhabited
/-- The kinds of cells that may be held against each other. -/
inductive LK where
  | int | bool | str
  deriving Inhabited
inductive AOp where
  | mv (x : AX)
  | pick (c a b : AX)
  | box (x : AX)
  | alloc (cs : List C)
  | build (zero : List C) (parts : List (Nat × Nat × AX))
  | mkList (mt : Bool) (sz n : Nat) (zero : List D) (parts : List (Nat × AX))
  | load (n : Option Nat) (x : AX)
  | store (n : Nat) (a x : AX)
  | bin (op : BinOp) (x y : AX)
  | binB (neg : Bool) (x y : AX)
  | eqAgg (neg : Bool) (ks : List LK) (x y : AX)
  | eqPtr (neg : Bool) (x y : AX)
  | un (op : UnOp) (x : AX)
  | conv (k : IntKind) (x : AX)
  | same (x : AX)
  | bstr (x : AX)
  | mkSlice (sz bytes : Nat) (zero : List D) (l c : AX)
  | slice (sz : Nat) (x : AX) (lo hi : Option AX)
  | sliceS (x : AX) (lo hi : Option AX)
  | clip (x : AX)
  | fieldAddr (off : Nat) (x : AX)
  | field (off : Nat) (n : Option Nat) (x : AX)
  | idxAddr (sz : Nat) (x i : AX)
  | idxArr (sz len : Nat) (x i : AX)
  | index (sz len : Nat) (n : Option Nat) (x i : AX)
  | strIdx (x i : AX)
  | extract (x : AX) (i : Nat)
  | len (st : Bool) (x : AX)
  | lenM (x : AX)
  | minmax (mx : Bool) (x y : AX)
  | append (sz bytes : Nat) (zero : List D) (x y : AX)
  | appendZ (sz bytes : Nat) (zero : List D) (x n : AX)
  | copy (sz : Nat) (x y : AX)
  | clear (sz : Nat) (zero : List D) (x : AX)
  | call (f : FuncId) (args : List AX)
  | callv (x : AX) (args : List AX)
  | mkFn (f : FuncId) (caps : List AX)
  | nilCheck (x : AX)
  | mkMap (ag : Bool)
  | lookup (ok ag : Bool) (zero : List D) (x k : AX)
  | mapSet (x k v : AX)
  | delete (x k : AX)
  | rangeM (x : AX)
  | next (x : AX)
  | eqNil (neg : Bool) (x : AX)
  | entry (x : AX)
  | mkFnM (f : FuncId) (x : AX)
  | mkMapC (ag : Bool) (r : Option AX)
  | lookupC (ag : Bool) (zero : List D) (x k : AX)
  | mapSetC (x k v : AX)
  | mapEntry (ag : Bool) (zero : List D) (x k : AX)
  | entryStore (x st v : AX)
  | cap (x : AX)
  | eqFn (neg : Bool) (x : AX)
  | sliceA (n : Nat) (x : AX) (lo hi : Option AX)
  deriving Inhabited
def AX.ts : AX → List Nat
  | .tmp t => [t]
  | .k _ => []
def xts (l : List AX) : List Nat := l.flatMap AX.ts
def AOp.xs : AOp → List AX
  | .mv x => [x]
  | .pick c a b => [c, a, b]
  | .box x => [x]
  | .alloc _ => []
  | .build _ ps => ps.map (·.2.2)
  | .mkList _ _ _ _ ps => ps.map (·.2)
  | .load _ x => [x]
  | .store _ a x => [a, x]
  | .bin _ x y => [x, y]
  | .binB _ x y => [x, y]
  | .eqAgg _ _ x y => [x, y]
  | .eqPtr _ x y => [x, y]
  | .un _ x => [x]
  | .conv _ x => [x]
  | .same x => [x]
  | .bstr x => [x]
  | .mkSlice _ _ _ l c => [l, c]
  | .slice _ x lo hi => x :: (lo.toList ++ hi.toList)
  | .sliceS x lo hi => x :: (lo.toList ++ hi.toList)
  | .clip x => [x]
  | .fieldAddr _ x => [x]
  | .field _ _ x => [x]
  | .idxAddr _ x i => [x, i]
  | .idxArr _ _ x i => [x, i]
  | .index _ _ _ x i => [x, i]
  | .strIdx x i => [x, i]
  | .extract x _ => [x]
  | .len _ x => [x]
  | .lenM x => [x]
  | .minmax _ x y => [x, y]
  | .append _ _ _ x y => [x, y]
  | .appendZ _ _ _ x y => [x, y]
  | .copy _ x y => [x, y]
  | .clear _ _ x => [x]
  | .call _ args => args
  | .callv x args => x :: args
  | .mkFn _ cs => cs
  | .nilCheck x => [x]
  | .mkMap _ => []
  | .lookup _ _ _ x k => [x, k]
  | .mapSet x k v => [x, k, v]
  | .delete x k => [x, k]
  | .rangeM x => [x]
  | .next x => [x]
  | .eqNil _ x => [x]
  | .entry x => [x]
  | .mkFnM _ x => [x]
  | .mkMapC _ r => r.toList
  | .lookupC _ _ x k => [x, k]
  | .mapSetC x k v => [x, k, v]
  | .mapEntry _ _ x k => [x, k]
  | .entryStore x st v => [x, st, v]
  | .cap x => [x]
  | .eqFn _ x => [x]
  | .sliceA _ x lo hi => x :: (lo.toList ++ hi.toList)
def AOp.ts (o : AOp) : List Nat := xts o.xs
structure AO where
  dst : Option Nat
  op : AOp
  grd : Option (Nat × Bool) := none
  deriving Inhabited
inductive AC where
  | skip
  | region (l : List AO) (up : Option (List (List Nat)))
  | seq (a b : AC)
  | cond (c : AX) (a b : AC)
  | block (id : Nat) (a : AC)
  | loop (a : AC)
  | exit (id : Nat)
  | ret
  | scope (a : AC)
  | bad
  deriving Inhabited
inductive AR where
  | tmp (t : Nat)
  | cell (t : Nat) (n : Option Nat)
  deriving Inhabited
structure AF where
  np : Nat
  N : Nat
  body : AC
  res : List AR
  deriving Inhabited

def toD : Value → Option D
  | .int k n => some (.int k n)
  | .bool b => some (.bool b)
  | .string s => some (.str s)
  | .slice none 0 0 => some .nil
  | _ => none
def toC : Value → Option C
  | .pointer none => some .nilp
  | .map none => some .nilm
  | .nilFunc => some .nilf
  | v => (toD v).map .t
def listM {α β : Type} (f : α → Option β) : List α → Option (List β)
  | [] => some []
  | a :: l => match f a, listM f l with
    | some b, some r => some (b :: r)
    | _, _ => none
def toE : Value → Option E
  | .agg cs => (listM toC cs.toList).map .agg
  | v => (toC v).map .c
def trX : Operand → Option AX
  | .tmp t => some (.tmp t)
  | .const v => (toE v).map .k
  | .func f => some (.k (.c (.fn f [])))
  | .global _ => none
def trXo : Option Operand → Option (Option AX)
  | none => some none
  | some x => (trX x).map some

def sizeB (P : Program) (t : TypeId) : Option Nat := (P.info? t).map (·.size)
def bytesB (P : Program) (t : TypeId) : Option Nat := (P.info? t).map (·.bytes)
def zeroB (P : Program) (t : TypeId) : Option (Array Value) := ((P.info? t).bind (·.zero)).map (·.cells)
def aggB (P : Program) (t : TypeId) : Option Bool := match P.underlying t with
  | some (.struct _) => some true
  | some (.array _ _) => some true
  | some _ => some false
  | none => none
def cellsB (P : Program) (t : TypeId) : Option (Option Nat) := match aggB P t with
  | some true => (sizeB P t).map some
  | some false => some none
  | none => none
def zeroC (P : Program) (t : TypeId) : Option (List C) := (zeroB P t).bind fun z => listM toC z.toList
def zeroD (P : Program) (t : TypeId) : Option (List D) := (zeroB P t).bind fun z => listM toD z.toList
def flatFs (P : Program) (fl : TypeId → Option (List LK)) : List Field → Nat → Option (List LK)
  | [], _ => some []
  | f :: fs, n => match fl f.type, sizeB P f.type, aggB P f.type with
    | some ks, some sz, some _ => if f.name ≠ "_" ∧ f.offset = n ∧ sz = ks.length then (flatFs P fl fs (n + sz)).map (ks ++ ·) else none
    | _, _, _ => none
/-- The fields of a struct, or of one within, one behind the other, each of one cell that may be held against another's. -/
def flat (P : Program) : Nat → TypeId → Option (List LK)
  | 0, _ => none
  | d + 1, t => match P.underlying t with
    | some .bool => some [.bool]
    | some (.int _) => some [.int]
    | some .string => some [.str]
    | some (.struct fs) => if P.stoodInHeld t then none else flatFs P (flat P d) fs.toList 0
    | _ => none
def fieldsB (P : Program) (t : TypeId) : Option (List (Nat × Nat)) := match P.underlying t with
  | some (.struct fs) => listM (fun (f : Field) => (sizeB P f.type).map fun n => (f.offset, n)) fs.toList
  | _ => none
/-- A map from numbers: whether its values are structs, and the cells of nought. -/
def zeroM (P : Program) (t : TypeId) (ag : Bool) : Option (List D) := match ag, (P.info? t).bind (·.zero) with
  | true, some (.agg cs) => listM toD cs.toList
  | false, some v => match toD v with
    | some d => some [d]
    | none => none
  | _, _ => none
def mapB (P : Program) (t : TypeId) : Option (Bool × List D) := match P.underlying t with
  | some (.map kt et) => match P.underlying kt, aggB P et with
    | some (.int .i64), some ag => match zeroM P et ag with
      | some z => some (ag, z)
      | none => none
    | _, _ => none
  | _ => none
/-- A struct of two whole numbers. -/
def isI64 (P : Program) (t : TypeId) : Bool := match P.underlying t with
  | some (.int .i64) => true
  | _ => false
def keyB (P : Program) (kt : TypeId) : Bool := match P.underlying kt with
  | some (.struct fs) => match fs.toList with
    | [f, g] => decide (f.name ≠ "_") && decide (g.name ≠ "_") && decide (f.offset = 0) && decide (g.offset = 1) && isI64 P f.type && isI64 P g.type && (match flat P 6 kt with | some [.int, .int] => true | _ => false)
    | _ => false
  | _ => false
def mapC (P : Program) (t : TypeId) : Option (Bool × List D) := match P.underlying t with
  | some (.map kt et) => match keyB P kt, aggB P et with
    | true, some ag => match zeroM P et ag with
      | some z => some (ag, z)
      | none => none
    | _, _ => none
  | _ => none
def trOp (P : Program) (o : Oper) : Option AOp :=
  match o.op with
  | .move x => (trX x).map .mv
  | .assign x => (trX x).map .mv
  | .pick c a b => match trX c, trX a, trX b with
    | some c, some a, some b => some (.pick c a b)
    | _, _, _ => none
  | .box _ x => (trX x).map .box
  | .alloc t => (zeroC P t).map .alloc
  | .build t parts => match zeroC P t, P.underlying t with
    | some z, some (.struct _) => match fieldsB P t with
      | some fs => (listM (fun (p : Nat × Operand) => match fs[p.1]?, trX p.2 with | some (off, n), some x => some (off, n, x) | _, _ => none) parts.toList).map (.build z)
      | none => none
    | some z, some (.array _ e) => match sizeB P e with
      | some n => (listM (fun (p : Nat × Operand) => (trX p.2).map fun x => (p.1 * n, n, x)) parts.toList).map (.build z)
      | none => none
    | _, _ => none
  | .buildSlice t len parts => match P.underlying t with
    | some (.slice e) => match sizeB P e, zeroD P e, listM (fun (p : Nat × Operand) => (trX p.2).map fun x => (p.1, x)) parts.toList with
      | some sz, some z, some ps => if 0 < sz ∧ z.length = sz ∧ len * sz ≤ 65536 then some (.mkList false sz len z ps) else none
      | _, _, _ => none
    | _ => none
  | .load t x => match cellsB P t, trX x with
    | some n, some x => some (.load n x)
    | _, _ => none
  | .store t a x => match sizeB P t, trX a, trX x with
    | some n, some a, some x => some (.store n a x)
    | _, _, _ => none
  | .binOp op t x y _ => match trX x, trX y with
    | some x, some y => match P.underlying t with
      | some (.struct _) => match flat P 6 t, op with
        | some ks, .eql => if P.eqGuardType P.depth t then none else some (.eqAgg false ks x y)
        | some ks, .neq => if P.eqGuardType P.depth t then none else some (.eqAgg true ks x y)
        | _, _ => none
      | some (.array n e) => match P.underlying e, sizeB P e, op with
        | some (.int _), some 1, .eql => if P.eqGuardType P.depth t then none else some (.eqAgg false (List.replicate n .int) x y)
        | some (.int _), some 1, .neq => if P.eqGuardType P.depth t then none else some (.eqAgg true (List.replicate n .int) x y)
        | _, _, _ => none
      | some (.pointer e) => match sizeB P e, op with
        | some (n + 1), .eql => some (.eqPtr false x y)
        | some (n + 1), .neq => some (.eqPtr true x y)
        | _, _ => none
      | some (.int _) => some (.bin op x y)
      | some .string => some (.bin op x y)
      | some .bool => match op with
        | .eql => some (.binB false x y)
        | .neq => some (.binB true x y)
        | _ => none
      | some (.slice _) => match y, op with
        | .k (.c (.t .nil)), .eql => some (.eqNil false x)
        | .k (.c (.t .nil)), .neq => some (.eqNil true x)
        | _, _ => none
      | some (.func _ _ _) => match y, op with
        | .k (.c .nilf), .eql => some (.eqFn false x)
        | .k (.c .nilf), .neq => some (.eqFn true x)
        | _, _ => none
      | _ => none
    | _, _ => none
  | .unOp op _ x => (trX x).map (.un op)
  | .convert s t x => match trX x, P.underlying s, P.underlying t with
    | some x, some (.int _), some (.int k) => some (.conv k x)
    | some x, some .string, some .string => some (.same x)
    | some x, some (.slice e), some .string => match P.underlying e with
      | some (.int .u8) => some (.bstr x)
      | _ => none
    | _, _, _ => none
  | .makeSlice t l c => match P.underlying t with
    | some (.slice e) => match sizeB P e, bytesB P e, zeroD P e, trX l, trX c with
      | some sz, some by_, some z, some l, some c => if 0 < sz ∧ z.length = sz then some (.mkSlice sz by_ z l c) else none
      | _, _, _, _, _ => none
    | _ => none
  | .slice t x lo hi mx => match P.underlying t, trX x, trXo lo, trXo hi with
    | some (.slice e), some x, some lo, some hi => match sizeB P e, mx with
      | some sz, none => if 0 < sz then some (.slice sz x lo hi) else none
      | some sz, some (.const (.int .i64 0)) => match lo, hi with
        | none, some (.k (.c (.t (.int .i64 0)))) => some (.clip x)
        | _, _ => none
      | _, _ => none
    | some .string, some x, some lo, some hi => match mx with
      | none => some (.sliceS x lo hi)
      | _ => none
    | some (.array n e), some x, some lo, some hi => match sizeB P e, mx with
      | some 1, none => some (.sliceA n x lo hi)
      | _, _ => none
    | _, _, _, _ => none
  | .fieldAddr t x f => match fieldsB P t, trX x with
    | some fs, some x => match fs[f]? with
      | some (off, n + 1) => some (.fieldAddr off x)
      | _ => none
    | _, _ => none
  | .field t x f => match P.underlying t, trX x with
    | some (.struct fs), some x => match fs[f]? with
      | some fd => (cellsB P fd.type).map fun n => .field fd.offset n x
      | none => none
    | _, _ => none
  | .indexAddr t x i => match P.underlying t, trX x, trX i with
    | some (.slice e), some x, some i => match sizeB P e with
      | some sz => if 0 < sz then some (.idxAddr sz x i) else none
      | none => none
    | some (.array n e), some x, some i => (sizeB P e).map fun sz => .idxArr sz n x i
    | _, _, _ => none
  | .index t x i => match P.underlying t, trX x, trX i with
    | some (.array len e), some x, some i => match sizeB P e, cellsB P e with
      | some sz, some n => some (.index sz len n x i)
      | _, _ => none
    | some .string, some x, some i => some (.strIdx x i)
    | _, _, _ => none
  | .extract x i => (trX x).map fun x => .extract x i
  | .nilCheck x => (trX x).map .nilCheck
  | .makeFunc (.func f) fst caps => match fst.toList with
    | [] => (listM trX caps.toList).map (.mkFn f)
    | [x] => if caps.isEmpty then (trX x).map (.mkFnM f) else none
    | _ => none
  | .makeMap t r => match r with
    | none => match mapB P t with
      | some (ag, _) => some (.mkMap ag)
      | none => match mapC P t with
        | some (ag, _) => some (.mkMapC ag none)
        | none => none
    | some r => match mapC P t, trX r with
      | some (ag, _), some r => some (.mkMapC ag (some r))
      | _, _ => none
  | .range t x => match mapB P t, trX x with
    | some _, some x => some (.rangeM x)
    | _, _ => none
  | .entry x => (trX x).map .entry
  | .next x false => match trX x with
    | some x => some (.next x)
    | none => none
  | .lookup t x k ok => match mapB P t, trX x, trX k with
    | some (ag, z), some x, some k => some (.lookup ok ag z x k)
    | none, some x, some k => match mapC P t, ok with
      | some (ag, z), false => some (.lookupC ag z x k)
      | _, _ => none
    | _, _, _ => none
  | .mapUpdate t m k v => match mapB P t, trX m, trX k, trX v with
    | some _, some m, some k, some v => some (.mapSet m k v)
    | none, some m, some k, some v => match mapC P t with
      | some _ => some (.mapSetC m k v)
      | none => none
    | _, _, _, _ => none
  | .mapEntry t m k => match mapC P t, trX m, trX k with
    | some (ag, z), some m, some k => some (.mapEntry ag z m k)
    | _, _, _ => none
  | .entryStore t m st v => match mapC P t, trX m, trX st, trX v with
    | some _, some m, some st, some v => some (.entryStore m st v)
    | _, _, _, _ => none
  | .call c => match listM trX c.args.toList with
    | none => none
    | some args => match c.callee with
      | .value (.func f) => match P.funcs[f]? with
        | some fn => if fn.body.isSome ∧ fn.name ≠ "runtime.NumGoroutine" then some (.call f args) else none
        | none => none
      | .value x => (trX x).map fun x => .callv x args
      | .builtin .len => match c.argTypes[0]?.bind P.underlying, args with
        | some (.slice _), [x] => some (.len false x)
        | some .string, [x] => some (.len true x)
        | some (.map _ _), [x] => some (.lenM x)
        | some (.array n _), [_] => some (.mv (.k (.c (.t (.int .i64 n)))))
        | _, _ => none
      | .builtin .cap => match c.argTypes[0]?.bind P.underlying, args with
        | some (.slice _), [x] => some (.cap x)
        | _, _ => none
      | .builtin .max => match args with
        | [x, y] => some (.minmax true x y)
        | _ => none
      | .builtin .min => match args with
        | [x, y] => some (.minmax false x y)
        | _ => none
      | .builtin .append => match c.argTypes[0]?.bind P.underlying, c.argTypes[1]?.bind P.underlying, args with
        | some (.slice e), some t2, [x, y] => match t2, sizeB P e, bytesB P e, zeroD P e with
          | .slice _, some sz, some by_, some z => if 0 < sz ∧ z.length = sz then some (.append sz by_ z x y) else none
          | .string, some sz, some by_, some z => if sz = 1 ∧ z.length = sz then some (.append sz by_ z x y) else none
          | .int _, some sz, some by_, some z => if 0 < sz ∧ z.length = sz then some (.appendZ sz by_ z x y) else none
          | _, _, _, _ => none
        | _, _, _ => none
      | .builtin .copy => match c.argTypes[0]?.bind P.underlying, args with
        | some (.slice e), [x, y] => match sizeB P e with
          | some sz => if 0 < sz then some (.copy sz x y) else none
          | none => none
        | _, _ => none
      | .builtin .clear => match c.argTypes[0]?.bind P.underlying, args with
        | some (.slice e), [x] => match sizeB P e, zeroD P e with
          | some sz, some z => if 0 < sz ∧ z.length = sz then some (.clear sz z x) else none
          | _, _ => none
        | _, _ => none
      | .builtin .delete => match c.argTypes[0]?.bind (mapB P), args with
        | some _, [m, k] => some (.delete m k)
        | _, _ => none
      | _ => none
  | _ => none
def dstB (N : Nat) : Option Nat → Bool
  | some d => decide (d < N)
  | none => true
def trO (P : Program) (N : Nat) (ops : Array Oper) (o : Oper) : Option AO :=
  match trOp P o with
  | none => none
  | some a => if dstB N o.dst = true then
      match o.guard with
      | none => some ⟨o.dst, a, none⟩
      | some (j, want) => match (ops[j]?).bind (·.dst) with
        | some t => some ⟨o.dst, a, some (t, want)⟩
        | none => none
    else none
/-- The temporaries that are asked are those that the edges go by. -/
def lookB (ops : Array Oper) (l : List AO) : Bool := (List.range l.length).all fun k => match l[k]? with
  | some o => o.op.ts.all (fun t => (looksOf ops k).contains t) && (match o.grd with | some (t, _) => (looksOf ops k).contains t | none => true)
  | none => true
def hasPanic : List Oper → Bool
  | [] => false
  | ⟨_, .panic _, _, _, _, _⟩ :: _ => true
  | _ :: l => hasPanic l
def trC (P : Program) (N : Nat) : Code → Option AC
  | .skip => some .skip
  | .region _ ops draw => match listM (trO P N ops) ops.toList with
    | none => if hasPanic ops.toList then some .bad else none
    | some l => if draw then (if relB ops ops.size N [] && lookB ops l && P.follows .mixedOrders then some (.region l (some ((List.range ops.size).map (upon ops)))) else none) else some (.region l none)
  | .seq a b => match trC P N a, trC P N b with
    | some a, some b => some (.seq a b)
    | _, _ => none
  | .cond c a b => match trX c, trC P N a, trC P N b with
    | some c, some a, some b => some (.cond c a b)
    | _, _, _ => none
  | .block id a => (trC P N a).map (.block id)
  | .loop a => (trC P N a).map .loop
  | .exit id => some (.exit id)
  | .ret => some .ret
  | .scope a => (trC P N a).map .scope
  | .label _ => some .skip
  | _ => none
def trR (P : Program) : ResultVar → Option AR
  | .tmp t => some (.tmp t)
  | .cell a t => (cellsB P t).map (.cell a)
def trF (P : Program) (f : Func) : Option AF :=
  match f.body with
  | none => none
  | some c => match trC P f.ntmps c, listM (trR P) f.results.toList with
    | some b, some r => if f.params.size + f.nfree ≤ f.ntmps then some ⟨f.params.size + f.nfree, f.ntmps, b, r⟩ else none
    | _, _ => none
/-- The function as it is told. -/
def FnAt (P : Program) (f : FuncId) (af : AF) : Prop := ∃ fn, P.funcs[f]? = some fn ∧ trF P fn = some af ∧ (fn.name == "runtime.NumGoroutine") = false
theorem FnAt.mk {P : Program} {f : FuncId} {af : AF} {fn : Func} (h1 : P.funcs[f]? = some fn) (h2 : trF P fn = some af) (h3 : (fn.name == "runtime.NumGoroutine") = false) : FnAt P f af := ⟨fn, h1, h2, h3⟩
end Go.Proofs.YthddlkhfkncgpaaGreat
namespace Go.Proofs.YthddlkhfkncgpaaGreat.Ab
open Go.RowKit

abbrev t (n : Nat) : AX := .tmp n
abbrev i (n : Int) : AX := .k (.c (.t (.int .i64 n)))
abbrev bo (b : Bool) : AX := .k (.c (.t (.bool b)))
abbrev a (d : Nat) (o : AOp) : AO := ⟨some d, o, none⟩
abbrev a_ (o : AOp) : AO := ⟨none, o, none⟩
abbrev g (d t : Nat) (b : Bool) (o : AOp) : AO := ⟨some d, o, some (t, b)⟩
abbrev g_ (t : Nat) (b : Bool) (o : AOp) : AO := ⟨none, o, some (t, b)⟩
end Go.Proofs.YthddlkhfkncgpaaGreat.Ab
set_option linter.unusedVariables false
set_option linter.unusedSimpArgs false
namespace Go.Proofs.YthddlkhfkncgpaaGreat
open Go.RowKit

/-- What is to be known of a type. -/
inductive TK where
  | st (fs : List (Nat × Nat × Option Nat)) (fl : List LK)
  | arr (len e : Nat)
  | sl (e : Nat)
  | pt
  | int (k : IntKind)
  | str
  | bool
  | mp (e : Nat)
  | mc (e : Nat)
  | fn
  | o
structure TI where
  k : TK
  sz : Nat
  by_ : Nat
  z : List C
abbrev Tb := List TI
def TI.cells (x : TI) : Option Nat := match x.k with
  | .st _ _ => some x.sz
  | .arr _ _ => some x.sz
  | _ => none
section
variable {R : Type}
def TI.cut {β : Type} (x : TI) (k : TK → Nat → Nat → List C → β) : β := match x with | ⟨a, b, c, d⟩ => k a b c d
def TI.cel {β : Type} (x : TI) (k : Option Nat → β) : β := match x with
  | ⟨.st _ _, n, _, _⟩ => k (some n)
  | ⟨.arr _ _, n, _, _⟩ => k (some n)
  | _ => k none
def kAt {α : Type} : List α → Nat → (α → Option R) → Option R
  | [], _, _ => none
  | x :: _, 0, k => k x
  | _ :: l, n + 1, k => kAt l n k
def kL {α β : Type} (f : α → (β → Option R) → Option R) : List α → (List β → Option R) → Option R
  | [], k => k []
  | x :: l, k => f x fun y => kL f l fun r => k (y :: r)
def kD : Value → (D → Option R) → Option R
  | .int q n, k => k (.int q n)
  | .bool b, k => k (.bool b)
  | .string s, k => k (.str s)
  | .slice none 0 0, k => k .nil
  | _, _ => none
def kCv : Value → (C → Option R) → Option R
  | .pointer none, k => k .nilp
  | .map none, k => k .nilm
  | .nilFunc, k => k .nilf
  | v, k => kD v fun d => k (.t d)
def kE : Value → (E → Option R) → Option R
  | .agg cs, k => kL kCv cs.toList fun l => k (.agg l)
  | v, k => kCv v fun c => k (.c c)
def kX : Operand → (AX → Option R) → Option R
  | .tmp t, k => k (.tmp t)
  | .const v, k => kE v fun e => k (.k e)
  | .func f, k => k (.k (.c (.fn f [])))
  | .global _, _ => none
def kXo : Option Operand → (Option AX → Option R) → Option R
  | none, k => k none
  | some x, k => kX x fun y => k (some y)
def kZd : List C → (List D → Option R) → Option R
  | [], k => k []
  | .t d :: l, k => kZd l fun r => k (d :: r)
  | _ :: _, _ => none
def kMp (tb : Tb) (t : Nat) (k : Bool → List D → Option R) : Option R := kAt tb t fun i => match i.k with
  | .mp e => kAt tb e fun j => j.cut fun _ _ _ z => kZd z fun z => j.cel fun c => match c with
    | some _ => k true z
    | none => k false z
  | _ => none
def kMc (tb : Tb) (t : Nat) (k : Bool → List D → Option R) : Option R := kAt tb t fun i => match i.k with
  | .mc e => kAt tb e fun j => j.cut fun _ _ _ z => kZd z fun z => j.cel fun c => match c with
    | some _ => k true z
    | none => k false z
  | _ => none
def kDup {α : Type} (x : α) : Nat → (List α → Option R) → Option R
  | 0, k => k []
  | n + 1, k => kDup x n fun r => k (x :: r)
def kOp (tb : Tb) (o : Op) (k : AOp → Option R) : Option R :=
  match o with
  | .move x => kX x fun x => k (.mv x)
  | .assign x => kX x fun x => k (.mv x)
  | .pick c a b => kX c fun c => kX a fun a => kX b fun b => k (.pick c a b)
  | .box _ x => kX x fun x => k (.box x)
  | .alloc t => kAt tb t fun i => i.cut fun _ _ _ z => k (.alloc z)
  | .build t parts => kAt tb t fun i => i.cut fun q _ _ z => match q with
    | .st fs _ => kL (fun (p : Nat × Operand) k => match p with | (a, b) => kAt fs a fun f => match f with | (f1, f2, _) => kX b fun x => k (f1, f2, x)) parts.toList fun ps => k (.build z ps)
    | .arr _ e => kAt tb e fun j => j.cut fun _ n _ _ => kL (fun (p : Nat × Operand) k => match p with | (a, b) => kX b fun x => k (a * n, n, x)) parts.toList fun ps => k (.build z ps)
    | _ => none
  | .buildSlice t len parts => kAt tb t fun i => match i.k with
    | .sl e => kAt tb e fun j => j.cut fun _ n _ z => kZd z fun z => kL (fun (p : Nat × Operand) k => match p with | (a, b) => kX b fun x => k (a, x)) parts.toList fun ps => k (.mkList false n len z ps)
    | _ => none
  | .load t x => kAt tb t fun i => kX x fun x => i.cel fun c => k (.load c x)
  | .store t a x => kAt tb t fun i => kX a fun a => kX x fun x => i.cut fun _ n _ _ => k (.store n a x)
  | .binOp op t x y _ => kX x fun x => kX y fun y => kAt tb t fun i => match i.k with
    | .st _ ks => match op with
      | .eql => k (.eqAgg false ks x y)
      | .neq => k (.eqAgg true ks x y)
      | _ => none
    | .arr n _ => match op with
      | .eql => kDup LK.int n fun ks => k (.eqAgg false ks x y)
      | .neq => kDup LK.int n fun ks => k (.eqAgg true ks x y)
      | _ => none
    | .pt => match op with
      | .eql => k (.eqPtr false x y)
      | .neq => k (.eqPtr true x y)
      | _ => none
    | .int _ => k (.bin op x y)
    | .str => k (.bin op x y)
    | .bool => match op with
      | .eql => k (.binB false x y)
      | .neq => k (.binB true x y)
      | _ => none
    | .sl _ => match op with
      | .eql => k (.eqNil false x)
      | .neq => k (.eqNil true x)
      | _ => none
    | .fn => match op with
      | .eql => k (.eqFn false x)
      | .neq => k (.eqFn true x)
      | _ => none
    | _ => none
  | .unOp op _ x => kX x fun x => k (.un op x)
  | .convert s t x => kX x fun x => kAt tb s fun i => kAt tb t fun j => match i.k with
    | .int _ => match j.k with
      | .int q => k (.conv q x)
      | _ => none
    | .str => k (.same x)
    | .sl _ => k (.bstr x)
    | _ => none
  | .makeSlice t l c => kAt tb t fun i => match i.k with
    | .sl e => kAt tb e fun j => j.cut fun _ n b z => kZd z fun z => kX l fun l => kX c fun c => k (.mkSlice n b z l c)
    | _ => none
  | .slice t x lo hi mx => kAt tb t fun i => kX x fun x => kXo lo fun lo => kXo hi fun hi => match i.k with
    | .sl e => kAt tb e fun j => match mx with
      | none => j.cut fun _ n _ _ => k (.slice n x lo hi)
      | some _ => k (.clip x)
    | .str => k (.sliceS x lo hi)
    | .arr n _ => k (.sliceA n x lo hi)
    | _ => none
  | .fieldAddr t x f => kAt tb t fun i => kX x fun x => match i.k with
    | .st fs _ => kAt fs f fun f => match f with | (f1, _, _) => k (.fieldAddr f1 x)
    | _ => none
  | .field t x f => kAt tb t fun i => kX x fun x => match i.k with
    | .st fs _ => kAt fs f fun f => match f with | (f1, _, f3) => k (.field f1 f3 x)
    | _ => none
  | .indexAddr t x y => kAt tb t fun i => kX x fun x => kX y fun y => match i.k with
    | .sl e => kAt tb e fun j => j.cut fun _ n _ _ => k (.idxAddr n x y)
    | .arr n e => kAt tb e fun j => j.cut fun _ m _ _ => k (.idxArr m n x y)
    | _ => none
  | .index t x y => kAt tb t fun i => kX x fun x => kX y fun y => match i.k with
    | .arr n e => kAt tb e fun j => j.cut fun _ m _ _ => j.cel fun c => k (.index m n c x y)
    | .str => k (.strIdx x y)
    | _ => none
  | .extract x i => kX x fun x => k (.extract x i)
  | .nilCheck x => kX x fun x => k (.nilCheck x)
  | .makeFunc (.func f) fst caps => match fst.toList with
    | [] => kL kX caps.toList fun l => k (.mkFn f l)
    | x :: _ => kX x fun x => k (.mkFnM f x)
  | .makeMap t r => kAt tb t fun i => match i.k with
    | .mc _ => kMc tb t fun ag _ => kXo r fun r => k (.mkMapC ag r)
    | _ => kMp tb t fun ag _ => k (.mkMap ag)
  | .range t x => kMp tb t fun _ _ => kX x fun x => k (.rangeM x)
  | .entry x => kX x fun x => k (.entry x)
  | .next x false => kX x fun x => k (.next x)
  | .lookup t x y ok => kAt tb t fun i => match i.k with
    | .mc _ => kMc tb t fun ag z => kX x fun x => kX y fun y => k (.lookupC ag z x y)
    | _ => kMp tb t fun ag z => kX x fun x => kX y fun y => k (.lookup ok ag z x y)
  | .mapUpdate t m x y => kAt tb t fun i => kX m fun m => kX x fun x => kX y fun y => match i.k with
    | .mc _ => k (.mapSetC m x y)
    | _ => k (.mapSet m x y)
  | .mapEntry t m x => kMc tb t fun ag z => kX m fun m => kX x fun x => k (.mapEntry ag z m x)
  | .entryStore _ m x y => kX m fun m => kX x fun x => kX y fun y => k (.entryStore m x y)
  | .call c => kL kX c.args.toList fun args => match c.callee with
    | .value (.func f) => k (.call f args)
    | .value x => kX x fun x => k (.callv x args)
    | .builtin .len => match c.argTypes.toList, args with
      | [t], [x] => kAt tb t fun i => match i.k with
        | .sl _ => k (.len false x)
        | .str => k (.len true x)
        | .mp _ => k (.lenM x)
        | .mc _ => k (.lenM x)
        | .arr n _ => k (.mv (.k (.c (.t (.int .i64 n)))))
        | _ => none
      | _, _ => none
    | .builtin .cap => match args with
      | [x] => k (.cap x)
      | _ => none
    | .builtin .max => match args with
      | [x, y] => k (.minmax true x y)
      | _ => none
    | .builtin .min => match args with
      | [x, y] => k (.minmax false x y)
      | _ => none
    | .builtin .append => match c.argTypes.toList, args with
      | t :: u :: _, [x, y] => kAt tb t fun i => kAt tb u fun j => match i.k with
        | .sl e => kAt tb e fun q => q.cut fun _ n b z => kZd z fun z => match j.k with
          | .int _ => k (.appendZ n b z x y)
          | _ => k (.append n b z x y)
        | _ => none
      | _, _ => none
    | .builtin .copy => match c.argTypes.toList, args with
      | t :: _, [x, y] => kAt tb t fun i => match i.k with
        | .sl e => kAt tb e fun q => q.cut fun _ n _ _ => k (.copy n x y)
        | _ => none
      | _, _ => none
    | .builtin .clear => match c.argTypes.toList, args with
      | t :: _, [x] => kAt tb t fun i => match i.k with
        | .sl e => kAt tb e fun q => q.cut fun _ n _ z => kZd z fun z => k (.clear n z x)
        | _ => none
      | _, _ => none
    | .builtin .delete => match args with
      | [m, x] => k (.delete m x)
      | _ => none
    | _ => none
  | _ => none
def kO (tb : Tb) (ops : Array Oper) (o : Oper) (k : AO → Option R) : Option R := match o with
  | ⟨d, op, _, _, _, g⟩ => kOp tb op fun x => match g with
    | none => k ⟨d, x, none⟩
    | some (j, b) => kAt ops.toList j fun q => match q with
      | ⟨some t, _, _, _, _, _⟩ => k ⟨d, x, some (t, b)⟩
      | _ => none
def nTab : List Nat := [0, 1, 2, 3, 4, 5, 6, 7, 8, 9, 10, 11, 12, 13, 14, 15, 16, 17, 18, 19, 20, 21, 22, 23, 24, 25, 26, 27, 28, 29, 30, 31, 32, 33, 34, 35, 36, 37, 38, 39, 40, 41, 42, 43, 44, 45, 46, 47, 48, 49, 50, 51, 52, 53, 54, 55, 56, 57, 58, 59, 60, 61, 62, 63, 64, 65, 66, 67, 68, 69, 70, 71, 72, 73, 74, 75, 76, 77, 78, 79, 80, 81, 82, 83, 84, 85, 86, 87, 88, 89, 90, 91, 92, 93, 94, 95, 96, 97, 98, 99, 100, 101, 102, 103, 104, 105, 106, 107, 108, 109, 110, 111, 112, 113, 114, 115, 116, 117, 118, 119, 120, 121, 122, 123, 124, 125, 126, 127, 128, 129, 130, 131, 132, 133, 134, 135, 136, 137, 138, 139, 140, 141, 142, 143, 144, 145, 146, 147, 148, 149, 150, 151, 152, 153, 154, 155, 156, 157, 158, 159]
def kNs : List Nat → (List Nat → Option R) → Option R
  | [], k => k []
  | n :: l, k => kAt nTab n fun n => kNs l fun r => k (n :: r)
def kUp (ops : Array Oper) : List Nat → (List (List Nat) → Option R) → Option R
  | [], k => k []
  | i :: l, k => kNs (upon ops i) fun u => kUp ops l fun r => k (u :: r)
def kC (tb : Tb) : Code → (AC → Option R) → Option R
  | .skip, k => k .skip
  | .region _ ops draw, k => match hasPanic ops.toList with
    | true => k .bad
    | false => kL (kO tb ops) ops.toList fun l => match draw with
      | true => kUp ops (List.range ops.size) fun u => k (.region l (some u))
      | false => k (.region l none)
  | .seq a b, k => kC tb a fun a => kC tb b fun b => k (.seq a b)
  | .cond c a b, k => kX c fun c => kC tb a fun a => kC tb b fun b => k (.cond c a b)
  | .block id a, k => kC tb a fun a => k (.block id a)
  | .loop a, k => kC tb a fun a => k (.loop a)
  | .exit id, k => k (.exit id)
  | .ret, k => k .ret
  | .scope a, k => kC tb a fun a => k (.scope a)
  | .label _, k => k .skip
  | _, _ => none
def kR (tb : Tb) : ResultVar → (AR → Option R) → Option R
  | .tmp t, k => k (.tmp t)
  | .cell a t, k => kAt tb t fun i => i.cel fun c => k (.cell a c)
end
def kF (tb : Tb) (f : Func) (np N : Nat) : Option AF := match f.body with
  | none => none
  | some c => kC tb c fun b => kL (kR tb) f.results.toList fun r => some ⟨np, N, b, r⟩
end Go.Proofs.YthddlkhfkncgpaaGreat
