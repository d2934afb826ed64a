/-
  What each operation yields of data, cells and objects (aop).
  What aop says is so: operations that leave memory alone.
  What aop says is so: operations on values.
  What aop says is so: fields, indexes, slices, lengths.
  What aop says is so: structs held against each other, structs built.
  What aop says is so: structs built, memory made.
  What aop says is so: memory made.
  What aop says is so: boxes, lists, maps made.
  What aop says is so: memory read and written.
-/
import Derived.Test.YthddlkhfkncgpaaGreatKA
set_option linter.unusedVariables false
set_option linter.unusedSimpArgs false
namespace Go.Proofs.YthddlkhfkncgpaaGreat
open Go.RowKit

abbrev Env := List (Nat × V)
def get : Env → Nat → Option V
  | [], _ => none
  | (k, v) :: r, t => bif Nat.beq k t then some v else get r t
def ev (ρ : Env) : AX → Option V
  | .tmp t => get ρ t
  | .k e => some (.e e)
def evs (ρ : Env) : List AX → Option (List V)
  | [] => some []
  | x :: l => match ev ρ x, evs ρ l with
    | some v, some r => some (v :: r)
    | _, _ => none
abbrev vC (c : C) : V := .e (.c c)
abbrev vD (d : D) : V := .e (.c (.t d))
abbrev vI (k : IntKind) (n : Int) : V := .e (.c (.t (.int k n)))
abbrev vB (b : Bool) : V := .e (.c (.t (.bool b)))
abbrev vL (sz n : Nat) (rows : List (List D)) : V := .e (.c (.t (.ls sz n rows)))
abbrev vA (cs : List C) : V := .e (.agg cs)
@[reducible] def E.cells : E → List C
  | .c x => [x]
  | .agg cs => cs
def unT : List C → Option (List D)
  | [] => some []
  | .t d :: l => match unT l with
    | some r => some (d :: r)
    | none => none
  | _ :: _ => none
/-- Cells put into a row from a place on. -/
def putAt {α : Type} : List α → Nat → List α → List α
  | cs, off, [] => cs
  | cs, off, x :: xs => putAt (cs.set off x) (off + 1) xs
def hx (h : List Ob) (i : Nat) : Ob := h.getD i .dead
abbrev PR := Option (Prop × Res)
def ret (v : V) : PR := some (True, { v := v })
def bin (op : BinOp) : V → V → Option (Prop × V)
  | .e (.c (.t (.int k a))), .e (.c (.t (.int k' b))) =>
    match op with
    | .shl => some (0 ≤ b, vI k (k.wrap (a * 2 ^ (min b.toNat k.bits))))
    | .shr => some (0 ≤ b, vI k (a.fdiv (2 ^ (min b.toNat k.bits))))
    | op => bif decide (k = k') then
      match op with
      | .add => some (True, vI k (k.wrap (a + b)))
      | .sub => some (True, vI k (k.wrap (a - b)))
      | .mul => some (True, vI k (k.wrap (a * b)))
      | .quo => some (b ≠ 0, vI k (k.wrap (a.tdiv b)))
      | .rem => some (b ≠ 0, vI k (a.tmod b))
      | .and => some (True, vI k (k.wrap (BitVec.ofInt k.bits a &&& BitVec.ofInt k.bits b).toNat))
      | .or => some (True, vI k (k.wrap (BitVec.ofInt k.bits a ||| BitVec.ofInt k.bits b).toNat))
      | .xor => some (True, vI k (k.wrap (BitVec.ofInt k.bits a ^^^ BitVec.ofInt k.bits b).toNat))
      | .andNot => some (True, vI k (k.wrap (BitVec.ofInt k.bits a &&& ~~~ BitVec.ofInt k.bits b).toNat))
      | .eql => some (True, vB (a == b))
      | .neq => some (True, vB (a != b))
      | .lss => some (True, vB (decide (a < b)))
      | .leq => some (True, vB (decide (a ≤ b)))
      | .gtr => some (True, vB (decide (b < a)))
      | .geq => some (True, vB (decide (b ≤ a)))
      | _ => none
      else none
  | .e (.c (.t (.str a))), .e (.c (.t (.str b))) =>
    match op with
    | .add => some (a.size + b.size ≤ 9223372036854775807, vD (.str (a ++ b)))
    | .eql => some (True, vB (a.toList == b.toList))
    | .neq => some (True, vB (!(a.toList == b.toList)))
    | _ => none
  | _, _ => none
def eqD : LK → D → D → Option Bool
  | .int, .int k a, .int k' b => bif decide (k = k') then some (a == b) else none
  | .bool, .bool a, .bool b => some (a == b)
  | .str, .str a, .str b => some (a.toList == b.toList)
  | _, _, _ => none
def eqCs : List LK → List C → List C → Option Bool
  | [], [], [] => some true
  | k :: ks, .t a :: x, .t b :: y => match eqD k a b, eqCs ks x y with
    | some p, some q => some (p && q)
    | _, _ => none
  | _, _, _ => none
def fillC (zero : List C) : List (Nat × Nat × E) → Option (Prop × List C)
  | [] => some (True, zero)
  | (off, n, e) :: r => match fillC (putAt zero off e.cells) r with
    | some (p, cs) => some ((e.cells.length = n ∧ off + n ≤ zero.length) ∧ p, cs)
    | none => none
def evP (ρ : Env) : List (Nat × Nat × AX) → Option (List (Nat × Nat × E))
  | [] => some []
  | (off, n, x) :: r => match ev ρ x, evP ρ r with
    | some (.e e), some l => some ((off, n, e) :: l)
    | _, _ => none
def fillR (sz : Nat) (rows : List (List D)) (ρ : Env) : List (Nat × AX) → Option (Prop × List (List D))
  | [] => some (True, rows)
  | (i, x) :: r => match ev ρ x with
    | some (.e e) => match unT e.cells with
      | some ds => match fillR sz (rows.set i ds) ρ r with
        | some (p, rs) => some ((ds.length = sz ∧ i < rows.length) ∧ p, rs)
        | none => none
      | none => none
    | _ => none
def bndI (ρ : Env) : Option AX → Option (Option Int)
  | none => some none
  | some x => match ev ρ x with
    | some (.e (.c (.t (.int _ n)))) => some (some n)
    | _ => none
/-- What a slice shows: its elements, those behind it that are known too, and the object that is asked. -/
def shows (h : List Ob) : V → Option (Nat × Nat × List (List D) × List Nat)
  | .e (.c (.t .nil)) => some (0, 0, [], [])
  | .e (.c (.t (.ls sz n rows))) => some (sz, n, rows, [])
  | .e (.c (.sl id off n)) => match hx h id with
    | .arr sz rows => some (sz, n, rows.drop off, [id])
    | _ => none
  | .e (.c (.t (.str s))) => some (1, s.size, s.data.toList.map (fun b => [.int .u8 (b.toNat : Int)]), [])
  | _ => none
def natLen : V → Option Nat
  | .e (.c (.t .nil)) => some 0
  | .e (.c (.t (.ls _ n _))) => some n
  | .e (.c (.t (.str s))) => some s.size
  | .e (.c (.sl _ _ n)) => some n
  | _ => none
def isStr : V → Bool
  | .e (.c (.t (.str _))) => true
  | _ => false
def sub1 (cs : List C) (off : Nat) : Option Nat → Option (Prop × V)
  | none => match cs[off]? with
    | some c => some (True, vC c)
    | none => none
  | some n => bif Nat.beq off 0 && Nat.beq n cs.length then some (True, vA cs) else some (off + n ≤ cs.length, vA ((cs.drop off).take n))
/-- Maps: where a key stands; what stands there; with a key set; without one. -/
def Mp.at (m : Mp) (k : Int) : Nat := m.es.findIdx fun e => e.2.1 == k
def Mp.get (m : Mp) (k : Int) : Option (List D) := (m.es[m.at k]?).map (·.2.2)
def Mp.set (m : Mp) (k : Int) (ds : List D) : Mp := if m.at k < m.es.length then ⟨m.ck, m.es.modify (m.at k) fun e => (e.1, e.2.1, ds)⟩ else ⟨m.ck + 1, m.es ++ [(m.ck, k, ds)]⟩
def Mp.del (m : Mp) (k : Int) : Mp := ⟨m.ck, m.es.eraseIdx (m.at k)⟩
def Cm.at (m : Cm) (k : Int × Int) : Nat := m.es.findIdx fun e => e.2.1 == k
def Cm.get (m : Cm) (k : Int × Int) : Option MV := (m.es[m.at k]?).map (·.2.2)
def Cm.st (m : Cm) (j : Nat) : Nat := ((m.es[j]?).map (·.1)).getD 0
def Cm.idx (m : Cm) (st : Int) : Nat := m.es.findIdx fun e => (e.1 : Int) == st
def Cm.put (m : Cm) (j : Nat) (v : MV) : Cm := ⟨m.ck, m.es.modify j fun e => (e.1, e.2.1, v)⟩
def Cm.new (m : Cm) (k : Int × Int) (v : MV) : Cm := ⟨m.ck + 1, m.es ++ [(m.ck, k, v)]⟩
def Cm.set (m : Cm) (k : Int × Int) (v : MV) : Cm := if m.at k < m.es.length then m.put (m.at k) v else m.new k v
/-- The cells of a value that a map may bear. -/
def agD : Bool → E → Option (List D)
  | true, .agg cs => unT cs
  | false, .c (.t d) => some [d]
  | _, _ => none
def aop (op : AOp) (ρ : Env) (h : List Ob) : PR :=
  match op with
  | .mv x => match ev ρ x with
    | some v => ret v
    | none => none
  | .pick c a b => match ev ρ c, ev ρ a, ev ρ b with
    | some (.e (.c (.t (.bool c)))), some (.e (.c (.t (.bool a)))), some (.e (.c (.t (.bool b)))) => ret (vB (bif c then a else b))
    | some (.e (.c (.t (.bool c)))), some va, some vb => ret (bif c then va else vb)
    | _, _, _ => none
  | .box x => match ev ρ x with
    | some (.e e) => some (True, { v := vC (.ptr h.length 0), nw := [.box e.cells] })
    | _ => none
  | .alloc cs => some (True, { v := vC (.ptr h.length 0), nw := [.box cs] })
  | .build zero parts => match evP ρ parts with
    | some ps => match fillC zero ps with
      | some (p, cs) => some (p, { v := vA cs })
      | none => none
    | none => none
  | .mkList m sz n zero parts => match fillR sz (List.replicate n zero) ρ parts with
    | some (p, rows) => bif m then some (p, { v := vC (.sl h.length 0 n), nw := [.arr sz rows] }) else some (p, { v := vL sz n rows })
    | none => none
  | .load n x => match ev ρ x with
    | some (.e (.c (.ptr id off))) => match hx h id with
      | .box cs => match sub1 cs off n with
        | some (p, v) => some (p, { v := v, rd := [id] })
        | none => none
      | _ => none
    | some (.e (.c (.im ds))) => match n with
      | none => match ds with
        | d :: _ => ret (vD d)
        | [] => none
      | some n => some (n ≤ ds.length, { v := vA ((ds.take n).map .t) })
    | _ => none
  | .store n a x => match ev ρ a, ev ρ x with
    | some (.e (.c (.ptr id off))), some (.e e) => match hx h id with
      | .box cs => some (e.cells.length = n ∧ off + n ≤ cs.length, { v := .u, wr := [(id, .box (putAt cs off e.cells))], rd := [id] })
      | _ => none
    | some (.e (.c (.el id i k))), some (.e e) => match hx h id, unT e.cells with
      | .arr sz rows, some ds => some (ds.length = n ∧ i < rows.length ∧ k + n ≤ sz, { v := .u, wr := [(id, .arr sz (rows.modify i fun r => putAt r k ds))], rd := [id] })
      | _, _ => none
    | _, _ => none
  | .bin op x y => match ev ρ x, ev ρ y with
    | some x, some y => match bin op x y with
      | some (p, v) => some (p, { v := v })
      | none => none
    | _, _ => none
  | .binB neg x y => match ev ρ x, ev ρ y with
    | some (.e (.c (.t (.bool a)))), some (.e (.c (.t (.bool b)))) => ret (vB (bif neg then !(a == b) else a == b))
    | _, _ => none
  | .eqAgg neg ks x y => match ev ρ x, ev ρ y with
    | some (.e (.agg x)), some (.e (.agg y)) => match eqCs ks x y with
      | some b => ret (vB (bif neg then !b else b))
      | none => none
    | _, _ => none
  | .eqPtr neg x y => match ev ρ x, ev ρ y with
    | some (.e (.c .nilp)), some (.e (.c .nilp)) => ret (vB (!neg))
    | some (.e (.c (.ptr _ _))), some (.e (.c .nilp)) => ret (vB neg)
    | some (.e (.c .nilp)), some (.e (.c (.ptr _ _))) => ret (vB neg)
    | some (.e (.c (.ptr i a))), some (.e (.c (.ptr j b))) => bif Nat.beq i j && Nat.beq a b then ret (vB (!neg)) else none
    | _, _ => none
  | .un op x => match op, ev ρ x with
    | .not, some (.e (.c (.t (.bool b)))) => ret (vB (!b))
    | .neg, some (.e (.c (.t (.int k n)))) => ret (vI k (k.wrap (0 - n)))
    | _, _ => none
  | .conv k x => match ev ρ x with
    | some (.e (.c (.t (.int _ n)))) => ret (vI k (k.wrap n))
    | _ => none
  | .same x => match ev ρ x with
    | some (.e (.c (.t (.str s)))) => ret (vD (.str s))
    | _ => none
  | .bstr x => none
  | .mkSlice sz by_ zero l c => match ev ρ l, ev ρ c with
    | some (.e (.c (.t (.int .i64 l)))), some (.e (.c (.t (.int .i64 c)))) =>
      some (0 ≤ l ∧ l ≤ c ∧ c ≤ 9223372036854775807 ∧ c * (by_ : Nat) ≤ 140737488355328, { v := vC (.sl h.length 0 l.toNat), nw := [.arr sz (List.replicate l.toNat zero)] })
    | _, _ => none
  | .slice sz x lo hi => match ev ρ x, bndI ρ lo, bndI ρ hi with
    | some (.e (.c (.t .nil))), some lo, some hi => some (lo.getD 0 = 0 ∧ hi.getD 0 = 0, { v := vD .nil })
    | some (.e (.c (.t (.ls sz' n rows)))), some lo, some hi =>
      some (0 ≤ lo.getD 0 ∧ lo.getD 0 ≤ hi.getD n ∧ hi.getD n ≤ rows.length ∧ sz' = sz, { v := vL sz ((hi.getD n).toNat - (lo.getD 0).toNat) ((rows.drop (lo.getD 0).toNat).take ((hi.getD n).toNat - (lo.getD 0).toNat)) })
    | some (.e (.c (.sl id off n))), some lo, some hi => match hx h id with
      | .arr sz' rows => some (0 ≤ lo.getD 0 ∧ lo.getD 0 ≤ hi.getD n ∧ off + (hi.getD n).toNat ≤ rows.length ∧ sz' = sz, { v := vC (.sl id (off + (lo.getD 0).toNat) ((hi.getD n).toNat - (lo.getD 0).toNat)), rd := [id] })
      | _ => none
    | _, _, _ => none
  | .sliceS x lo hi => match ev ρ x, bndI ρ lo, bndI ρ hi with
    | some (.e (.c (.t (.str s)))), some lo, some hi =>
      some (0 ≤ lo.getD 0 ∧ lo.getD 0 ≤ hi.getD s.size ∧ hi.getD s.size ≤ s.size, { v := vD (.str (s.extract (lo.getD 0).toNat (hi.getD s.size).toNat)) })
    | _, _, _ => none
  | .clip x => match ev ρ x with
    | some (.e (.c (.t .nil))) => ret (vD .nil)
    | some (.e (.c (.t (.ls _ _ _)))) => ret (vD .nil)
    | some (.e (.c (.sl _ _ _))) => ret (vD .nil)
    | _ => none
  | .fieldAddr off x => match ev ρ x with
    | some (.e (.c (.ptr id o))) => ret (vC (.ptr id (o + off)))
    | some (.e (.c (.el id i k))) => ret (vC (.el id i (k + off)))
    | some (.e (.c (.im ds))) => ret (vC (.im (ds.drop off)))
    | _ => none
  | .field off n x => match ev ρ x with
    | some (.e (.agg cs)) => match sub1 cs off n with
      | some (p, v) => some (p, { v := v })
      | none => none
    | _ => none
  | .idxAddr sz x i => match ev ρ x, ev ρ i with
    | some (.e (.c (.sl id off n))), some (.e (.c (.t (.int _ i)))) => match hx h id with
      | .arr sz' _ => some (0 ≤ i ∧ i < n ∧ sz' = sz, { v := vC (.el id (off + i.toNat) 0), rd := [id] })
      | _ => none
    | _, _ => none
  | .idxArr sz len x i => match ev ρ x, ev ρ i with
    | some (.e (.c (.ptr id off))), some (.e (.c (.t (.int _ i)))) => some (0 ≤ i ∧ i < len, { v := vC (.ptr id (off + i.toNat * sz)) })
    | _, _ => none
  | .index sz len n x i => match ev ρ x, ev ρ i with
    | some (.e (.agg cs)), some (.e (.c (.t (.int _ i)))) => match sub1 cs (i.toNat * sz) n with
      | some (p, v) => some (p ∧ 0 ≤ i ∧ i < len, { v := v })
      | none => none
    | _, _ => none
  | .strIdx x i => match ev ρ x, ev ρ i with
    | some (.e (.c (.t (.str s)))), some (.e (.c (.t (.int _ i)))) => some (0 ≤ i ∧ i < s.size, { v := vI .u8 ((s[i.toNat]?.getD 0).toNat : Int) })
    | _, _ => none
  | .extract x i => match ev ρ x with
    | some (.tup es) => match es[i]? with
      | some e => ret (.e e)
      | none => none
    | _ => none
  | .len st x => bif st then (match ev ρ x with
      | some (.e (.c (.t (.str s)))) => ret (vI .i64 s.size)
      | _ => none)
    else match ev ρ x with
      | some v => bif isStr v then none else match natLen v with
        | some n => ret (vI .i64 n)
        | none => none
      | none => none
  | .minmax mx x y => match ev ρ x, ev ρ y with
    | some (.e (.c (.t (.int k a)))), some (.e (.c (.t (.int _ b)))) => ret (vI k (bif mx then (if a < b then b else a) else (if b < a then b else a)))
    | _, _ => none
  | .append sz by_ zero x y => match ev ρ x, (ev ρ y).bind (shows h) with
    | some (.e (.c (.t .nil))), some (sz', m, rows, rd) =>
      some ((m = 0 ∨ sz' = sz) ∧ m ≤ rows.length ∧ m * by_ ≤ 140737488355328 ∧ m ≤ 140737488355328, { v := vC (.sl h.length 0 m), rd := rd, nw := [.arr sz (rows.take m)] })
    | some (.e (.c (.sl id 0 n))), some (sz', m, rows, rd) => match hx h id with
      | .arr sz0 old => bif rd.contains id then none else
        some ((m = 0 ∨ sz' = sz) ∧ sz0 = sz ∧ n = old.length ∧ m ≤ rows.length ∧ (n + m) * by_ ≤ 140737488355328 ∧ n + m ≤ 140737488355328, { v := vC (.sl h.length 0 (n + m)), wr := [(id, .dead)], rd := id :: rd, nw := [.arr sz (old ++ rows.take m)] })
      | _ => none
    | _, _ => none
  | .appendZ sz by_ zero x y => match ev ρ x, ev ρ y with
    | some (.e (.c (.t .nil))), some (.e (.c (.t (.int _ m)))) =>
      some (0 ≤ m ∧ m.toNat * by_ ≤ 140737488355328 ∧ m.toNat ≤ 140737488355328, { v := vC (.sl h.length 0 m.toNat), nw := [.arr sz (List.replicate m.toNat zero)] })
    | some (.e (.c (.sl id 0 n))), some (.e (.c (.t (.int _ m)))) => match hx h id with
      | .arr sz0 old =>
        some (0 ≤ m ∧ sz0 = sz ∧ n = old.length ∧ (n + m.toNat) * by_ ≤ 140737488355328 ∧ n + m.toNat ≤ 140737488355328, { v := vC (.sl h.length 0 (n + m.toNat)), wr := [(id, .dead)], rd := [id], nw := [.arr sz (old ++ List.replicate m.toNat zero)] })
      | _ => none
    | _, _ => none
  | .copy sz x y => match ev ρ x, (ev ρ y).bind (shows h) with
    | some (.e (.c (.sl id off n))), some (sz', m, src, rd) => match hx h id with
      | .arr sz0 rows => some ((m = 0 ∨ sz' = sz) ∧ sz0 = sz ∧ off + n ≤ rows.length ∧ m ≤ src.length,
          { v := vI .i64 (min m n : Nat), wr := [(id, .arr sz (rows.take off ++ src.take (min m n) ++ rows.drop (off + min m n)))], rd := id :: rd })
      | _ => none
    | _, _ => none
  | .clear sz zero x => match ev ρ x with
    | some (.e (.c (.sl id off n))) => match hx h id with
      | .arr sz0 rows => some (sz0 = sz ∧ off + n ≤ rows.length, { v := .tup [], wr := [(id, .arr sz (rows.take off ++ List.replicate n zero ++ rows.drop (off + n)))], rd := [id] })
      | _ => none
    | _ => none
  | .mkFn f caps => match evs ρ caps with
    | some vs => match listM (fun v => match v with | .e (.c c) => some c | _ => none) vs with
      | some cs => ret (vC (.fn f cs))
      | none => none
    | none => none
  | .nilCheck x => match ev ρ x with
    | some (.e (.c (.ptr id off))) => ret (vC (.ptr id off))
    | some (.e (.c (.el id i k))) => ret (vC (.el id i k))
    | some (.e (.c (.im ds))) => ret (vC (.im ds))
    | some (.e (.c (.fn f cs))) => ret (vC (.fn f cs))
    | some (.e (.c (.bm f id off))) => ret (vC (.bm f id off))
    | _ => none
  | .mkMap ag => some (True, { v := vC (.mp h.length), nw := [.mp ag ⟨0, []⟩] })
  | .lenM x => match ev ρ x with
    | some (.e (.c (.mp id))) => match hx h id with
      | .mp _ m => some (True, { v := vI .i64 m.es.length, rd := [id] })
      | .cm _ m _ => some (True, { v := vI .i64 m.es.length, rd := [id] })
      | _ => none
    | _ => none
  | .mapSet x k v => match ev ρ x, ev ρ k, ev ρ v with
    | some (.e (.c (.mp id))), some (.e (.c (.t (.int .i64 n)))), some (.e v) => match hx h id with
      | .mp ag m => match agD ag v with
        | some ds => some (True, { v := .u, wr := [(id, .mp ag (m.set n ds))], rd := [id] })
        | none => none
      | _ => none
    | _, _, _ => none
  | .delete x k => match ev ρ x, ev ρ k with
    | some (.e (.c (.mp id))), some (.e (.c (.t (.int .i64 n)))) => match hx h id with
      | .mp ag m => some (True, { v := .tup [], wr := [(id, .mp ag (m.del n))], rd := [id] })
      | _ => none
    | _, _ => none
  | .rangeM x => match ev ρ x with
    | some (.e (.c (.mp id))) => match hx h id with
      | .mp ag m => some (True, { v := vC (.ptr h.length 0), rd := [id], nw := [.it id m.ck [] m.ck] })
      | _ => none
    | _ => none
  | .mkFnM f x => match ev ρ x with
    | some (.e (.c (.ptr id off))) => ret (vC (.bm f id off))
    | _ => none
  | .mkMapC ag r => match r with
    | none => some (True, { v := vC (.mp h.length), nw := [.cm ag ⟨0, []⟩ none] })
    | some x => match ev ρ x with
      | some (.e (.c (.t (.int _ _)))) => some (True, { v := vC (.mp h.length), nw := [.cm ag ⟨0, []⟩ none] })
      | _ => none
  | .lookupC ag z x k => match ev ρ x, ev ρ k with
    | some (.e (.c (.mp id))), some (.e (.agg [.t (.int .i64 a), .t (.int .i64 b)])) => match hx h id with
      | .cm ag' m (some (j, lid, n)) => some (m.at (a, b) = j ∧ j < m.es.length ∧ ag' = ag, { v := vC (.sl lid 0 n), rd := [id] })
      | _ => none
    | _, _ => none
  | .mapSetC x k v => match ev ρ x, ev ρ k, ev ρ v with
    | some (.e (.c (.mp id))), some (.e (.agg [.t (.int .i64 a), .t (.int .i64 b)])), some (.e v) => match hx h id with
      | .cm ag m none => match agD ag v with
        | some ds => some (True, { v := .u, wr := [(id, .cm ag (m.set (a, b) (.o ds)) none)], rd := [id] })
        | none => none
      | _ => none
    | _, _, _ => none
  | .cap x => match ev ρ x with
    | some (.e (.c (.t .nil))) => ret (vI .i64 0)
    | _ => none
  | .eqFn neg x => match ev ρ x with
    | some (.e (.c .nilf)) => ret (vB (!neg))
    | some (.e (.c (.fn _ _))) => ret (vB neg)
    | some (.e (.c (.bm _ _ _))) => ret (vB neg)
    | _ => none
  | .sliceA n x lo hi => match ev ρ x, bndI ρ lo, bndI ρ hi with
    | some (.e (.c (.pa id m))), some lo, some hi => match hx h id with
      | .arr sz rows => some (sz = 1 ∧ m = n ∧ rows.length = n ∧ 0 ≤ lo.getD 0 ∧ lo.getD 0 ≤ hi.getD n ∧ hi.getD n ≤ n, { v := vC (.sl id (lo.getD 0).toNat ((hi.getD n).toNat - (lo.getD 0).toNat)), rd := [id] })
      | _ => none
    | _, _, _ => none
  | .mapEntry ag z x k => match ev ρ x, ev ρ k with
    | some (.e (.c (.mp id))), some (.e (.agg [.t (.int .i64 a), .t (.int .i64 b)])) => match hx h id with
      | .cm ag' m (some (j, lid, n)) => some (m.at (a, b) = j ∧ j < m.es.length ∧ ag' = ag, { v := .tup [.c (.sl lid 0 n), .c (.t (.int .i64 (m.st j)))], wr := [(id, .cm ag' m (some (j, lid, n)))], rd := [id] })
      | _ => none
    | _, _ => none
  | .entryStore x st v => match ev ρ x, ev ρ st, ev ρ v with
    | some (.e (.c (.mp id))), some (.e (.c (.t (.int .i64 b)))), some (.e (.c (.sl lid 0 n))) => match hx h id with
      | .cm false m none => some (m.idx b < m.es.length, { v := .u, wr := [(id, .cm false m (some (m.idx b, lid, n)))], rd := [id] })
      | .cm false m (some (j, _, _)) => some (m.idx b = j ∧ j < m.es.length, { v := .u, wr := [(id, .cm false m (some (j, lid, n)))], rd := [id] })
      | _ => none
    | _, _, _ => none
  | _ => none
/-- Operations that ask a list at a place that is not written out: r is what stands there. -/
def aopi (op : AOp) (ρ : Env) (h : List Ob) (r : List D) : PR :=
  match op with
  | .idxAddr sz x i => match ev ρ x, ev ρ i with
    | some (.e (.c (.t (.ls sz' n rows)))), some (.e (.c (.t (.int _ i)))) => some ((0 ≤ i ∧ i < n) ∧ sz' = sz ∧ rows[i.toNat]? = some r, { v := vC (.im r) })
    | _, _ => none
  | .load n x => match ev ρ x with
    | some (.e (.c (.el id i k))) => match hx h id with
      | .arr sz rows => match n with
        | none => match r.drop k with
          | d :: _ => some (rows[i]? = some r, { v := vD d, rd := [id] })
          | [] => none
        | some n => some (rows[i]? = some r ∧ k + n ≤ r.length, { v := vA (((r.drop k).take n).map .t), rd := [id] })
      | _ => none
    | _ => none
  | _ => none
/-- What stands in a map at a key: r. -/
def aopm (op : AOp) (ρ : Env) (h : List Ob) (r : Option (List D)) : PR := match op with
  | .lookup ok ag z x k => match ev ρ x, ev ρ k with
    | some (.e (.c (.mp id))), some (.e (.c (.t (.int .i64 n)))) => match hx h id with
      | .mp ag' m => match r with
        | some ds => some (m.get n = some ds ∧ ag' = ag, { v := bif ok then .tup [valE ag ds, .c (.t (.bool true))] else .e (valE ag ds), rd := [id] })
        | none => some (m.get n = none, { v := bif ok then .tup [valE ag z, .c (.t (.bool false))] else .e (valE ag z), rd := [id] })
      | _ => none
    | _, _ => none
  | .lookupC ag z x k => match ev ρ x, ev ρ k with
    | some (.e (.c (.mp id))), some (.e (.agg [.t (.int .i64 a), .t (.int .i64 b)])) => match hx h id with
      | .cm ag' m none => match r with
        | some ds => some (m.get (a, b) = some (.o ds) ∧ ag' = ag, { v := .e (valE ag ds), rd := [id] })
        | none => some (m.get (a, b) = none, { v := .e (valE ag z), rd := [id] })
      | _ => none
    | _, _ => none
  | .mapEntry ag z x k => match ev ρ x, ev ρ k with
    | some (.e (.c (.mp id))), some (.e (.agg [.t (.int .i64 a), .t (.int .i64 b)])) => match hx h id with
      | .cm ag' m none => match r with
        | some _ => none
        | none => some (m.get (a, b) = none ∧ ag' = ag, { v := .tup [valE ag z, .c (.t (.int .i64 m.ck))], wr := [(id, .cm ag' (m.new (a, b) (.o z)) none)], rd := [id] })
      | _ => none
    | _, _ => none
  | _ => none
/-- The entry that a walk through a map has come to. -/
def aope (op : AOp) (ρ : Env) (h : List Ob) (n : Int) (ds : List D) : PR := match op with
  | .entry x => match ev ρ x with
    | some (.e (.c (.ptr id 0))) => match hx h id with
      | .it mid since seen last => match hx h mid with
        | .mp ag m => some (m.ck = last ∧ ∃ b, seen.getLast? = some b ∧ m.es.find? (fun e => e.1 == b) = some (b, n, ds), { v := .tup [.c (.t (.int .i64 n)), valE ag ds], rd := [id, mid] })
        | _ => none
      | _ => none
    | _ => none
  | _ => none
def bytesOf (r : List Int) : ByteArray := ⟨(r.map fun n => UInt8.ofNat n.toNat).toArray⟩
/-- Bytes as a text: r is what they are. -/
def aopb (op : AOp) (ρ : Env) (h : List Ob) (r : List Int) : PR :=
  match op with
  | .bstr x => match (ev ρ x).bind (fun v => bif isStr v then none else shows h v) with
    | some (sz, m, rows, rd) => some ((m = 0 ∨ sz = 1) ∧ m ≤ rows.length ∧ rows.take m = r.map (fun n => [.int .u8 n]), { v := vD (.str (bytesOf r)), rd := rd })
    | none => none
  | _ => none
end Go.Proofs.YthddlkhfkncgpaaGreat
set_option linter.unusedVariables false
set_option linter.unusedSimpArgs false
namespace Go.Proofs.YthddlkhfkncgpaaGreat
open Go.RowKit

def EnvOn (w : World) (g : Gh) (a : Act) (ρ : Env) (ts : List Nat) : Prop := ∀ t ∈ ts, ∀ v, get ρ t = some v → RV w g (a.eval (.tmp t)) v
theorem EnvOn.sub {w : World} {g : Gh} {a : Act} {ρ : Env} {ts us : List Nat} (h : EnvOn w g a ρ ts) (hs : ∀ t ∈ us, t ∈ ts) : EnvOn w g a ρ us := fun t ht => h t (hs t ht)

theorem toD_ok {v : Value} {d : D} (h : toD v = some d) (w : World) (I : Nat → Prop) : Rd w I v d := by
  unfold toD at h
  split at h <;> simp at h <;> subst h
  · exact .int _ _
  · exact .bool _
  · exact .str _
  · exact .nil _
theorem toC_ok {v : Value} {c : C} (h : toC v = some c) (w : World) (g : Gh) : RC w g v c := by
  unfold toC at h
  split at h
  · simp at h; subst h; exact .nilp
  · simp at h; subst h; exact .nilm
  · simp at h; subst h; exact .nilf
  · cases hd : toD v with
    | none => simp [hd] at h
    | some d => simp [hd] at h; subst h; exact .t (toD_ok hd w g.I)
theorem listM_ok {α β : Type} {f : α → Option β} : ∀ {l : List α} {r : List β}, listM f l = some r → l.length = r.length ∧ ∀ (j : Nat) b, r[j]? = some b → ∃ a, l[j]? = some a ∧ f a = some b
  | [], r, h => by simp [listM] at h; subst h; simp
  | a :: l, r, h => by
    unfold listM at h
    cases hf : f a with
    | none => simp [hf] at h
    | some b =>
      cases hl : listM f l with
      | none => simp [hf, hl] at h
      | some r' =>
        simp [hf, hl] at h
        subst h
        obtain ⟨h1, h2⟩ := listM_ok hl
        refine ⟨by simp [h1], fun j b' hj => ?_⟩
        cases j with
        | zero => simp at hj; subst hj; exact ⟨a, by simp, hf⟩
        | succ j => simpa using h2 j b' (by simpa using hj)
theorem listM_fwd {α β : Type} {f : α → Option β} {l : List α} {r : List β} (h : listM f l = some r) (j : Nat) (a : α) (ha : l[j]? = some a) : ∃ b, r[j]? = some b ∧ f a = some b := by
  obtain ⟨h1, h2⟩ := listM_ok h
  have hj : j < r.length := by rw [← h1]; exact (List.getElem?_eq_some_iff.1 ha).1
  obtain ⟨a', h3, h4⟩ := h2 j r[j] (List.getElem?_eq_getElem hj)
  rw [ha] at h3
  injection h3 with h3
  exact ⟨r[j], List.getElem?_eq_getElem hj, h3 ▸ h4⟩
theorem toE_ok {v : Value} {e : E} (h : toE v = some e) (w : World) (g : Gh) : RE w g v e := by
  unfold toE at h
  split at h
  · rename_i cs
    cases hl : listM toC cs.toList with
    | none => simp [hl] at h
    | some r =>
      simp [hl] at h
      subst h
      obtain ⟨h1, h2⟩ := listM_ok hl
      refine .agg _ _ (by simpa using h1) fun j c hj => ?_
      obtain ⟨a, ha, hc⟩ := h2 j c hj
      exact ⟨a, by simpa using ha, toC_ok hc w g⟩
  · cases hc : toC v with
    | none => simp [hc] at h
    | some c => simp [hc] at h; subst h; exact .c (toC_ok hc w g)
theorem ev_ok {x : Operand} {ax : AX} (h : trX x = some ax) {w : World} {g : Gh} {a : Act} {ρ : Env} {ts : List Nat} (he : EnvOn w g a ρ ts) (hts : ∀ t ∈ ax.ts, t ∈ ts) {v : V} (hv : ev ρ ax = some v) : RV w g (a.eval x) v := by
  cases x with
  | tmp t =>
    simp [trX] at h
    subst h
    exact he t (hts t (by simp [AX.ts])) v hv
  | const u =>
    cases hc : toE u with
    | none => simp [trX, hc] at h
    | some e =>
      simp [trX, hc] at h
      subst h
      simp [ev] at hv
      subst hv
      exact .e (toE_ok hc w g)
  | func f =>
    simp [trX] at h
    subst h
    simp [ev] at hv
    subst hv
    exact .e (.c (.fn f #[] [] rfl (by simp)))
  | «global» n => simp [trX] at h

/- What a value is, that reads so. -/
section
variable {w : World} {g : Gh} {v : Value}
theorem rv_int {k : IntKind} {n : Int} (h : RV w g v (vI k n)) : v = .int k n := by cases h with | e h => cases h with | c h => cases h with | t h => cases h; rfl
theorem rv_bool {b : Bool} (h : RV w g v (vB b)) : v = .bool b := by cases h with | e h => cases h with | c h => cases h with | t h => cases h; rfl
theorem rv_str {s : ByteArray} (h : RV w g v (vD (.str s))) : v = .string s := by cases h with | e h => cases h with | c h => cases h with | t h => cases h; rfl
theorem rv_d {d : D} (h : RV w g v (vD d)) : Rd w g.I v d := by cases h with | e h => cases h with | c h => cases h with | t h => exact h
theorem rv_c {c : C} (h : RV w g v (vC c)) : RC w g v c := by cases h with | e h => cases h with | c h => exact h
theorem rv_e {e : E} (h : RV w g v (.e e)) : RE w g v e := by cases h with | e h => exact h
theorem rv_of {e : E} (h : RE w g v e) : RV w g v (.e e) := .e h
theorem rv_agg {cs : List C} (h : RV w g v (vA cs)) : ∃ arr, v = .agg arr ∧ arr.size = cs.length ∧ ∀ (j : Nat) c, cs[j]? = some c → ∃ u, arr[j]? = some u ∧ RC w g u c := by
  cases h with | e h => cases h with | agg arr cs hs h => exact ⟨arr, rfl, hs, h⟩
theorem re_agg {cs : List C} (h : RE w g v (.agg cs)) : ∃ arr, v = .agg arr ∧ arr.size = cs.length ∧ ∀ (j : Nat) c, cs[j]? = some c → ∃ u, arr[j]? = some u ∧ RC w g u c := by
  cases h with | agg arr cs hs h => exact ⟨arr, rfl, hs, h⟩
theorem rv_i (k : IntKind) (n : Int) : RV w g (.int k n) (vI k n) := .e (.c (.t (.int k n)))
theorem rv_b (b : Bool) : RV w g (.bool b) (vB b) := .e (.c (.t (.bool b)))
theorem rv_s (s : ByteArray) : RV w g (.string s) (vD (.str s)) := .e (.c (.t (.str s)))
theorem Rd.one {I : Nat → Prop} {d : D} (h : Rd w I v d) : v.oneCell' = true := by cases h <;> rfl
theorem RC.one {c : C} (h : RC w g v c) : v.oneCell' = true := by
  cases h with
  | t h => exact h.one
  | _ => rfl
theorem RC.cells {c : C} (h : RC w g v c) : v.cells = #[v] := by
  have := h.one
  cases v <;> first | rfl | (simp [Value.oneCell'] at this)
theorem re_cells {e : E} (h : RE w g v e) : v.cells.size = e.cells.length ∧ ∀ (j : Nat) c, e.cells[j]? = some c → ∃ u, v.cells[j]? = some u ∧ RC w g u c := by
  cases h with
  | c h =>
    rw [h.cells]
    refine ⟨rfl, fun j c hj => ?_⟩
    cases j with
    | zero => simp [E.cells] at hj; subst hj; exact ⟨v, rfl, h⟩
    | succ j => simp [E.cells] at hj
  | agg arr cs hs h => exact ⟨hs, h⟩
end

/-- What an operation does, told by a small step. -/
def OpR (P : Program) (N : Nat) (o : Oper) (ρ : Env) (ts : List Nat) (hl : List Ob) (s : Res) : Prop :=
  ∀ (a : Act) (w : World) (g : Gh) (h : Nat → Ob), a.tmps.size = N → (∀ i, i ∈ s.rd ∨ i ∈ s.ids → h i = hx hl i) → (∀ i, isNew hl.length s.nw.length i → g.μ i = none ∧ h i = .dead) → Rl w g h → EnvOn w g a ρ ts →
    o.wp P a w (fun a' w' => ∃ u g', a' = a.put o.dst u ∧ RV w' g' u s.v ∧ Rl w' g' (s.app hl.length h) ∧ Go1 w g h s.ids hl.length s.nw.length w' g' (s.app hl.length h)) (fun _ _ _ => False)

theorem Go1.refl (w : World) (g : Gh) (h : Nat → Ob) (base : Nat) : Go1 w g h [] base 0 w g h :=
  ⟨Keeps.refl _ _, Gm.refl _, fun _ h => .inl h, fun _ _ h => h, fun _ _ _ => rfl, fun i b hi => by simp [isNew] at hi; omega⟩
theorem app_none {s : Res} (hw : s.wr = []) (hn : s.nw = []) (base : Nat) (h : Nat → Ob) : s.app base h = h := by
  funext i
  simp [Res.app, hw, hn, getO]
/-- An operation of one value. -/
theorem OpR.val {P : Program} {N : Nat} {o : Oper} {ρ : Env} {ts : List Nat} {hl : List Ob} {s : Res} (hw : s.wr = []) (hn : s.nw = [])
    (h : ∀ (a : Act) (w : World) (g : Gh) (h : Nat → Ob), (∀ i, i ∈ s.rd → h i = hx hl i) → Rl w g h → EnvOn w g a ρ ts → ∃ u, (execOp a.eval o).run P w = .ok (.value u) w ∧ RV w g u s.v) : OpR P N o ρ ts hl s := by
  intro a w g hh hN hr hnew hR he
  obtain ⟨u, h1, h2⟩ := h a w g hh (fun i hi => hr i (.inl hi)) hR he
  unfold Oper.wp
  rw [h1]
  refine ⟨u, g, rfl, h2, ?_, ?_⟩
  · rw [app_none hw hn]; exact hR
  · rw [app_none hw hn]
    have : s.ids = [] := by simp [Res.ids, hw]
    rw [this, hn]
    exact Go1.refl w g hh _
theorem ret_v {v : V} {p : Prop} {s : Res} (h : ret v = some (p, s)) : s = { v := v } := by
  simp [ret] at h; exact h.2.symm

section
variable {P : Program} {N : Nat} {o : Oper} {ρ : Env} {ts : List Nat} {hl : List Ob} {p : Prop} {s : Res}

theorem s_mv {x : Operand} {ax : AX} (ho : o.op = .move x ∨ o.op = .assign x) (hx' : trX x = some ax) (hts : ∀ t ∈ ax.ts, t ∈ ts) (h : aop (.mv ax) ρ hl = some (p, s)) : OpR P N o ρ ts hl s := by
  simp only [aop] at h
  cases hv : ev ρ ax with
  | none => simp [hv] at h
  | some v =>
    simp only [hv] at h
    obtain rfl := ret_v h
    refine OpR.val rfl rfl fun a w g hh _ hR he => ⟨a.eval x, ?_, ev_ok hx' he hts hv⟩
    rcases ho with ho | ho <;> simp [execOp, ho]

theorem s_len_arr {c : Call} {n : Nat} {t e : TypeId} {x : Operand} (ho : o.op = .call c) (hc : c.callee = .builtin .len) (ht : c.argTypes[0]? = some t) (hu : P.underlying t = some (.array n e)) (hargs : c.args.toList = [x])
    (h : aop (.mv (.k (.c (.t (.int .i64 n))))) ρ hl = some (p, s)) : OpR P N o ρ ts hl s := by
  simp only [aop, ev] at h
  obtain rfl := ret_v h
  have ha : c.args = #[x] := by rw [← Array.toArray_toList (xs := c.args), hargs]
  refine OpR.val rfl rfl fun a w g hh _ hR he => ⟨.int .i64 n, ?_, rv_i _ _⟩
  simp [execOp, ho, resolve, hc, invoke, builtin, ha, Builtin.len_, ht, run_underlying hu, goInt]

theorem s_pick {c x y : Operand} {ac ax ay : AX} (ho : o.op = .pick c x y) (h1 : trX c = some ac) (h2 : trX x = some ax) (h3 : trX y = some ay) (t1 : ∀ t ∈ ac.ts, t ∈ ts) (t2 : ∀ t ∈ ax.ts, t ∈ ts) (t3 : ∀ t ∈ ay.ts, t ∈ ts)
    (h : aop (.pick ac ax ay) ρ hl = some (p, s)) : OpR P N o ρ ts hl s := by
  simp only [aop] at h
  split at h
  · rename_i b u v e1 e2 e3
    obtain rfl := ret_v h
    refine OpR.val rfl rfl fun a w g hh _ hR he => ?_
    have r1 := rv_bool (ev_ok h1 he t1 e1)
    have r2 := rv_bool (ev_ok h2 he t2 e2)
    have r3 := rv_bool (ev_ok h3 he t3 e3)
    refine ⟨.bool (bif b then u else v), ?_, rv_b _⟩
    cases b <;> simp [execOp, ho, r1, r2, r3, asBool]
  · rename_i b u0 v hno e1 e2 e3
    obtain rfl := ret_v h
    refine OpR.val rfl rfl fun a w g hh _ hR he => ?_
    have r1 := rv_bool (ev_ok h1 he t1 e1)
    have r2 := ev_ok h2 he t2 e2
    have r3 := ev_ok h3 he t3 e3
    cases b
    · exact ⟨a.eval y, by simp [execOp, ho, r1, asBool], r3⟩
    · exact ⟨a.eval x, by simp [execOp, ho, r1, asBool], r2⟩
  · cases h
end
end Go.Proofs.YthddlkhfkncgpaaGreat
set_option linter.unusedVariables false
set_option linter.unusedSimpArgs false
namespace Go.Proofs.YthddlkhfkncgpaaGreat
open Go.RowKit

section
variable {P : Program} {N : Nat} {o : Oper} {ρ : Env} {ts : List Nat} {hl : List Ob} {p : Prop} {s : Res}

theorem rv_tup {w : World} {g : Gh} {v : Value} {es : List E} (h : RV w g v (.tup es)) : ∃ arr, v = .tuple arr ∧ arr.size = es.length ∧ ∀ (j : Nat) e, es[j]? = some e → ∃ u, arr[j]? = some u ∧ RE w g u e := by
  cases h with | tup arr es hs h => exact ⟨arr, rfl, hs, h⟩
theorem bin_ok {op : BinOp} {x y v : V} (h : bin op x y = some (p, v)) (hp : p) {w : World} {g : Gh} {a b : Value} (hx : RV w g a x) (hy : RV w g b y) (t : TypeId) :
    ∃ u, (binOp op t a b).run P w = .ok u w ∧ RV w g u v := by
  unfold bin at h
  split at h
  · rename_i k n k' m
    obtain rfl := rv_int hx
    obtain rfl := rv_int hy
    cases op
    case shl =>
      cases h
      exact ⟨_, by simp [binOp, Op.shift, show ¬ m < 0 by omega], rv_i _ _⟩
    case shr =>
      cases h
      exact ⟨_, by simp [binOp, Op.shift, show ¬ m < 0 by omega], rv_i _ _⟩
    all_goals
      simp only at h
      by_cases hk : k = k'
      · subst hk
        simp only [decide_true, cond_true] at h
        cases h
        first
          | refine ⟨_, ?_, rv_i _ _⟩
          | refine ⟨_, ?_, rv_b _⟩
        first
          | (simp only [binOp, ne_eq, not_true_eq_false, if_false, Op.intDiv]; rw [if_neg hp]; rfl)
          | (simp only [binOp, ne_eq, not_true_eq_false, if_false, Op.intArith]; rfl)
          | (simp only [binOp, ne_eq, not_true_eq_false, if_false, Op.intBits]; rfl)
          | (simp only [binOp, ne_eq, not_true_eq_false, if_false, Op.intCmp]; rfl)
      · simp only [hk, decide_false, cond_false] at h
        cases h
  · rename_i x y
    obtain rfl := rv_str hx
    obtain rfl := rv_str hy
    split at h
    · cases h
      refine ⟨_, ?_, rv_s _⟩
      have : ¬ ((x.size + y.size : Nat) : Int) > IntKind.i64.max := by simp [IntKind.max, IntKind.bits, IntKind.signed]; omega
      simp only [binOp, Op.stringOp]
      rw [if_neg this]
      rfl
    · cases h; exact ⟨_, by simp [binOp, Op.stringOp], rv_b _⟩
    · cases h; exact ⟨_, by simp [binOp, Op.stringOp], rv_b _⟩
    · cases h
  · cases h
theorem bin_noagg {op : BinOp} {x y v : V} (h : bin op x y = some (p, v)) {w : World} {g : Gh} {a b : Value} (hx : RV w g a x) (t : TypeId) (c d : Operand) : (eqGuard op t c d a b).run P w = .ok () w := by
  unfold bin at h
  split at h
  · obtain rfl := rv_int hx
    cases op <;> simp [eqGuard]
  · obtain rfl := rv_str hx
    cases op <;> simp [eqGuard]
  · cases h
theorem s_bin {op : BinOp} {t u : TypeId} {x y : Operand} {ax ay : AX} (ho : o.op = .binOp op t x y u) (h1 : trX x = some ax) (h2 : trX y = some ay) (t1 : ∀ t ∈ ax.ts, t ∈ ts) (t2 : ∀ t ∈ ay.ts, t ∈ ts)
    (h : aop (.bin op ax ay) ρ hl = some (p, s)) (hp : p) : OpR P N o ρ ts hl s := by
  simp only [aop] at h
  split at h
  · rename_i x' y' e1 e2
    split at h
    · rename_i q v hb
      cases h
      refine OpR.val rfl rfl fun a w g hh _ hR he => ?_
      have r1 := ev_ok h1 he t1 e1
      have r2 := ev_ok h2 he t2 e2
      obtain ⟨u', hu, hv⟩ := bin_ok (P := P) hb hp r1 r2 t
      refine ⟨u', ?_, hv⟩
      have := bin_noagg (P := P) (b := a.eval y) hb r1 t x y
      simp [execOp, ho, this, hu]
    · cases h
  · cases h
theorem s_binB {neg : Bool} {t u : TypeId} {x y : Operand} {ax ay : AX} (ho : o.op = .binOp (if neg then .neq else .eql) t x y u) (h1 : trX x = some ax) (h2 : trX y = some ay) (t1 : ∀ t ∈ ax.ts, t ∈ ts) (t2 : ∀ t ∈ ay.ts, t ∈ ts)
    (ht : P.underlying t = some .bool) (h : aop (.binB neg ax ay) ρ hl = some (p, s)) : OpR P N o ρ ts hl s := by
  simp only [aop] at h
  split at h
  · rename_i x' y' e1 e2
    obtain rfl := ret_v h
    refine OpR.val rfl rfl fun a w g hh _ hR he => ?_
    have r1 := rv_bool (ev_ok h1 he t1 e1)
    have r2 := rv_bool (ev_ok h2 he t2 e2)
    refine ⟨_, ?_, rv_b _⟩
    cases neg
    · have := run_eql_bool (P := P) w t x' y' ht
      simp [execOp, ho, r1, r2, this, eqGuard]
    · have := run_neq_bool (P := P) w t x' y' ht
      simp [execOp, ho, r1, r2, this, eqGuard]
  · cases h
theorem s_un {op : UnOp} {t : TypeId} {x : Operand} {ax : AX} (ho : o.op = .unOp op t x) (h1 : trX x = some ax) (t1 : ∀ t ∈ ax.ts, t ∈ ts) (h : aop (.un op ax) ρ hl = some (p, s)) : OpR P N o ρ ts hl s := by
  simp only [aop] at h
  split at h
  · rename_i b e1
    obtain rfl := ret_v h
    refine OpR.val rfl rfl fun a w g hh _ hR he => ?_
    have r1 := rv_bool (ev_ok h1 he t1 e1)
    exact ⟨_, by simp [execOp, ho, r1, Op.unary], rv_b _⟩
  · rename_i k n e1
    obtain rfl := ret_v h
    refine OpR.val rfl rfl fun a w g hh _ hR he => ?_
    have r1 := rv_int (ev_ok h1 he t1 e1)
    exact ⟨_, by simp [execOp, ho, r1, Op.unary, Op.intArith]; rfl, by simpa using rv_i _ _⟩
  · cases h
theorem s_conv {k : IntKind} {src dst : TypeId} {k0 : IntKind} {x : Operand} {ax : AX} (ho : o.op = .convert src dst x) (h1 : trX x = some ax) (t1 : ∀ t ∈ ax.ts, t ∈ ts)
    (hs : P.underlying src = some (.int k0)) (hd : P.underlying dst = some (.int k)) (h : aop (.conv k ax) ρ hl = some (p, s)) : OpR P N o ρ ts hl s := by
  simp only [aop] at h
  split at h
  · rename_i k1 n e1
    obtain rfl := ret_v h
    refine OpR.val rfl rfl fun a w g hh _ hR he => ?_
    have r1 := rv_int (ev_ok h1 he t1 e1)
    exact ⟨_, by simp [execOp, ho, r1, convert, run_underlying hs, run_underlying hd, Conv.intToInt], rv_i _ _⟩
  · cases h
theorem s_same {src dst : TypeId} {x : Operand} {ax : AX} (ho : o.op = .convert src dst x) (h1 : trX x = some ax) (t1 : ∀ t ∈ ax.ts, t ∈ ts)
    (hs : P.underlying src = some .string) (hd : P.underlying dst = some .string) (h : aop (.same ax) ρ hl = some (p, s)) : OpR P N o ρ ts hl s := by
  simp only [aop] at h
  split at h
  · rename_i k e1
    obtain rfl := ret_v h
    refine OpR.val rfl rfl fun a w g hh _ hR he => ?_
    have r1 := rv_str (ev_ok h1 he t1 e1)
    exact ⟨_, by simp [execOp, ho, r1, convert, run_underlying hs, run_underlying hd], rv_s _⟩
  · cases h
theorem s_extract {x : Operand} {ax : AX} {i : Nat} (ho : o.op = .extract x i) (h1 : trX x = some ax) (t1 : ∀ t ∈ ax.ts, t ∈ ts) (h : aop (.extract ax i) ρ hl = some (p, s)) : OpR P N o ρ ts hl s := by
  simp only [aop] at h
  split at h
  · rename_i es e1
    split at h
    · rename_i e hi
      obtain rfl := ret_v h
      refine OpR.val rfl rfl fun a w g hh _ hR he => ?_
      obtain ⟨arr, r1, _, hk⟩ := rv_tup (ev_ok h1 he t1 e1)
      obtain ⟨u, hu, hr⟩ := hk i e hi
      exact ⟨u, by simp [execOp, ho, r1, Instr.extract, hu], .e hr⟩
    · cases h
  · cases h
end
end Go.Proofs.YthddlkhfkncgpaaGreat
set_option linter.unusedVariables false
set_option linter.unusedSimpArgs false
namespace Go.Proofs.YthddlkhfkncgpaaGreat
open Go.RowKit

section
variable {P : Program} {w : World} {g : Gh}
theorem run_isAgg {t : TypeId} {b : Bool} (h : aggB P t = some b) (w : World) : (isAgg t).run P w = .ok b w := by
  unfold aggB at h
  split at h <;> simp at h <;> subst h
  · rename_i hu; simp [isAgg, run_underlying hu]
  · rename_i hu; simp [isAgg, run_underlying hu]
  · rename_i d hn1 hn2 hu
    simp only [isAgg, Sem.run_bind, run_underlying hu, Result.andThen_ok]
    cases d <;> first | rfl | exact (hn1 _ rfl).elim | exact (hn2 _ _ rfl).elim
theorem run_sizeB {t : TypeId} {n : Nat} (h : sizeB P t = some n) (w : World) : (sizeOf t).run P w = .ok n w := by
  unfold sizeB at h
  cases hi : P.info? t with
  | none => simp [hi] at h
  | some i => simp [hi] at h; simp [sizeOf, typeInfo, hi, h]
theorem cellsB_none {t : TypeId} (h : cellsB P t = some none) : aggB P t = some false := by
  unfold cellsB at h
  split at h
  · rename_i ha
    cases hs : sizeB P t <;> simp [hs] at h
  · assumption
  · cases h
theorem cellsB_some {t : TypeId} {n : Nat} (h : cellsB P t = some (some n)) : aggB P t = some true ∧ sizeB P t = some n := by
  unfold cellsB at h
  split at h
  · rename_i ha
    cases hs : sizeB P t <;> simp [hs] at h
    exact ⟨ha, by rw [h]⟩
  · simp at h
  · cases h
def Cells (w : World) (g : Gh) (arr : Array Value) (cs : List C) : Prop := arr.size = cs.length ∧ ∀ (j : Nat) c, cs[j]? = some c → ∃ u, arr[j]? = some u ∧ RC w g u c
theorem Cells.take {arr : Array Value} {cs : List C} (h : Cells w g arr cs) (off n : Nat) (hb : off + n ≤ cs.length) : Cells w g (arr.extract off (off + n)) ((cs.drop off).take n) := by
  refine ⟨by simp [h.1]; omega, fun j c hj => ?_⟩
  rw [List.getElem?_take] at hj
  split at hj
  · rename_i hlt
    rw [List.getElem?_drop] at hj
    obtain ⟨u, h1, h2⟩ := h.2 _ c hj
    refine ⟨u, ?_, h2⟩
    rw [Array.getElem?_extract, ← h1]
    have := h.1
    rw [if_pos (by omega)]
  · cases hj
theorem Cells.all {arr : Array Value} {cs : List C} (h : Cells w g arr cs) : RV w g (.agg arr) (vA cs) := .e (.agg arr cs h.1 h.2)
theorem sub1_ok {t : TypeId} {arr : Array Value} {cs : List C} (hc : Cells w g arr cs) {off : Nat} {n : Option Nat} {p : Prop} {v : V} (h : sub1 cs off n = some (p, v)) (hp : p) (ht : cellsB P t = some n) : ∃ u, (part t arr off).run P w = .ok u w ∧ RV w g u v := by
  cases n with
  | none =>
    simp only [sub1] at h
    split at h
    · rename_i c hj
      cases h
      obtain ⟨u, h1, h2⟩ := hc.2 _ c hj
      exact ⟨u, by simp [part, run_isAgg (cellsB_none ht), h1], .e (.c h2)⟩
    · cases h
  | some n =>
    simp only [sub1] at h
    obtain ⟨h1, h2⟩ := cellsB_some ht
    have hrun : (part t arr off).run P w = .ok (.agg (arr.extract off (off + n))) w := by simp [part, run_isAgg h1, run_sizeB h2]
    refine ⟨_, hrun, ?_⟩
    cases hb : (Nat.beq off 0 && Nat.beq n cs.length) with
    | true =>
      rw [hb] at h
      simp only [cond_true] at h
      cases h
      simp only [Bool.and_eq_true] at hb
      obtain ⟨hb1, hb2⟩ := hb
      obtain rfl := Nat.eq_of_beq_eq_true hb1
      obtain rfl := Nat.eq_of_beq_eq_true hb2
      have e : arr.extract 0 (0 + cs.length) = arr := by rw [Nat.zero_add, ← hc.1]; simp
      rw [e]
      exact hc.all
    | false =>
      rw [hb] at h
      simp only [cond_false] at h
      cases h
      exact (hc.take off n hp).all
end

section
variable {P : Program} {N : Nat} {o : Oper} {ρ : Env} {ts : List Nat} {hl : List Ob} {p : Prop} {s : Res}
theorem s_field {t : TypeId} {x : Operand} {i : Nat} {ax : AX} {fs : Array Field} {fd : Field} {n : Option Nat} (ho : o.op = .field t x i) (h1 : trX x = some ax) (t1 : ∀ t ∈ ax.ts, t ∈ ts)
    (hu : P.underlying t = some (.struct fs)) (hf : fs[i]? = some fd) (hc : cellsB P fd.type = some n) (h : aop (.field fd.offset n ax) ρ hl = some (p, s)) (hp : p) : OpR P N o ρ ts hl s := by
  simp only [aop] at h
  split at h
  · rename_i cs e1
    split at h
    · rename_i q v hs
      cases h
      refine OpR.val rfl rfl fun a w g hh _ hR he => ?_
      obtain ⟨arr, r1, r2, r3⟩ := rv_agg (ev_ok h1 he t1 e1)
      obtain ⟨u, hu1, hu2⟩ := sub1_ok ⟨r2, r3⟩ hs hp hc
      exact ⟨u, by simp [execOp, ho, r1, Instr.field, run_underlying hu, hf, asAgg, hu1], hu2⟩
    · cases h
  · cases h
theorem s_index {t e : TypeId} {x i : Operand} {len sz : Nat} {ax ai : AX} {n : Option Nat} (ho : o.op = .index t x i) (h1 : trX x = some ax) (h2 : trX i = some ai) (t1 : ∀ t ∈ ax.ts, t ∈ ts) (t2 : ∀ t ∈ ai.ts, t ∈ ts)
    (hu : P.underlying t = some (.array len e)) (hsz : sizeB P e = some sz) (hc : cellsB P e = some n) (h : aop (.index sz len n ax ai) ρ hl = some (p, s)) (hp : p) : OpR P N o ρ ts hl s := by
  simp only [aop] at h
  split at h
  · rename_i cs k i' e1 e2
    split at h
    · rename_i q v hs
      cases h
      refine OpR.val rfl rfl fun a w g hh _ hR he => ?_
      obtain ⟨arr, r1, r2, r3⟩ := rv_agg (ev_ok h1 he t1 e1)
      have r4 := rv_int (ev_ok h2 he t2 e2)
      obtain ⟨u, hu1, hu2⟩ := sub1_ok ⟨r2, r3⟩ hs hp.1 hc
      exact ⟨u, by simp [execOp, ho, r1, r4, Instr.index, run_underlying hu, asIntOf, hp.2, run_sizeB hsz, hu1], hu2⟩
    · cases h
  · cases h
theorem s_strIdx {t : TypeId} {x i : Operand} {ax ai : AX} (ho : o.op = .index t x i) (h1 : trX x = some ax) (h2 : trX i = some ai) (t1 : ∀ t ∈ ax.ts, t ∈ ts) (t2 : ∀ t ∈ ai.ts, t ∈ ts)
    (hu : P.underlying t = some .string) (h : aop (.strIdx ax ai) ρ hl = some (p, s)) (hp : p) : OpR P N o ρ ts hl s := by
  simp only [aop] at h
  split at h
  · rename_i st k i' e1 e2
    cases h
    refine OpR.val rfl rfl fun a w g hh _ hR he => ?_
    have r1 := rv_str (ev_ok h1 he t1 e1)
    have r4 := rv_int (ev_ok h2 he t2 e2)
    have hlt : i'.toNat < st.size := by omega
    refine ⟨_, ?_, rv_i _ _⟩
    simp [execOp, ho, r1, r4, Instr.index, run_underlying hu, asIntOf, hp.1, hlt]
  · cases h
theorem run_v {x : Sem Value} {u : Value} {w w' : World} (h : x.run P w = .ok u w') : (do let r ← x; pure (Next.value r) : Sem Next).run P w = .ok (.value u) w' := by simp [h]
/-- What a slice's value is. -/
theorem sl_value {v : Value} {x : V} {w : World} {g : Gh} (h : RV w g v x) (hx : x = vD .nil ∨ (∃ sz n rows, x = vL sz n rows) ∨ ∃ id off n, x = vC (.sl id off n)) : ∃ A n c, v = .slice A n c := by
  rcases hx with rfl | ⟨sz, n, rows, rfl⟩ | ⟨id, off, n, rfl⟩
  · cases rv_d h; exact ⟨_, _, _, rfl⟩
  · cases rv_d h <;> exact ⟨_, _, _, rfl⟩
  · cases rv_c h <;> exact ⟨_, _, _, rfl⟩
def bnd (a : Act) (x : Option Operand) (n : Option Int) : Prop := match x, n with
  | none, none => True
  | some x, some n => ∃ k, a.eval x = .int k n
  | _, _ => False
theorem bndI_ok {x : Option Operand} {ax : Option AX} (h : trXo x = some ax) {w : World} {g : Gh} {a : Act} (he : EnvOn w g a ρ ts) (hts : ∀ y, ax = some y → ∀ t ∈ y.ts, t ∈ ts) {n : Option Int} (hn : bndI ρ ax = some n) : bnd a x n := by
  cases x with
  | none => simp [trXo] at h; subst h; simp [bndI] at hn; subst hn; trivial
  | some x =>
    cases hx : trX x with
    | none => simp [trXo, hx] at h
    | some y =>
      simp [trXo, hx] at h
      subst h
      simp only [bndI] at hn
      split at hn
      · rename_i k m e1
        cases hn
        exact ⟨k, rv_int (ev_ok hx he (hts y rfl) e1)⟩
      · cases hn
theorem run_bounds {a : Act} {w : World} (sl : Bool) (len cap : Nat) {lo hi : Option Operand} {l h : Option Int} (hl : bnd a lo l) (hh : bnd a hi h) (h0 : 0 ≤ l.getD 0) (h1 : l.getD 0 ≤ h.getD len) (h2 : h.getD len ≤ cap) :
    (Instr.sliceBounds sl len cap (lo.map a.eval) (hi.map a.eval) none).run P w = .ok ((l.getD 0).toNat, (h.getD len).toNat, cap) w := by
  have hhi : ∀ m : Int, h = some m → ∃ k y, hi = some y ∧ a.eval y = .int k m := by
    intro m e; subst e
    cases hi with
    | none => exact hh.elim
    | some y => obtain ⟨k, hk⟩ := hh; exact ⟨k, y, rfl, hk⟩
  have hhn : h = none → hi = none := by
    intro e; subst e
    cases hi with
    | none => rfl
    | some y => exact hh.elim
  have hlo : ∀ m : Int, l = some m → ∃ k y, lo = some y ∧ a.eval y = .int k m := by
    intro m e; subst e
    cases lo with
    | none => exact hl.elim
    | some y => obtain ⟨k, hk⟩ := hl; exact ⟨k, y, rfl, hk⟩
  have hln : l = none → lo = none := by
    intro e; subst e
    cases lo with
    | none => rfl
    | some y => exact hl.elim
  unfold Instr.sliceBounds
  cases h with
  | none =>
    obtain rfl := hhn rfl
    simp only [Option.getD_none] at h1 h2
    cases l with
    | none =>
      obtain rfl := hln rfl
      simp
    | some m =>
      obtain ⟨k, y, rfl, hy⟩ := hlo m rfl
      simp only [Option.getD_some] at h0 h1
      simp [hy, Instr.sliceBound, asIntOf, h0, h1]
  | some q =>
    obtain ⟨k2, y2, rfl, hy2⟩ := hhi q rfl
    simp only [Option.getD_some] at h1 h2
    have hq : 0 ≤ q := by omega
    cases l with
    | none =>
      obtain rfl := hln rfl
      simp [hy2, Instr.sliceBound, asIntOf, hq, h2]
    | some m =>
      obtain ⟨k, y, rfl, hy⟩ := hlo m rfl
      simp only [Option.getD_some] at h0 h1
      simp [hy, hy2, Instr.sliceBound, asIntOf, hq, h2, h0]
      intro hc
      omega
theorem run_slice {t e : TypeId} {sz : Nat} (hu : P.underlying t = some (.slice e)) (hsz : sizeB P e = some sz) {a : Act} {w : World} (A : Option Addr) (len cap : Nat) {lo hi : Option Operand} {l h : Option Int} (hl : bnd a lo l) (hh : bnd a hi h)
    (h0 : 0 ≤ l.getD 0) (h1 : l.getD 0 ≤ h.getD len) (h2 : h.getD len ≤ cap) :
    (Instr.sliceAt t (.slice A len cap) (lo.map a.eval) (hi.map a.eval) none).run P w =
      .ok (.slice (if cap = (l.getD 0).toNat then A else A.map (·.add ((l.getD 0).toNat * sz))) ((h.getD len).toNat - (l.getD 0).toNat) (cap - (l.getD 0).toNat)) w := by
  simp [Instr.sliceAt, Instr.slice, run_underlying hu, run_bounds true len cap hl hh h0 h1 h2, run_sizeB hsz]
theorem s_clip {t e : TypeId} {x : Operand} {lo hi mx : Option Operand} {ax : AX} {sz : Nat} (ho : o.op = .slice t x lo hi mx) (h1 : trX x = some ax) (t1 : ∀ t ∈ ax.ts, t ∈ ts)
    (hu : P.underlying t = some (.slice e)) (hsz : sizeB P e = some sz) (hlo : lo = none) (hhi : hi = some (.const (.int .i64 0))) (hmx : mx = some (.const (.int .i64 0)))
    (h : aop (.clip ax) ρ hl = some (p, s)) : OpR P N o ρ ts hl s := by
  subst hlo hhi hmx
  simp only [aop] at h
  have key : ∀ x' : V, ev ρ ax = some x' → (x' = vD .nil ∨ (∃ sz n rows, x' = vL sz n rows) ∨ ∃ id off n, x' = vC (.sl id off n)) → ret (vD .nil) = some (p, s) → OpR P N o ρ ts hl s := by
    intro x' e1 hx' hret
    obtain rfl := ret_v hret
    refine OpR.val rfl rfl fun a w g hh _ hR he => ?_
    obtain ⟨A, n, c, r1⟩ := sl_value (ev_ok h1 he t1 e1) hx'
    refine ⟨.slice A 0 0, ?_, .e (.c (.t (.nil A)))⟩
    have hz : a.eval (.const (.int .i64 0)) = .int .i64 0 := rfl
    simp [execOp, ho, r1, Instr.sliceAt, Instr.slice, run_underlying hu, run_sizeB hsz, Instr.sliceBounds, Instr.sliceBound, asIntOf, hz]
  split at h
  · rename_i e1; exact key _ e1 (.inl rfl) h
  · rename_i sz n rows e1; exact key _ e1 (.inr (.inl ⟨_, _, _, rfl⟩)) h
  · rename_i id off n e1; exact key _ e1 (.inr (.inr ⟨_, _, _, rfl⟩)) h
  · cases h
theorem s_slice {t e : TypeId} {x : Operand} {lo hi : Option Operand} {ax : AX} {al ah : Option AX} {sz : Nat} (ho : o.op = .slice t x lo hi none) (h1 : trX x = some ax) (h2 : trXo lo = some al) (h3 : trXo hi = some ah)
    (t1 : ∀ t ∈ ax.ts, t ∈ ts) (t2 : ∀ y, al = some y → ∀ t ∈ y.ts, t ∈ ts) (t3 : ∀ y, ah = some y → ∀ t ∈ y.ts, t ∈ ts)
    (hu : P.underlying t = some (.slice e)) (hsz : sizeB P e = some sz) (hp0 : 0 < sz) (h : aop (.slice sz ax al ah) ρ hl = some (p, s)) (hp : p) : OpR P N o ρ ts hl s := by
  simp only [aop] at h
  split at h
  · rename_i l r e1 e2 e3
    cases h
    refine OpR.val rfl rfl fun a w g hh _ hR he => ?_
    have r2 := bndI_ok h2 he t2 e2
    have r3 := bndI_ok h3 he t3 e3
    have r1 := rv_d (ev_ok h1 he t1 e1)
    generalize hx : a.eval x = v at *
    cases r1 with
    | nil A =>
      have hz : r.getD ((0 : Nat) : Int) = 0 := hp.2
      refine ⟨.slice A 0 0, ?_, .e (.c (.t (.nil A)))⟩
      have := run_slice (P := P) (w := w) hu hsz A 0 0 r2 r3 (by omega) (by omega) (by omega)
      simp only [hp.1, hz] at this
      simp only [execOp, ho, hx]
      exact run_v this
  · rename_i sz' n rows l r e1 e2 e3
    cases h
    obtain ⟨p1, p2, p3, rfl⟩ := hp
    refine OpR.val rfl rfl fun a w g hh _ hR he => ?_
    have r2 := bndI_ok h2 he t2 e2
    have r3 := bndI_ok h3 he t3 e3
    have r1 := rv_d (ev_ok h1 he t1 e1)
    generalize hx : a.eval x = v at *
    cases r1 with
    | lsn A _ =>
      have hz : r.getD ((0 : Nat) : Int) = 0 := by simp only [List.length_nil] at p3; omega
      have hz1 : l.getD 0 = 0 := by omega
      refine ⟨.slice A 0 0, ?_, ?_⟩
      · have := run_slice (P := P) (w := w) hu hsz A 0 0 r2 r3 (by omega) (by omega) (by omega)
        simp only [hz1, hz] at this
        simp only [execOp, ho, hx]
        exact run_v this
      · simp only [hz, hz1]
        exact .e (.c (.t (Rd.take (.lsn A _) (Nat.le_refl _))))
    | ls b of _ _ c _ us hI hn hc hm hs0 hs1 hcell hr =>
      have := run_slice (P := P) (w := w) hu hsz (some ⟨b, of, none⟩) n c r2 r3 p1 p2 (by omega)
      refine ⟨_, by simp only [execOp, ho, hx]; exact run_v this, ?_⟩
      by_cases hcl : c = (l.getD 0).toNat
      · have e1 : (r.getD (n : Int)).toNat - (l.getD 0).toNat = 0 := by omega
        have e2 : rows.drop (l.getD 0).toNat = [] := List.drop_eq_nil_of_le (by omega)
        rw [if_pos hcl, e1, e2, show c - (l.getD 0).toNat = 0 by omega]
        exact .e (.c (.t (Rd.take (.lsn _ _) (Nat.le_refl _))))
      · rw [if_neg hcl]
        simp only [Option.map_some, Addr.add_mid]
        refine .e (.c (.t (Rd.take (.ls b _ sz' _ _ _ (fun i j => us ((l.getD 0).toNat + i) j) hI ?_ ?_ (by omega) hs0 (fun i r' h1 => ?_) (fun i r' j t h1 h2 => ?_) (fun i r' j t h1 h2 => ?_)) (Nat.le_refl _))))
        · rw [List.length_drop]; omega
        · rw [List.length_drop]; omega
        · rw [List.getElem?_drop] at h1; exact hs1 _ _ h1
        · rw [List.getElem?_drop] at h1
          have := hcell _ _ _ _ h1 h2
          rw [← this, Nat.add_mul]
          congr 2
          omega
        · rw [List.getElem?_drop] at h1; exact hr _ _ _ _ h1 h2
  · rename_i id off n l r e1 e2 e3
    split at h
    · rename_i sz' rows hid
      cases h
      obtain ⟨p1, p2, p3, rfl⟩ := hp
      refine OpR.val rfl rfl fun a w g hh hrd hR he => ?_
      have r2 := bndI_ok h2 he t2 e2
      have r3 := bndI_ok h3 he t3 e3
      have r1 := rv_c (ev_ok h1 he t1 e1)
      have hob : hh id = .arr sz' rows := (hrd id (by simp)).trans hid
      obtain ⟨_, lc, m0, m1, hcase⟩ := hob ▸ hR.objs id (by rw [hob]; rfl)
      have htot : rows.length ≤ lc.tot := by
        rcases hcase with ⟨_, _, hr, _⟩ | ⟨_, hle, _⟩
        · rw [hr]; simp
        · exact hle
      generalize hx : a.eval x = v at *
      cases r1 with
      | sl _ _ hμ hn ho' =>
        rename_i lc'
        obtain rfl : lc = lc' := Option.some.inj (m0.symm.trans hμ)
        have := run_slice (P := P) (w := w) hu hsz (some ⟨lc.blk, off * lc.sz, none⟩) n (lc.tot - off) r2 r3 p1 p2 (by omega)
        refine ⟨_, by simp only [execOp, ho, hx]; exact run_v this, ?_⟩
        by_cases hcl : lc.tot - off = (l.getD 0).toNat
        · rw [if_pos hcl, show (r.getD (n : Int)).toNat - (l.getD 0).toNat = 0 by omega, show lc.tot - off - (l.getD 0).toNat = 0 by omega]
          exact .e (.c (.slz _ _ hμ (by omega)))
        · rw [if_neg hcl]
          simp only [Option.map_some, Addr.add_mid]
          have e : off * lc.sz + (l.getD 0).toNat * sz' = (off + (l.getD 0).toNat) * lc.sz := by rw [m1, Nat.add_mul]
          rw [e, Nat.sub_sub]
          exact .e (.c (.sl _ _ hμ hn (by omega)))
      | slz _ A hμ ho' =>
        rename_i lc'
        obtain rfl : lc = lc' := Option.some.inj (m0.symm.trans hμ)
        have hz : r.getD ((0 : Nat) : Int) = 0 := by omega
        have hz1 : l.getD 0 = 0 := by omega
        have := run_slice (P := P) (w := w) hu hsz A 0 0 r2 r3 (by omega) (by omega) (by omega)
        simp only [hz1, hz] at this
        refine ⟨.slice A 0 0, by simp only [execOp, ho, hx]; exact run_v this, ?_⟩
        simp only [hz, hz1]
        exact .e (.c (.slz _ _ hμ ho'))
    · cases h
  · cases h
theorem s_sliceS {t : TypeId} {x : Operand} {lo hi : Option Operand} {ax : AX} {al ah : Option AX} (ho : o.op = .slice t x lo hi none) (h1 : trX x = some ax) (h2 : trXo lo = some al) (h3 : trXo hi = some ah)
    (t1 : ∀ t ∈ ax.ts, t ∈ ts) (t2 : ∀ y, al = some y → ∀ t ∈ y.ts, t ∈ ts) (t3 : ∀ y, ah = some y → ∀ t ∈ y.ts, t ∈ ts)
    (hu : P.underlying t = some .string) (h : aop (.sliceS ax al ah) ρ hl = some (p, s)) (hp : p) : OpR P N o ρ ts hl s := by
  simp only [aop] at h
  split at h
  · rename_i st l r e1 e2 e3
    cases h
    refine OpR.val rfl rfl fun a w g hh _ hR he => ?_
    have r2 := bndI_ok h2 he t2 e2
    have r3 := bndI_ok h3 he t3 e3
    have r1 := rv_str (ev_ok h1 he t1 e1)
    refine ⟨_, ?_, rv_s _⟩
    simp only [execOp, ho, r1]
    refine run_v ?_
    simp [Instr.sliceAt, Instr.slice, run_underlying hu, run_bounds false st.size st.size r2 r3 hp.1 hp.2.1 hp.2.2]
  · cases h
theorem run_fieldAt {t : TypeId} {fs : Array Field} {fd : Field} {i n : Nat} (hu : P.underlying t = some (.struct fs)) (hf : fs[i]? = some fd) (hsz : sizeB P fd.type = some (n + 1)) (b k : Nat) (w : World) :
    (Instr.fieldAt t (.pointer (some ⟨b, k, none⟩)) i).run P w = .ok (.pointer (some ⟨b, k + fd.offset, none⟩)) w := by
  simp [Instr.fieldAt, run_underlying hu, hf, Instr.sureAddr, fieldPlace, run_sizeB hsz, Addr.add_mid]
theorem s_fieldAddr {t : TypeId} {x : Operand} {i n : Nat} {ax : AX} {fs : Array Field} {fd : Field} (ho : o.op = .fieldAddr t x i) (h1 : trX x = some ax) (t1 : ∀ t ∈ ax.ts, t ∈ ts)
    (hu : P.underlying t = some (.struct fs)) (hf : fs[i]? = some fd) (hsz : sizeB P fd.type = some (n + 1)) (h : aop (.fieldAddr fd.offset ax) ρ hl = some (p, s)) : OpR P N o ρ ts hl s := by
  simp only [aop] at h
  split at h
  · rename_i id off e1
    obtain rfl := ret_v h
    refine OpR.val rfl rfl fun a w g hh _ hR he => ?_
    have r1 := rv_c (ev_ok h1 he t1 e1)
    generalize hx : a.eval x = v at *
    cases r1 with
    | ptr _ hμ hn =>
      refine ⟨_, ?_, .e (.c (.ptr _ hμ hn))⟩
      simp only [execOp, ho, hx]
      exact run_v (run_fieldAt hu hf hsz _ _ w)
  · rename_i id i' k e1
    obtain rfl := ret_v h
    refine OpR.val rfl rfl fun a w g hh _ hR he => ?_
    have r1 := rv_c (ev_ok h1 he t1 e1)
    generalize hx : a.eval x = v at *
    cases r1 with
    | el _ _ hμ hn =>
      refine ⟨_, ?_, .e (.c (.el _ _ hμ hn))⟩
      simp only [execOp, ho, hx]
      rw [← Nat.add_assoc]
      exact run_v (run_fieldAt hu hf hsz _ _ w)
  · rename_i ds e1
    obtain rfl := ret_v h
    refine OpR.val rfl rfl fun a w g hh _ hR he => ?_
    have r1 := rv_c (ev_ok h1 he t1 e1)
    generalize hx : a.eval x = v at *
    cases r1 with
    | im b of _ us hI hc hr =>
      refine ⟨.pointer (some ⟨b, of + fd.offset, none⟩), ?_, .e (.c (.im b _ _ (fun j => us (fd.offset + j)) hI (fun j t hj => ?_) (fun j t hj => ?_)))⟩
      · simp only [execOp, ho, hx]
        exact run_v (run_fieldAt hu hf hsz _ _ w)
      · rw [List.getElem?_drop] at hj
        rw [← hc _ t hj, Nat.add_assoc]
      · rw [List.getElem?_drop] at hj
        exact hr _ t hj
  · cases h
theorem s_idxArr {t e : TypeId} {x i : Operand} {len sz : Nat} {ax ai : AX} (ho : o.op = .indexAddr t x i) (h1 : trX x = some ax) (h2 : trX i = some ai) (t1 : ∀ t ∈ ax.ts, t ∈ ts) (t2 : ∀ t ∈ ai.ts, t ∈ ts)
    (hu : P.underlying t = some (.array len e)) (hsz : sizeB P e = some sz) (h : aop (.idxArr sz len ax ai) ρ hl = some (p, s)) (hp : p) : OpR P N o ρ ts hl s := by
  simp only [aop] at h
  split at h
  · rename_i id off k i' e1 e2
    cases h
    refine OpR.val rfl rfl fun a w g hh _ hR he => ?_
    have r1 := rv_c (ev_ok h1 he t1 e1)
    have r2 := rv_int (ev_ok h2 he t2 e2)
    generalize hx : a.eval x = v at *
    cases r1 with
    | ptr _ hμ hn =>
      refine ⟨_, ?_, .e (.c (.ptr _ hμ hn))⟩
      simp only [execOp, ho, hx, r2]
      refine run_v ?_
      simp [Instr.indexAt, run_underlying hu, asIntOf, Instr.sureAddr, hp.1, hp.2, run_sizeB hsz, Addr.add_mid]
  · cases h
theorem run_idxSl {t e : TypeId} {sz : Nat} (hu : P.underlying t = some (.slice e)) (hsz : sizeB P e = some sz) (b of n c : Nat) (k : IntKind) (i : Int) (h0 : 0 ≤ i) (h1 : i < n) (w : World) :
    (Instr.indexAt t (.slice (some ⟨b, of, none⟩) n c) (.int k i)).run P w = .ok (.pointer (some ⟨b, of + i.toNat * sz, none⟩)) w := by
  simp [Instr.indexAt, run_underlying hu, asIntOf, h0, h1, run_sizeB hsz, Addr.add_mid]
theorem s_idxAddr {t e : TypeId} {x i : Operand} {sz : Nat} {ax ai : AX} (ho : o.op = .indexAddr t x i) (h1 : trX x = some ax) (h2 : trX i = some ai) (t1 : ∀ t ∈ ax.ts, t ∈ ts) (t2 : ∀ t ∈ ai.ts, t ∈ ts)
    (hu : P.underlying t = some (.slice e)) (hsz : sizeB P e = some sz) (h : aop (.idxAddr sz ax ai) ρ hl = some (p, s)) (hp : p) : OpR P N o ρ ts hl s := by
  simp only [aop] at h
  split at h
  · rename_i id off n k i' e1 e2
    split at h
    · rename_i sz' rows hid
      cases h
      obtain ⟨p1, p2, rfl⟩ := hp
      refine OpR.val rfl rfl fun a w g hh hrd hR he => ?_
      have r1 := rv_c (ev_ok h1 he t1 e1)
      have r2 := rv_int (ev_ok h2 he t2 e2)
      have hob : hh id = .arr sz' rows := (hrd id (by simp)).trans hid
      obtain ⟨_, lc, m0, m1, _⟩ := hob ▸ hR.objs id (by rw [hob]; rfl)
      generalize hx : a.eval x = v at *
      cases r1 with
      | sl _ _ hμ hn ho' =>
        rename_i lc'
        obtain rfl : lc = lc' := Option.some.inj (m0.symm.trans hμ)
        refine ⟨_, ?_, .e (.c (.el _ _ hμ hn))⟩
        simp only [execOp, ho, hx, r2]
        have := run_idxSl (P := P) hu hsz lc.blk (off * lc.sz) n (lc.tot - off) k i' p1 p2 w
        rw [m1, ← Nat.add_mul] at this
        rw [m1, Nat.add_zero]
        exact run_v this
      | slz _ A hμ ho' => omega
    · cases h
  · cases h
theorem s_idxAddrI {t e : TypeId} {x i : Operand} {sz : Nat} {ax ai : AX} {r : List D} (ho : o.op = .indexAddr t x i) (h1 : trX x = some ax) (h2 : trX i = some ai) (t1 : ∀ t ∈ ax.ts, t ∈ ts) (t2 : ∀ t ∈ ai.ts, t ∈ ts)
    (hu : P.underlying t = some (.slice e)) (hsz : sizeB P e = some sz) (h : aopi (.idxAddr sz ax ai) ρ hl r = some (p, s)) (hp : p) : OpR P N o ρ ts hl s := by
  simp only [aopi] at h
  split at h
  · rename_i sz' n rows k i' e1 e2
    cases h
    obtain ⟨⟨p1, p2⟩, rfl, p3⟩ := hp
    refine OpR.val rfl rfl fun a w g hh hrd hR he => ?_
    have r1 := rv_d (ev_ok h1 he t1 e1)
    have r2 := rv_int (ev_ok h2 he t2 e2)
    generalize hx : a.eval x = v at *
    cases r1 with
    | lsn A _ => omega
    | ls b of _ _ c _ us hI hn hc hm hs0 hs1 hcell hr =>
      refine ⟨_, ?_, .e (.c (.im b (of + i'.toNat * sz') r (us i'.toNat) hI (fun j t hj => ?_) (fun j t hj => hr _ _ _ _ p3 hj)))⟩
      · simp only [execOp, ho, hx, r2]
        exact run_v (run_idxSl (P := P) hu hsz b of n c k i' p1 p2 w)
      · rw [← hcell _ _ _ _ p3 hj, Nat.add_assoc]
  · cases h
theorem run_len {t ty : TypeId} {v : Value} {x : V} {n : Nat} {w : World} {g : Gh} (hn : natLen x = some n) (h : RV w g v x)
    (hu : (∃ e, P.underlying t = some (.slice e)) ∧ (∀ s, x ≠ vD (.str s)) ∨ P.underlying t = some .string ∧ ∃ s, x = vD (.str s)) : (Builtin.len_ #[t] ty #[v]).run P w = .ok (.int .i64 n) w := by
  unfold natLen at hn
  split at hn <;> simp at hn
  · subst hn
    obtain ⟨e, hu2⟩ := (hu.resolve_right (fun h => by obtain ⟨_, _, h⟩ := h; cases h)).1
    cases rv_d h
    simp [Builtin.len_, run_underlying hu2, goInt]
  · subst hn
    obtain ⟨e, hu2⟩ := (hu.resolve_right (fun h => by obtain ⟨_, _, h⟩ := h; cases h)).1
    cases rv_d h <;> simp [Builtin.len_, run_underlying hu2, goInt]
  · subst hn
    have hu2 := (hu.resolve_left (fun h => h.2 _ rfl)).1
    obtain rfl := rv_str h
    simp [Builtin.len_, run_underlying hu2, goInt]
  · subst hn
    obtain ⟨e, hu2⟩ := (hu.resolve_right (fun h => by obtain ⟨_, _, h⟩ := h; cases h)).1
    cases rv_c h <;> simp [Builtin.len_, run_underlying hu2, goInt]
theorem s_len {c : Call} {t : TypeId} {x : Operand} {ax : AX} {st : Bool} (ho : o.op = .call c) (hc : c.callee = .builtin .len) (ht : c.argTypes[0]? = some t) (hu : if st then P.underlying t = some .string else ∃ e, P.underlying t = some (.slice e)) (hargs : c.args.toList = [x])
    (h1 : trX x = some ax) (t1 : ∀ t ∈ ax.ts, t ∈ ts) (h : aop (.len st ax) ρ hl = some (p, s)) : OpR P N o ρ ts hl s := by
  have ha : c.args = #[x] := by rw [← Array.toArray_toList (xs := c.args), hargs]
  have hcall : ∀ (a : Act) (w : World) u, (Builtin.len_ #[t] o.type #[a.eval x]).run P w = .ok u w → (execOp a.eval o).run P w = .ok (.value u) w := by
    intro a w u hr
    have e : Builtin.len_ c.argTypes o.type #[a.eval x] = Builtin.len_ #[t] o.type #[a.eval x] := by simp [Builtin.len_, ht]
    simp [execOp, ho, resolve, hc, invoke, builtin, ha, e, hr]
  simp only [aop] at h
  cases st
  · simp only [cond_false] at h
    split at h
    · rename_i v e1
      cases hs : isStr v with
      | true => simp [hs] at h
      | false =>
        simp only [hs, cond_false] at h
        split at h
        · rename_i n hn
          obtain rfl := ret_v h
          refine OpR.val rfl rfl fun a w g hh hrd hR he => ⟨.int .i64 n, hcall a w _ (run_len hn (ev_ok h1 he t1 e1) (.inl ⟨by simpa using hu, fun s e => by subst e; simp [isStr] at hs⟩)), rv_i _ _⟩
        · cases h
    · cases h
  · simp only [cond_true] at h
    split at h
    · rename_i st e1
      obtain rfl := ret_v h
      refine OpR.val rfl rfl fun a w g hh hrd hR he => ⟨.int .i64 st.size, hcall a w _ (run_len (n := st.size) rfl (ev_ok h1 he t1 e1) (.inr ⟨by simpa using hu, _, rfl⟩)), rv_i _ _⟩
    · cases h
theorem s_minmax {mx : Bool} {c : Call} {x y : Operand} {ax ay : AX} (ho : o.op = .call c) (hc : c.callee = .builtin (if mx then .max else .min)) (hargs : c.args.toList = [x, y])
    (h1 : trX x = some ax) (h2 : trX y = some ay) (t1 : ∀ t ∈ ax.ts, t ∈ ts) (t2 : ∀ t ∈ ay.ts, t ∈ ts) (h : aop (.minmax mx ax ay) ρ hl = some (p, s)) : OpR P N o ρ ts hl s := by
  have ha : c.args = #[x, y] := by rw [← Array.toArray_toList (xs := c.args), hargs]
  simp only [aop] at h
  split at h
  · rename_i k a' k' b' e1 e2
    obtain rfl := ret_v h
    refine OpR.val rfl rfl fun a w g hh hrd hR he => ?_
    have r1 := rv_int (ev_ok h1 he t1 e1)
    have r2 := rv_int (ev_ok h2 he t2 e2)
    refine ⟨_, ?_, rv_i _ _⟩
    cases mx
    · simp [execOp, ho, resolve, hc, invoke, builtin, ha, r1, r2, run_min_int2]
    · simp [execOp, ho, resolve, hc, invoke, builtin, ha, r1, r2, run_max_int2]
  · cases h
theorem evs_ok {xs : List Operand} {axs : List AX} (h : listM trX xs = some axs) {w : World} {g : Gh} {a : Act} (he : EnvOn w g a ρ ts) (hts : ∀ y ∈ axs, ∀ t ∈ y.ts, t ∈ ts) : ∀ {vs : List V}, evs ρ axs = some vs → vs.length = xs.length ∧ ∀ (j : Nat) v, vs[j]? = some v → ∃ x, xs[j]? = some x ∧ RV w g (a.eval x) v := by
  induction xs generalizing axs with
  | nil => intro vs hv; simp [listM] at h; subst h; simp [evs] at hv; subst hv; simp
  | cons x xs ih =>
    intro vs hv
    unfold listM at h
    cases hx : trX x with
    | none => simp [hx] at h
    | some ax =>
      cases hl : listM trX xs with
      | none => simp [hx, hl] at h
      | some axs' =>
        simp [hx, hl] at h
        subst h
        unfold evs at hv
        split at hv
        · rename_i v r e1 e2
          cases hv
          obtain ⟨i1, i2⟩ := ih hl (fun y hy => hts y (by simp [hy])) e2
          refine ⟨by simp [i1], fun j v' hj => ?_⟩
          cases j with
          | zero => simp at hj; subst hj; exact ⟨x, by simp, ev_ok hx he (hts ax (by simp)) e1⟩
          | succ j => simpa using i2 j v' (by simpa using hj)
        · cases hv
theorem s_mkFn {f : FuncId} {caps : Array Operand} {axs : List AX} (ho : o.op = .makeFunc (.func f) #[] caps) (h1 : listM trX caps.toList = some axs) (t1 : ∀ y ∈ axs, ∀ t ∈ y.ts, t ∈ ts) (h : aop (.mkFn f axs) ρ hl = some (p, s)) : OpR P N o ρ ts hl s := by
  simp only [aop] at h
  split at h
  · rename_i vs e1
    split at h
    · rename_i cs e2
      obtain rfl := ret_v h
      refine OpR.val rfl rfl fun a w g hh hrd hR he => ?_
      obtain ⟨i1, i2⟩ := evs_ok h1 he t1 e1
      obtain ⟨j1, j2⟩ := listM_ok e2
      refine ⟨.func (.func f) #[] (caps.map a.eval), ?_, .e (.c (.fn f _ cs (by simp [← j1, i1]) (fun j v c hv hc => ?_)))⟩
      · simp [execOp, ho, Instr.makeFunc]
      · obtain ⟨v', hv', hcc⟩ := j2 j c hc
        obtain ⟨x, hx1, hx2⟩ := i2 j v' hv'
        have : v = a.eval x := by
          rw [Array.getElem?_map] at hv
          have hx1' : caps[j]? = some x := by simpa using hx1
          rw [hx1'] at hv
          simpa using hv.symm
        subst this
        split at hcc
        · cases hcc; exact rv_c hx2
        · cases hcc
    · cases h
  · cases h
theorem s_mkFnM {f : FuncId} {x : Operand} {ax : AX} (ho : o.op = .makeFunc (.func f) #[x] #[]) (h1 : trX x = some ax) (t1 : ∀ t ∈ ax.ts, t ∈ ts) (h : aop (.mkFnM f ax) ρ hl = some (p, s)) : OpR P N o ρ ts hl s := by
  simp only [aop] at h
  split at h
  · rename_i id off e1
    obtain rfl := ret_v h
    refine OpR.val rfl rfl fun a w g hh hrd hR he => ?_
    have r1 := rv_c (ev_ok h1 he t1 e1)
    generalize hx : a.eval x = u at *
    cases r1 with
    | ptr _ hm hn => exact ⟨_, by simp [execOp, ho, Instr.makeFunc, hx], .e (.c (.bm f off hm hn))⟩
  · cases h
theorem s_nilCheck {x : Operand} {ax : AX} (ho : o.op = .nilCheck x) (h1 : trX x = some ax) (t1 : ∀ t ∈ ax.ts, t ∈ ts) (h : aop (.nilCheck ax) ρ hl = some (p, s)) : OpR P N o ρ ts hl s := by
  simp only [aop] at h
  split at h <;> first | (cases h; done) | skip
  all_goals
    rename_i e1
    obtain rfl := ret_v h
    refine OpR.val rfl rfl fun a w g hh hrd hR he => ?_
    have r1 := ev_ok h1 he t1 e1
    refine ⟨a.eval x, ?_, r1⟩
    generalize hx : a.eval x = v at *
    cases rv_c r1
    simp [execOp, ho, hx]
end
end Go.Proofs.YthddlkhfkncgpaaGreat
set_option linter.unusedVariables false
set_option linter.unusedSimpArgs false
namespace Go.Proofs.YthddlkhfkncgpaaGreat
open Go.RowKit

section
variable {P : Program} {w : World} {g : Gh}

theorem eqCs_len : ∀ {ks : List LK} {xs ys : List C} {b : Bool}, eqCs ks xs ys = some b → xs.length = ks.length ∧ ys.length = ks.length
  | [], xs, ys, b, h => by
    cases xs with
    | nil => cases ys with
      | nil => simp
      | cons y ys => simp [eqCs] at h
    | cons x xs => simp [eqCs] at h
  | k :: ks, xs, ys, b, h => by
    cases xs with
    | nil => cases h
    | cons x xs => cases ys with
      | nil => cases x <;> cases h
      | cons y ys =>
        cases x <;> cases y <;> simp only [eqCs] at h <;> try (cases h; done)
        split at h
        · rename_i p q h1 h2
          obtain ⟨i1, i2⟩ := eqCs_len h2
          simp [i1, i2]
        · cases h
theorem eqCs_split : ∀ {ks ks' : List LK} {xs ys : List C} {b : Bool}, eqCs (ks ++ ks') xs ys = some b → ∃ p q, eqCs ks (xs.take ks.length) (ys.take ks.length) = some p ∧ eqCs ks' (xs.drop ks.length) (ys.drop ks.length) = some q ∧ b = (p && q)
  | [], ks', xs, ys, b, h => ⟨true, b, by simp [eqCs], by simpa using h, by simp⟩
  | k :: ks, ks', xs, ys, b, h => by
    simp only [List.cons_append] at h
    cases xs with
    | nil => simp [eqCs] at h
    | cons x xs => cases ys with
      | nil => simp [eqCs] at h
      | cons y ys =>
        cases x <;> cases y <;> simp only [eqCs] at h <;> try (cases h; done)
        rename_i a c
        split at h
        · rename_i p q h1 h2
          cases h
          obtain ⟨p', q', i1, i2, i3⟩ := eqCs_split h2
          refine ⟨p && p', q', ?_, by simpa using i2, by rw [i3, Bool.and_assoc]⟩
          simp only [List.length_cons, List.take_succ_cons, eqCs, h1, i1]
        · cases h
def LKok (P : Program) (t : TypeId) : LK → Prop
  | .int => ∃ k, P.underlying t = some (.int k)
  | .bool => P.underlying t = some .bool
  | .str => P.underlying t = some .string
theorem rd_eq {k : LK} {a b : D} {r : Bool} (h : eqD k a b = some r) {x y : Value} (hx : Rd w g.I x a) (hy : Rd w g.I y b) (d : Nat) (t : TypeId)
    (ht : LKok P t k) : (Op.equalIn (d + 1) t x y).run P w = .ok r w := by
  unfold eqD at h
  split at h
  · rename_i k a k' b
    by_cases hk : k = k'
    · subst hk
      simp at h
      subst h
      cases hx; cases hy
      obtain ⟨k', ht⟩ := ht
      exact run_equalIn_int w d t k k' a b ht
    · simp [hk] at h
  · cases h; cases hx; cases hy
    exact run_equalIn_bool w d t _ _ ht
  · cases h; cases hx; cases hy
    exact run_equalIn_string w d t _ _ ht
  · cases h
/-- A value and its cells, by whether its type is a struct's. -/
def Whole (w : World) (g : Gh) (ag : Bool) (x : Value) (cs : List C) : Prop := match ag with
  | true => ∃ arr, x = .agg arr ∧ Cells w g arr cs
  | false => ∃ c, cs = [c] ∧ RC w g x c
theorem part_whole {t : TypeId} {arr : Array Value} {cs : List C} {ag : Bool} {off n : Nat} (hc : Cells w g arr cs) (ha : aggB P t = some ag) (hs : sizeB P t = some n) (hn : off + n ≤ cs.length) (h1 : ag = false → n = 1) :
    ∃ x, (part t arr off).run P w = .ok x w ∧ Whole w g ag x ((cs.drop off).take n) := by
  cases ag with
  | true => exact ⟨_, by simp [part, run_isAgg ha, run_sizeB hs], _, rfl, hc.take off n hn⟩
  | false =>
    obtain rfl := h1 rfl
    have hlt : off < cs.length := by omega
    obtain ⟨u, e1, e2⟩ := hc.2 off cs[off] (List.getElem?_eq_getElem hlt)
    exact ⟨u, by simp [part, run_isAgg ha, e1], cs[off], by rw [List.drop_eq_getElem_cons hlt]; rfl, e2⟩
theorem flat_one {d : Nat} {t : TypeId} {ks : List LK} (h : flat P d t = some ks) (ha : aggB P t = some false) : ks.length = 1 := by
  cases d with
  | zero => cases h
  | succ d =>
    unfold flat at h
    unfold aggB at ha
    split at h
    · cases h; rfl
    · cases h; rfl
    · cases h; rfl
    · rename_i fs hu; rw [hu] at ha; cases ha
    · cases h
theorem flat_fields {d D : Nat} (ih : ∀ t ks ag x y xs ys b, flat P d t = some ks → aggB P t = some ag → Whole w g ag x xs → Whole w g ag y ys → eqCs ks xs ys = some b → (Op.equalIn D t x y).run P w = .ok b w) :
    ∀ (fs : List Field) (n : Nat) (ks : List LK) (ax ay : Array Value) (xs ys : List C) (b : Bool), flatFs P (flat P d) fs n = some ks → Cells w g ax xs → Cells w g ay ys → n + ks.length = xs.length → n + ks.length = ys.length →
      eqCs ks (xs.drop n) (ys.drop n) = some b → (Op.eqFields D ax ay fs).run P w = .ok b w
  | [], n, ks, ax, ay, xs, ys, b, h, hx, hy, l1, l2, he => by
    simp [flatFs] at h
    subst h
    simp at l1 l2
    rw [List.drop_of_length_le (by omega), List.drop_of_length_le (by omega)] at he
    simp [eqCs] at he
    subst he
    simp [Op.eqFields]
  | f :: fs, n, ks, ax, ay, xs, ys, b, h, hx, hy, l1, l2, he => by
    unfold flatFs at h
    split at h
    · rename_i k1 sz ag h1 h2 h3
      split at h
      · rename_i hcond
        obtain ⟨c1, c2, c3⟩ := hcond
        cases hr : flatFs P (flat P d) fs (n + sz) with
        | none => simp [hr] at h
        | some k2 =>
          simp [hr] at h
          subst h
          obtain ⟨p, q, e1, e2, e3⟩ := eqCs_split he
          simp only [List.length_append] at l1 l2
          rw [List.drop_drop] at e2
          rw [List.drop_drop] at e2
          rw [← c3] at e1 e2
          have hag : ag = false → sz = 1 := fun e => by subst e; rw [c3]; exact flat_one h1 h3
          obtain ⟨vx, r1, w1⟩ := part_whole (P := P) (off := n) (n := sz) hx h3 h2 (by omega) hag
          obtain ⟨vy, r2, w2⟩ := part_whole (P := P) (off := n) (n := sz) hy h3 h2 (by omega) hag
          have r3 := ih _ _ _ _ _ _ _ _ h1 h3 w1 w2 e1
          have r4 := flat_fields ih fs (n + sz) k2 ax ay xs ys q hr hx hy (by omega) (by omega) e2
          rw [e3]
          unfold Op.eqFields
          simp only [c1, ne_eq, not_false_eq_true, if_true, Sem.run_bind, c2, r1, r2, r3, Result.andThen_ok]
          cases p <;> simp [r4]
      · cases h
    · cases h
theorem flat_eq : ∀ (d : Nat) (t : TypeId) (ks : List LK) (ag : Bool) (x y : Value) (xs ys : List C) (b : Bool) (D : Nat), d ≤ D → flat P d t = some ks → aggB P t = some ag → Whole w g ag x xs → Whole w g ag y ys → eqCs ks xs ys = some b →
    (Op.equalIn D t x y).run P w = .ok b w
  | 0, t, ks, ag, x, y, xs, ys, b, D, hd, h, ha, hx, hy, he => by cases h
  | d + 1, t, ks, ag, x, y, xs, ys, b, D, hd, h, ha, hx, hy, he => by
    obtain ⟨D, rfl⟩ : ∃ D', D = D' + 1 := ⟨D - 1, by omega⟩
    have leaf : ∀ k, ks = [k] → ag = false → LKok P t k → (Op.equalIn (D + 1) t x y).run P w = .ok b w := by
      rintro k rfl rfl hk
      obtain ⟨c1, rfl, r1⟩ := hx
      obtain ⟨c2, rfl, r2⟩ := hy
      cases c1 <;> cases c2 <;> simp only [eqCs] at he <;> try (cases he; done)
      split at he
      · rename_i p q e1 e2
        cases he
        cases e2
        rw [Bool.and_true]
        cases r1 with | t r1 => cases r2 with | t r2 => exact rd_eq e1 r1 r2 D t hk
      · cases he
    unfold flat at h
    unfold aggB at ha
    split at h
    · rename_i hu; rw [hu] at ha; cases h; cases ha; exact leaf _ rfl rfl hu
    · rename_i k hu; rw [hu] at ha; cases h; cases ha; exact leaf _ rfl rfl ⟨k, hu⟩
    · rename_i hu; rw [hu] at ha; cases h; cases ha; exact leaf _ rfl rfl hu
    · rename_i fs hu
      rw [hu] at ha
      cases ha
      split at h
      · cases h
      · rename_i hst
        obtain ⟨ax, rfl, cx⟩ := hx
        obtain ⟨ay, rfl, cy⟩ := hy
        have hf : P.fieldsOf t = fs := by simp [Program.fieldsOf, hu]
        rw [run_equalIn_struct w D t ax ay (by rw [hf]; exact hu) (by simpa using hst), hf]
        obtain ⟨l1, l2⟩ := eqCs_len he
        exact flat_fields (fun t ks ag x y xs ys b h1 h2 h3 h4 h5 => flat_eq d t ks ag x y xs ys b D (by omega) h1 h2 h3 h4 h5) fs.toList 0 ks ax ay xs ys b h cx cy (by simp [l1]) (by simp [l2]) (by simpa using he)
    · cases h
theorem eqCs_at : ∀ {n : Nat} {xs ys : List C} {b : Bool}, eqCs (List.replicate n .int) xs ys = some b → ∃ f : Nat → Bool, (∀ i, i < n → ∃ p q, xs[i]? = some (.t p) ∧ ys[i]? = some (.t q) ∧ eqD .int p q = some (f i)) ∧ b = (List.range' 0 n 1).all f
  | 0, xs, ys, b, h => by
    cases xs with
    | nil => cases ys with
      | nil => cases h; exact ⟨fun _ => true, fun i hi => absurd hi (by omega), rfl⟩
      | cons y ys => cases h
    | cons x xs => cases x <;> cases h
  | n + 1, xs, ys, b, h => by
    rw [List.replicate_succ] at h
    cases xs with
    | nil => cases h
    | cons x xs => cases ys with
      | nil => cases x <;> cases h
      | cons y ys =>
        cases x <;> cases y <;> simp only [eqCs] at h <;> try (cases h; done)
        rename_i p q
        split at h
        · rename_i r r' h1 h2
          cases h
          obtain ⟨f, f1, f2⟩ := eqCs_at h2
          refine ⟨fun i => match i with | 0 => r | i + 1 => f i, fun i hi => ?_, ?_⟩
          · cases i with
            | zero => exact ⟨p, q, rfl, rfl, h1⟩
            | succ i => obtain ⟨p', q', e1, e2, e3⟩ := f1 i (by omega); exact ⟨p', q', by simpa using e1, by simpa using e2, e3⟩
          · rw [f2, List.range'_succ, List.all_cons]
            congr 1
            have e : List.range' (0 + 1) n 1 = (List.range' 0 n 1).map (fun x => 1 + x) := by rw [List.map_add_range']
            rw [e, List.all_map]
            congr 1
            funext i
            simp [Nat.add_comm 1 i]
        · cases h
theorem equal_arr (d : Nat) (t e : TypeId) (n : Nat) (k : IntKind) (ht : P.underlying t = some (.array n e)) (he : P.underlying e = some (.int k)) (hsz : sizeB P e = some 1) (ax ay : Array Value) (xs ys : List C) (b : Bool) (hx : Cells w g ax xs) (hy : Cells w g ay ys)
    (hb : eqCs (List.replicate n .int) xs ys = some b) : (Op.equalIn (d + 2) t (.agg ax) (.agg ay)).run P w = .ok b w := by
  obtain ⟨f, f1, rfl⟩ := eqCs_at hb
  have hag : aggB P e = some false := by simp [aggB, he]
  rw [Op.equalIn]
  simp only [Sem.run_bind, run_underlying ht, Result.andThen_ok, run_sizeB hsz, Std.Legacy.Range.forIn_eq_forIn_range', Std.Legacy.Range.size, Nat.sub_zero, Nat.add_sub_cancel, Nat.div_one]
  have hl : ∀ i ∈ List.range' 0 n 1, i < n := fun i hi => by simpa using (List.mem_range'_1.1 hi).2
  generalize List.range' 0 n 1 = l at hl ⊢
  induction l with
  | nil => simp
  | cons i l ih =>
    obtain ⟨p, q, e1, e2, e3⟩ := f1 i (hl i (by simp))
    obtain ⟨u, u1, u2⟩ := hx.2 i _ e1
    obtain ⟨v, v1, v2⟩ := hy.2 i _ e2
    have px : (part e ax (i * 1)).run P w = .ok u w := by simp [part, run_isAgg hag, u1]
    have py : (part e ay (i * 1)).run P w = .ok v w := by simp [part, run_isAgg hag, v1]
    have pe : (Op.equalIn (d + 1) e u v).run P w = .ok (f i) w := by cases u2 with | t u2 => cases v2 with | t v2 => exact rd_eq (P := P) e3 u2 v2 d e ⟨k, he⟩
    simp only [List.forIn_cons, Sem.run_bind, px, py, pe, Result.andThen_ok, List.all_cons]
    cases hb : f i
    · simp
    · simp only [Bool.not_true, Bool.false_eq_true, if_false, Sem.run_pure, Result.andThen_ok, Bool.true_and]
      exact ih fun j hj => hl j (by simp [hj])
end

section
variable {P : Program} {N : Nat} {o : Oper} {ρ : Env} {ts : List Nat} {hl : List Ob} {p : Prop} {s : Res}
theorem s_eqAgg {neg : Bool} {t u : TypeId} {x y : Operand} {ax ay : AX} {ks : List LK} (ho : o.op = .binOp (if neg then .neq else .eql) t x y u) (h1 : trX x = some ax) (h2 : trX y = some ay) (t1 : ∀ t ∈ ax.ts, t ∈ ts) (t2 : ∀ t ∈ ay.ts, t ∈ ts)
    (ht : (flat P 6 t = some ks ∧ ∃ fs, P.underlying t = some (.struct fs)) ∨ ∃ n e k, P.underlying t = some (.array n e) ∧ P.underlying e = some (.int k) ∧ sizeB P e = some 1 ∧ ks = List.replicate n .int) (hg : P.eqGuardType P.depth t = false)
    (h : aop (.eqAgg neg ks ax ay) ρ hl = some (p, s)) : OpR P N o ρ ts hl s := by
  simp only [aop] at h
  split at h
  · rename_i cx cy e1 e2
    split at h
    · rename_i b hb
      obtain rfl := ret_v h
      refine OpR.val rfl rfl fun a w g hh _ hR he => ?_
      obtain ⟨arx, r1, r2⟩ := rv_agg (ev_ok h1 he t1 e1)
      obtain ⟨ary, r3, r4⟩ := rv_agg (ev_ok h2 he t2 e2)
      have heq : (Op.equalIn 10000 t (.agg arx) (.agg ary)).run P w = .ok b w := by
        rcases ht with ⟨hf, fs, hu⟩ | ⟨n, e, k, hu, hk, hz, rfl⟩
        · exact flat_eq 6 t ks true _ _ cx cy b 10000 (by omega) hf (by simp [aggB, hu]) ⟨arx, rfl, r2⟩ ⟨ary, rfl, r4⟩ hb
        · exact equal_arr 9998 t e n k hu hk hz arx ary cx cy b r2 r4 hb
      refine ⟨_, ?_, rv_b _⟩
      simp only [execOp, ho, r1, r3]
      refine run_v ?_
      cases neg
      · simp [run_eqGuard_agg w .eql t x y arx ary hg, run_eql_struct, heq]
      · simp [run_eqGuard_agg w .neq t x y arx ary hg, run_neq_struct, heq]
    · cases h
  · cases h
theorem ptr_nn (d : Nat) {t e : TypeId} (hu : P.underlying t = some (.pointer e)) (w : World) : (Op.equalIn (d + 1) t (.pointer none) (.pointer none)).run P w = .ok true w := by simp [Op.equalIn, run_underlying hu]
theorem ptr_pn (d : Nat) {t e : TypeId} (hu : P.underlying t = some (.pointer e)) (a : Addr) (w : World) : (Op.equalIn (d + 1) t (.pointer (some a)) (.pointer none)).run P w = .ok false w := by simp [Op.equalIn, run_underlying hu]
theorem ptr_np (d : Nat) {t e : TypeId} (hu : P.underlying t = some (.pointer e)) (a : Addr) (w : World) : (Op.equalIn (d + 1) t (.pointer none) (.pointer (some a))).run P w = .ok false w := by simp [Op.equalIn, run_underlying hu]
theorem ptr_pp (d : Nat) {t e : TypeId} {n : Nat} (hu : P.underlying t = some (.pointer e)) (hsz : sizeB P e = some (n + 1)) (a : Addr) (w : World) : (Op.equalIn (d + 1) t (.pointer (some a)) (.pointer (some a))).run P w = .ok true w := by simp [Op.equalIn, run_underlying hu, run_sizeB hsz, sameAddr]
theorem s_eqPtr {neg : Bool} {t u e : TypeId} {n : Nat} {x y : Operand} {ax ay : AX} (ho : o.op = .binOp (if neg then .neq else .eql) t x y u) (h1 : trX x = some ax) (h2 : trX y = some ay) (t1 : ∀ t ∈ ax.ts, t ∈ ts) (t2 : ∀ t ∈ ay.ts, t ∈ ts)
    (hu : P.underlying t = some (.pointer e)) (hsz : sizeB P e = some (n + 1)) (h : aop (.eqPtr neg ax ay) ρ hl = some (p, s)) : OpR P N o ρ ts hl s := by
  have key : ∀ (a : Act) (w : World) (u v : Option Addr) (b : Bool), a.eval x = .pointer u → a.eval y = .pointer v → (Op.equalIn 10000 t (.pointer u) (.pointer v)).run P w = .ok b w →
      (execOp a.eval o).run P w = .ok (.value (.bool (bif neg then !b else b))) w := by
    intro a w u v b hx hy hb
    simp only [execOp, ho, hx, hy]
    refine run_v ?_
    cases neg
    · simp [eqGuard, binOp, Op.equal, Op.maxDepth, hb]
    · simp [eqGuard, binOp, Op.equal, Op.maxDepth, hb]
  simp only [aop] at h
  split at h
  · rename_i e1 e2
    obtain rfl := ret_v h
    refine OpR.val rfl rfl fun a w g hh _ hR he => ?_
    have r1 := rv_c (ev_ok h1 he t1 e1)
    have r2 := rv_c (ev_ok h2 he t2 e2)
    generalize hx : a.eval x = v1 at *
    generalize hy : a.eval y = v2 at *
    cases r1; cases r2
    exact ⟨_, key a w none none true hx hy (ptr_nn 9999 hu w), by cases neg <;> exact rv_b _⟩
  · rename_i i k e1 e2
    obtain rfl := ret_v h
    refine OpR.val rfl rfl fun a w g hh _ hR he => ?_
    have r1 := rv_c (ev_ok h1 he t1 e1)
    have r2 := rv_c (ev_ok h2 he t2 e2)
    generalize hx : a.eval x = v1 at *
    generalize hy : a.eval y = v2 at *
    cases r1; cases r2
    exact ⟨_, key a w _ none false hx hy (ptr_pn 9999 hu _ w), by cases neg <;> exact rv_b _⟩
  · rename_i i k e1 e2
    obtain rfl := ret_v h
    refine OpR.val rfl rfl fun a w g hh _ hR he => ?_
    have r1 := rv_c (ev_ok h1 he t1 e1)
    have r2 := rv_c (ev_ok h2 he t2 e2)
    generalize hx : a.eval x = v1 at *
    generalize hy : a.eval y = v2 at *
    cases r1; cases r2
    exact ⟨_, key a w none _ false hx hy (ptr_np 9999 hu _ w), by cases neg <;> exact rv_b _⟩
  · rename_i i k j m e1 e2
    cases hb : (Nat.beq i j && Nat.beq k m) with
    | false => simp [hb] at h
    | true =>
      simp only [hb, cond_true] at h
      obtain rfl := ret_v h
      simp only [Bool.and_eq_true] at hb
      obtain rfl := Nat.eq_of_beq_eq_true hb.1
      obtain rfl := Nat.eq_of_beq_eq_true hb.2
      refine OpR.val rfl rfl fun a w g hh _ hR he => ?_
      have r1 := rv_c (ev_ok h1 he t1 e1)
      have r2 := rv_c (ev_ok h2 he t2 e2)
      generalize hx : a.eval x = v1 at *
      generalize hy : a.eval y = v2 at *
      cases r1 with
      | ptr _ hm hn => cases r2 with
        | ptr _ hm' hn' =>
          obtain rfl := Option.some.inj (hm.symm.trans hm')
          exact ⟨_, key a w _ _ true hx hy (ptr_pp 9999 hu hsz _ w), by cases neg <;> exact rv_b _⟩
  · cases h
theorem fn_nn (d : Nat) {t : TypeId} {p1 p2 : Array TypeId} {vr : Bool} (hu : P.underlying t = some (.func p1 p2 vr)) (w : World) : (Op.equalIn (d + 1) t .nilFunc .nilFunc).run P w = .ok true w := by simp [Op.equalIn, run_underlying hu]
theorem fn_fn (d : Nat) {t : TypeId} {p1 p2 : Array TypeId} {vr : Bool} (hu : P.underlying t = some (.func p1 p2 vr)) (f : Fn) (b1 b2 : Array Value) (w : World) : (Op.equalIn (d + 1) t (.func f b1 b2) .nilFunc).run P w = .ok false w := by simp [Op.equalIn, run_underlying hu]
theorem s_eqFn {neg : Bool} {t u : TypeId} {x y : Operand} {ax : AX} {p1 p2 : Array TypeId} {vr : Bool} (ho : o.op = .binOp (if neg then .neq else .eql) t x y u) (h1 : trX x = some ax) (hy : y = .const .nilFunc) (t1 : ∀ t ∈ ax.ts, t ∈ ts)
    (hu : P.underlying t = some (.func p1 p2 vr)) (h : aop (.eqFn neg ax) ρ hl = some (p, s)) : OpR P N o ρ ts hl s := by
  subst hy
  have key : ∀ (a : Act) (w : World) (u : Value) (b : Bool), a.eval x = u → (Op.equalIn 10000 t u .nilFunc).run P w = .ok b w →
      (execOp a.eval o).run P w = .ok (.value (.bool (bif neg then !b else b))) w := by
    intro a w u b hx hb
    have hyy : a.eval (.const .nilFunc) = .nilFunc := rfl
    simp only [execOp, ho, hx, hyy]
    refine run_v ?_
    cases neg
    · simp [eqGuard, binOp, Op.equal, Op.maxDepth, hb]
    · simp [eqGuard, binOp, Op.equal, Op.maxDepth, hb]
  simp only [aop] at h
  split at h
  · rename_i e1
    obtain rfl := ret_v h
    refine OpR.val rfl rfl fun a w g hh _ hR he => ?_
    have r1 := rv_c (ev_ok h1 he t1 e1)
    generalize hx : a.eval x = v1 at *
    cases r1
    exact ⟨_, key a w _ true hx (fn_nn 9999 hu w), by cases neg <;> exact rv_b _⟩
  · rename_i f cs e1
    obtain rfl := ret_v h
    refine OpR.val rfl rfl fun a w g hh _ hR he => ?_
    have r1 := rv_c (ev_ok h1 he t1 e1)
    generalize hx : a.eval x = v1 at *
    cases r1
    exact ⟨_, key a w _ false hx (fn_fn 9999 hu _ _ _ w), by cases neg <;> exact rv_b _⟩
  · rename_i f id off e1
    obtain rfl := ret_v h
    refine OpR.val rfl rfl fun a w g hh _ hR he => ?_
    have r1 := rv_c (ev_ok h1 he t1 e1)
    generalize hx : a.eval x = v1 at *
    cases r1
    exact ⟨_, key a w _ false hx (fn_fn 9999 hu _ _ _ w), by cases neg <;> exact rv_b _⟩
  · cases h
theorem s_cap {c : Call} {t e : TypeId} {x : Operand} {ax : AX} (ho : o.op = .call c) (hc : c.callee = .builtin .cap) (ht : c.argTypes[0]? = some t) (hu : P.underlying t = some (.slice e)) (hargs : c.args.toList = [x]) (h1 : trX x = some ax) (t1 : ∀ t ∈ ax.ts, t ∈ ts)
    (h : aop (.cap ax) ρ hl = some (p, s)) : OpR P N o ρ ts hl s := by
  have ha : c.args = #[x] := by rw [← Array.toArray_toList (xs := c.args), hargs]
  simp only [aop] at h
  split at h
  · rename_i e1
    obtain rfl := ret_v h
    refine OpR.val rfl rfl fun a w g hh _ hR he => ?_
    have r1 := rv_d (ev_ok h1 he t1 e1)
    generalize hx : a.eval x = v1 at *
    cases r1 with
    | nil A =>
      refine ⟨.int .i64 0, ?_, rv_i _ _⟩
      simp [execOp, ho, resolve, hc, invoke, builtin, ha, Builtin.cap_, ht, run_underlying hu, goInt, hx]
  · cases h
theorem s_sliceA {t e : TypeId} {n : Nat} {x : Operand} {lo hi : Option Operand} {ax : AX} {al ah : Option AX} (ho : o.op = .slice t x lo hi none) (h1 : trX x = some ax) (h2 : trXo lo = some al) (h3 : trXo hi = some ah)
    (t1 : ∀ t ∈ ax.ts, t ∈ ts) (t2 : ∀ y, al = some y → ∀ t ∈ y.ts, t ∈ ts) (t3 : ∀ y, ah = some y → ∀ t ∈ y.ts, t ∈ ts)
    (hu : P.underlying t = some (.array n e)) (hsz : sizeB P e = some 1) (h : aop (.sliceA n ax al ah) ρ hl = some (p, s)) (hp : p) : OpR P N o ρ ts hl s := by
  simp only [aop] at h
  split at h
  · rename_i id m l r e1 e2 e3
    split at h
    · rename_i sz' rows hid
      cases h
      obtain ⟨rfl, rfl, p3, p4, p5, p6⟩ := hp
      refine OpR.val rfl rfl fun a w g hh hrd hR he => ?_
      have r2 := bndI_ok h2 he t2 e2
      have r3 := bndI_ok h3 he t3 e3
      have r1 := rv_c (ev_ok h1 he t1 e1)
      have hob : hh id = .arr 1 rows := (hrd id (by simp)).trans hid
      obtain ⟨_, lc, m0, m1, hcase⟩ := hob ▸ hR.objs id (by rw [hob]; rfl)
      generalize hx : a.eval x = v at *
      cases r1 with
      | pa _ hμ hn ht =>
        rename_i lc'
        obtain rfl : lc = lc' := Option.some.inj (m0.symm.trans hμ)
        have hb := run_bounds (P := P) (w := w) (a := a) false m m r2 r3 p4 p5 p6
        have key : (execOp a.eval o).run P w = .ok (.value (.slice (some (if m = (l.getD 0).toNat then ⟨lc.blk, 0, none⟩ else (⟨lc.blk, 0, none⟩ : Addr).add ((l.getD 0).toNat * 1))) ((r.getD (m : Int)).toNat - (l.getD 0).toNat) (m - (l.getD 0).toNat))) w := by
          simp only [execOp, ho, hx]
          refine run_v ?_
          simp [Instr.sliceAt, run_underlying hu, Instr.sureAddr, hb, run_sizeB hsz]
        refine ⟨_, key, ?_⟩
        by_cases hcl : m = (l.getD 0).toNat
        · rw [if_pos hcl, show (r.getD (m : Int)).toNat - (l.getD 0).toNat = 0 by omega, show m - (l.getD 0).toNat = 0 by omega]
          exact .e (.c (.slz _ _ hμ (by omega)))
        · rw [if_neg hcl]
          simp only [Addr.add_mid]
          have e : 0 + (l.getD 0).toNat * 1 = (l.getD 0).toNat * lc.sz := by rw [m1]; omega
          rw [e]
          have e4 : m - (l.getD 0).toNat = lc.tot - (l.getD 0).toNat := by rw [ht]
          rw [e4]
          exact .e (.c (.sl _ _ hμ hn (by omega)))
    · cases h
  · cases h
end
end Go.Proofs.YthddlkhfkncgpaaGreat
set_option linter.unusedVariables false
set_option linter.unusedSimpArgs false
namespace Go.Proofs.YthddlkhfkncgpaaGreat
open Go.RowKit

theorem putAt_length {α : Type} : ∀ (xs : List α) (cs : List α) (off : Nat), (putAt cs off xs).length = cs.length
  | [], cs, off => rfl
  | x :: xs, cs, off => by simp only [putAt]; rw [putAt_length xs]; simp
theorem putAt_get {α : Type} : ∀ (xs : List α) (cs : List α) (off q : Nat), (putAt cs off xs)[q]? = if off ≤ q ∧ q < off + xs.length ∧ q < cs.length then xs[q - off]? else cs[q]?
  | [], cs, off, q => by simp only [putAt, List.length_nil]; rw [if_neg (by omega)]
  | x :: xs, cs, off, q => by
    simp only [putAt]
    rw [putAt_get xs (cs.set off x) (off + 1) q]
    simp only [List.length_set, List.length_cons, List.getElem?_set]
    by_cases h1 : off = q
    · subst h1
      rw [if_neg (by omega)]
      by_cases h2 : off < cs.length
      · rw [if_pos rfl, if_pos h2, if_pos (by omega)]; simp
      · rw [if_pos rfl, if_neg h2, if_neg (by omega)]; rw [List.getElem?_eq_none (by omega)]
    · rw [if_neg h1]
      by_cases h2 : off + 1 ≤ q ∧ q < off + 1 + xs.length ∧ q < cs.length
      · rw [if_pos h2, if_pos (by omega)]
        rw [show q - off = (q - (off + 1)) + 1 by omega, List.getElem?_cons_succ]
      · rw [if_neg h2, if_neg (by omega)]
theorem fold_size : ∀ (l : List Value) (k : Nat) (off : Nat) (arr : Array Value), ((l.zipIdx k).foldl (fun cs (x : Value × Nat) => cs.setIfInBounds (off + x.2) x.1) arr).size = arr.size
  | [], k, off, arr => rfl
  | x :: l, k, off, arr => by simp only [List.zipIdx_cons, List.foldl_cons]; rw [fold_size l]; simp
theorem fold_get : ∀ (l : List Value) (k : Nat) (off : Nat) (arr : Array Value) (q : Nat), ((l.zipIdx k).foldl (fun cs (x : Value × Nat) => cs.setIfInBounds (off + x.2) x.1) arr)[q]? = if off + k ≤ q ∧ q < off + k + l.length ∧ q < arr.size then l[q - (off + k)]? else arr[q]?
  | [], k, off, arr, q => by simp only [List.zipIdx_nil, List.foldl_nil, List.length_nil]; rw [if_neg (by omega)]
  | x :: l, k, off, arr, q => by
    simp only [List.zipIdx_cons, List.foldl_cons]
    rw [fold_get l]
    simp only [Array.size_setIfInBounds, List.length_cons, Array.getElem?_setIfInBounds]
    by_cases h1 : off + k = q
    · subst h1
      rw [if_neg (by omega)]
      by_cases h2 : off + k < arr.size
      · rw [if_pos rfl, if_pos h2, if_pos (by omega)]; simp
      · rw [if_pos rfl, if_neg h2, if_neg (by omega)]; rw [Array.getElem?_eq_none (by omega)]
    · rw [if_neg h1]
      by_cases h2 : off + (k + 1) ≤ q ∧ q < off + (k + 1) + l.length ∧ q < arr.size
      · rw [if_pos h2, if_pos (by omega)]
        rw [show q - (off + k) = (q - (off + (k + 1))) + 1 by omega, List.getElem?_cons_succ]
      · rw [if_neg h2, if_neg (by omega)]
def placeIn (arr : Array Value) (off : Nat) (v : Value) : Array Value := v.cells.zipIdx.foldl (fun cs (x : Value × Nat) => cs.setIfInBounds (off + x.2) x.1) arr
theorem placeIn_list (arr : Array Value) (off : Nat) (v : Value) : placeIn arr off v = (v.cells.toList.zipIdx 0).foldl (fun cs (x : Value × Nat) => cs.setIfInBounds (off + x.2) x.1) arr := by
  unfold placeIn
  rw [← Array.foldl_toList, Array.toList_zipIdx]
section
variable {P : Program} {w : World} {g : Gh}
theorem Cells.place {arr : Array Value} {cs : List C} {v : Value} {e : E} (h : Cells w g arr cs) (hv : RE w g v e) (off : Nat) : Cells w g (placeIn arr off v) (putAt cs off e.cells) := by
  obtain ⟨h1, h2⟩ := re_cells hv
  rw [placeIn_list]
  refine ⟨by rw [fold_size, putAt_length, h.1], fun j c hj => ?_⟩
  rw [putAt_get] at hj
  rw [fold_get]
  have hs : v.cells.toList.length = e.cells.length := by simpa using h1
  rw [hs, h.1, Nat.add_zero]
  split at hj
  · rename_i hc
    rw [if_pos hc]
    obtain ⟨u, u1, u2⟩ := h2 _ c hj
    exact ⟨u, by simpa using u1, u2⟩
  · rename_i hc
    rw [if_neg hc]
    exact h.2 j c hj
theorem fill_step (place : Nat → Option (Nat × Nat)) (arr : Array Value) (i off n : Nat) (v : Value) (r : List (Nat × Value)) (hp : place i = some (off, n)) (h1 : v.cells.size = n) (h2 : off + n ≤ arr.size) :
    Instr.fill place arr ((i, v) :: r) = Instr.fill place (placeIn arr off v) r := by
  conv => lhs; unfold Instr.fill
  simp only [hp, h1]
  rw [if_neg (by simp; omega)]
  rfl
theorem fill_ok {place : Nat → Option (Nat × Nat)} {ρ : Env} {a : Act} {ts : List Nat} (he : EnvOn w g a ρ ts) :
    ∀ (parts : List (Nat × Operand)) (aps : List (Nat × Nat × AX)) (es : List (Nat × Nat × E)) (arr : Array Value) (zero cs : List C) (p : Prop), aps.length = parts.length →
      (∀ (j : Nat) q r, parts[j]? = some q → aps[j]? = some r → place q.1 = some (r.1, r.2.1) ∧ trX q.2 = some r.2.2 ∧ ∀ t ∈ r.2.2.ts, t ∈ ts) → evP ρ aps = some es → fillC zero es = some (p, cs) → p → Cells w g arr zero →
      ∃ arr', Instr.fill place arr (parts.map fun q => (q.1, a.eval q.2)) = some arr' ∧ Cells w g arr' cs
  | [], aps, es, arr, zero, cs, p, hlen, hh, hev, hf, hp, hc => by
    obtain rfl : aps = [] := List.eq_nil_of_length_eq_zero hlen
    simp [evP] at hev
    subst hev
    simp [fillC] at hf
    obtain ⟨_, rfl⟩ := hf
    exact ⟨arr, rfl, hc⟩
  | (i, x) :: parts, aps, es, arr, zero, cs, p, hlen, hh, hev, hf, hp, hc => by
    cases aps with
    | nil => cases hlen
    | cons r aps =>
      obtain ⟨off, n, ax⟩ := r
      obtain ⟨q1, q2, q3⟩ := hh 0 (i, x) (off, n, ax) rfl rfl
      unfold evP at hev
      split at hev
      · rename_i e l e1 e2
        cases hev
        unfold fillC at hf
        split at hf
        · rename_i p' cs' hf'
          cases hf
          obtain ⟨⟨c1, c2⟩, c3⟩ := hp
          have hv := rv_e (ev_ok q2 he q3 e1)
          obtain ⟨k1, _⟩ := re_cells hv
          obtain ⟨arr', i1, i2⟩ := fill_ok he parts aps l (placeIn arr off (a.eval x)) (putAt zero off e.cells) _ p' (by simpa using hlen) (fun j q r h1 h2 => hh (j + 1) q r (by simpa using h1) (by simpa using h2)) e2 hf' c3 (hc.place hv off)
          refine ⟨arr', ?_, i2⟩
          simp only [List.map_cons]
          rw [fill_step place arr i off n _ _ q1 (by rw [k1, c1]) (by rw [hc.1]; exact c2)]
          exact i1
        · cases hf
      · cases hev
theorem zeroB_ok {t : TypeId} {z : Array Value} (h : zeroB P t = some z) : ∃ v, (∀ w, (zeroValue t).run P w = .ok v w) ∧ v.cells = z := by
  unfold zeroB at h
  cases hi : P.info? t with
  | none => simp [hi] at h
  | some i => cases hz : i.zero with
    | none => simp [hi, hz] at h
    | some v => simp [hi, hz] at h; exact ⟨v, fun w => by simp [zeroValue, typeInfo, hi, hz], h⟩
theorem zeroC_ok {t : TypeId} {cs : List C} (h : zeroC P t = some cs) : ∃ v, (∀ w, (zeroValue t).run P w = .ok v w) ∧ ∀ w g, Cells w g v.cells cs := by
  unfold zeroC at h
  cases hz : zeroB P t with
  | none => simp [hz] at h
  | some z =>
    simp [hz] at h
    obtain ⟨v, h1, rfl⟩ := zeroB_ok hz
    obtain ⟨l1, l2⟩ := listM_ok h
    refine ⟨v, h1, fun w g => ⟨by simpa using l1, fun j c hj => ?_⟩⟩
    obtain ⟨u, u1, u2⟩ := l2 j c hj
    exact ⟨u, by simpa using u1, toC_ok u2 w g⟩
theorem zeroD_ok {t : TypeId} {ds : List D} (h : zeroD P t = some ds) : ∃ v, (∀ w, (zeroValue t).run P w = .ok v w) ∧ v.cells.size = ds.length ∧ ∀ w I (j : Nat) d, ds[j]? = some d → ∃ u, v.cells[j]? = some u ∧ Rd w I u d := by
  unfold zeroD at h
  cases hz : zeroB P t with
  | none => simp [hz] at h
  | some z =>
    simp [hz] at h
    obtain ⟨v, h1, rfl⟩ := zeroB_ok hz
    obtain ⟨l1, l2⟩ := listM_ok h
    refine ⟨v, h1, by simpa using l1, fun w I j c hj => ?_⟩
    obtain ⟨u, u1, u2⟩ := l2 j c hj
    exact ⟨u, by simpa using u1, toD_ok u2 w I⟩
theorem run_places {fs : Array Field} {ns : List (Nat × Nat)} (h : listM (fun (f : Field) => (sizeB P f.type).map fun n => (f.offset, n)) fs.toList = some ns) (w : World) :
    (fs.mapM fun f => do pure (f.offset, ← sizeOf f.type) : Sem (Array (Nat × Nat))).run P w = .ok ns.toArray w := by
  rw [Array.mapM_eq_mapM_toList]
  have key : ∀ (l : List Field) (ns : List (Nat × Nat)), listM (fun (f : Field) => (sizeB P f.type).map fun n => (f.offset, n)) l = some ns → (l.mapM fun f => do pure (f.offset, ← sizeOf f.type) : Sem (List (Nat × Nat))).run P w = .ok ns w := by
    intro l
    induction l with
    | nil => intro ns h; simp [listM] at h; subst h; simp
    | cons f l ih =>
      intro ns h
      unfold listM at h
      cases hs : sizeB P f.type with
      | none => simp [hs] at h
      | some n => cases hl : listM (fun (f : Field) => (sizeB P f.type).map fun n => (f.offset, n)) l with
        | none => simp [hs, hl] at h
        | some r =>
          simp [hs, hl] at h
          subst h
          rw [List.mapM_cons]
          simp only [Sem.run_bind, run_sizeB hs, Result.andThen_ok, Sem.run_pure, ih r hl]
  simp only [Sem.run_map, key _ _ h, Result.andThen_ok]
end
section
variable {P : Program} {N : Nat} {o : Oper} {ρ : Env} {ts : List Nat} {hl : List Ob} {p : Prop} {s : Res}
theorem s_buildS {t : TypeId} {parts : Array (Nat × Operand)} {zero : List C} {fs : List (Nat × Nat)} {aps : List (Nat × Nat × AX)} (ho : o.op = .build t parts) (hz : zeroC P t = some zero) (hf : fieldsB P t = some fs)
    (hp : listM (fun (p : Nat × Operand) => match fs[p.1]?, trX p.2 with | some (off, n), some x => some (off, n, x) | _, _ => none) parts.toList = some aps) (t1 : ∀ r ∈ aps, ∀ t ∈ r.2.2.ts, t ∈ ts)
    (h : aop (.build zero aps) ρ hl = some (p, s)) (hpp : p) : OpR P N o ρ ts hl s := by
  simp only [aop] at h
  split at h
  · rename_i es e1
    split at h
    · rename_i q cs e2
      cases h
      refine OpR.val rfl rfl fun a w g hh _ hR he => ?_
      obtain ⟨v, z1, z2⟩ := zeroC_ok hz
      obtain ⟨l1, l2⟩ := listM_ok hp
      unfold fieldsB at hf
      split at hf
      · rename_i fds hu
        obtain ⟨arr', i1, i2⟩ := fill_ok (place := fun i => fs[i]?) he parts.toList aps es v.cells zero cs _ l1.symm (fun j q r h1 h2 => by
          obtain ⟨a', a1, a2⟩ := l2 j r h2
          rw [h1] at a1
          injection a1 with a1
          subst a1
          split at a2
          · rename_i off n x b1 b2
            cases a2
            exact ⟨b1, b2, t1 _ (List.mem_of_getElem? h2)⟩
          · cases a2) e1 e2 hpp (z2 w g)
        refine ⟨.agg arr', ?_, i2.all⟩
        simp only [execOp, ho]
        refine run_v ?_
        have hpl := run_places (P := P) hf w
        have hmap : (parts.map fun x => (x.1, a.eval x.2)).toList = parts.toList.map fun q => (q.1, a.eval q.2) := by simp
        have hget : (fun x : Nat => fs.toArray[x]?) = fun i => fs[i]? := by funext i; simp
        simp only [Instr.build, Sem.run_bind, z1 w, Result.andThen_ok, run_underlying hu, hpl, hmap, hget, i1, Sem.run_pure]
      · cases hf
    · cases h
  · cases h
theorem s_buildA {t e : TypeId} {len sz : Nat} {parts : Array (Nat × Operand)} {zero : List C} {aps : List (Nat × Nat × AX)} (ho : o.op = .build t parts) (hz : zeroC P t = some zero) (hu : P.underlying t = some (.array len e)) (hsz : sizeB P e = some sz)
    (hp : listM (fun (p : Nat × Operand) => (trX p.2).map fun x => (p.1 * sz, sz, x)) parts.toList = some aps) (t1 : ∀ r ∈ aps, ∀ t ∈ r.2.2.ts, t ∈ ts)
    (h : aop (.build zero aps) ρ hl = some (p, s)) (hpp : p) : OpR P N o ρ ts hl s := by
  simp only [aop] at h
  split at h
  · rename_i es e1
    split at h
    · rename_i q cs e2
      cases h
      refine OpR.val rfl rfl fun a w g hh _ hR he => ?_
      obtain ⟨v, z1, z2⟩ := zeroC_ok hz
      obtain ⟨l1, l2⟩ := listM_ok hp
      obtain ⟨arr', i1, i2⟩ := fill_ok (place := fun i => some (i * sz, sz)) he parts.toList aps es v.cells zero cs _ l1.symm (fun j q r h1 h2 => by
          obtain ⟨a', a1, a2⟩ := l2 j r h2
          rw [h1] at a1
          injection a1 with a1
          subst a1
          cases hx : trX q.2 with
          | none => simp [hx] at a2
          | some x =>
            simp [hx] at a2
            subst a2
            exact ⟨rfl, rfl, t1 _ (List.mem_of_getElem? h2)⟩) e1 e2 hpp (z2 w g)
      refine ⟨.agg arr', ?_, i2.all⟩
      simp only [execOp, ho]
      refine run_v ?_
      have hmap : (parts.map fun x => (x.1, a.eval x.2)).toList = parts.toList.map fun q => (q.1, a.eval q.2) := by simp
      simp only [Instr.build, Sem.run_bind, z1 w, Result.andThen_ok, run_underlying hu, run_sizeB hsz, hmap, i1, Sem.run_pure]
    · cases h
  · cases h
end
end Go.Proofs.YthddlkhfkncgpaaGreat
set_option linter.unusedVariables false
set_option linter.unusedSimpArgs false
namespace Go.Proofs.YthddlkhfkncgpaaGreat
open Go.RowKit

def Gh.set (g : Gh) (i : Nat) (l : Loc) (F : Nat → Prop) : Gh := { I := g.I, μ := fun j => if j = i then some l else g.μ j, fp := fun j => if j = i then F else g.fp j }
def Gh.more (g : Gh) (b : Nat) : Gh := { I := fun c => g.I c ∨ c = b, μ := g.μ, fp := g.fp }
theorem Gh.set_gm {g : Gh} {i : Nat} {l : Loc} {F : Nat → Prop} (h : g.μ i = none) : Gm g (g.set i l F) :=
  ⟨fun _ h => h, fun j m hm => by
    simp only [Gh.set]
    rw [if_neg (by rintro rfl; rw [h] at hm; cases hm)]
    exact hm⟩
theorem Gh.more_gm (g : Gh) (b : Nat) : Gm g (g.more b) := ⟨fun _ h => .inl h, fun _ _ h => h⟩
theorem isNew1 {base i : Nat} : isNew base 1 i ↔ i = base := by simp [isNew]; omega
theorem app_new1 {v : V} {rd : List Nat} {ob : Ob} {base : Nat} {h : Nat → Ob} (hd : h base = .dead) (i : Nat) : Res.app { v := v, rd := rd, nw := [ob] } base h i = if i = base then ob else h i := by
  simp only [Res.app, getO]
  by_cases h1 : i = base
  · subst h1; simp
  · rw [if_neg h1]
    split
    · rw [List.getElem?_eq_none (by simp; omega)]
    · rfl
section
variable {w w' : World} {g : Gh} {h : Nat → Ob} {base : Nat}
/-- A new object. -/
theorem alloc1 (hR : Rl w g h) (hk : Keeps Nope w w') (hnew : ∀ i, isNew base 1 i → g.μ i = none ∧ h i = .dead) (l : Loc) (F : Nat → Prop) (ob : Ob) (hF : ∀ b, F b → w.heap.size ≤ b) (ho : HO w' (g.set base l F) base ob) (v : V) (rd : List Nat) :
    Rl w' (g.set base l F) (Res.app { v := v, rd := rd, nw := [ob] } base h) ∧ Go1 w g h [] base 1 w' (g.set base l F) (Res.app { v := v, rd := rd, nw := [ob] } base h) := by
  obtain ⟨n1, n2⟩ := hnew base (isNew1.2 rfl)
  have happ := app_new1 (v := v) (rd := rd) (ob := ob) n2
  have hg : Go1 w g h [] base 1 w' (g.set base l F) (Res.app { v := v, rd := rd, nw := [ob] } base h) := by
    refine ⟨hk.mono (fun _ _ f => f.elim), Gh.set_gm n1, fun b hb => .inl hb, fun i hi hn => ?_, fun i _ hi => ?_, fun i b hi hl hb => ?_⟩
    · rw [isNew1] at hi; simp only [Gh.set]; rw [if_neg hi]; exact hn
    · rw [isNew1] at hi; simp only [Gh.set]; rw [if_neg hi]
    · rcases hi with hi | hi
      · cases hi
      · rw [isNew1] at hi
        subst hi
        simp only [Gh.set, if_true] at hb
        exact .inr (hF b hb)
  refine ⟨hR.step hg (fun i _ hi => ?_) (fun i hi => ?_) (fun i hi hl => ?_) (fun i j b hi hj _ _ _ _ => ?_) (fun i b hi hl hb => ?_) (fun b hb => Nat.lt_of_lt_of_le (hR.lt b hb) hk.size), hg⟩
  · rw [isNew1] at hi; rw [happ, if_neg hi]
  · rw [isNew1] at hi; subst hi; rw [n2]; rfl
  · rcases hi with hi | hi
    · cases hi
    · rw [isNew1] at hi; subst hi
      rw [happ, if_pos rfl]; exact ho
  · rcases hi with hi | hi
    · cases hi
    · rcases hj with hj | hj
      · cases hj
      · rw [isNew1] at hi hj; rw [hi, hj]
  · rcases hi with hi | hi
    · cases hi
    · rw [isNew1] at hi; subst hi
      simp only [Gh.set, if_true] at hb
      intro hI
      have := hR.lt b hI
      have := hF b hb
      omega
/-- Memory that does not change any more. -/
theorem freeze1 (hR : Rl w g h) (hk : Keeps Nope w w') {b : Nat} (hb1 : w.heap.size ≤ b) (hb2 : b < w'.heap.size) : Rl w' (g.more b) h ∧ Go1 w g h [] base 0 w' (g.more b) h := by
  have hg : Go1 w g h [] base 0 w' (g.more b) h := by
    refine ⟨hk.mono (fun _ _ f => f.elim), g.more_gm b, fun c hc => ?_, fun i _ hn => hn, fun i _ _ => rfl, fun i c hi => by simp [isNew] at hi; omega⟩
    rcases hc with hc | rfl
    · exact .inl hc
    · exact .inr (.inr hb1)
  refine ⟨hR.step hg (fun _ _ _ => rfl) (fun i hi => by simp [isNew] at hi; omega) (fun i hi => by simp [isNew] at hi; omega) (fun i j c hi => by simp [isNew] at hi; omega) (fun i c hi => by simp [isNew] at hi; omega) (fun c hc => ?_), hg⟩
  rcases hc with hc | rfl
  · exact Nat.lt_of_lt_of_le (hR.lt c hc) hk.size
  · exact hb2
/-- An object that is turned. -/
theorem turn1 (hR : Rl w g h) {id : Nat} (hl : (h id).live = true) (hk : Keeps (g.fp id) w w') (ob : Ob) (ho : HO w' g id ob) (v : V) (rd : List Nat) :
    Rl w' g (Res.app { v := v, wr := [(id, ob)], rd := rd } base h) ∧ Go1 w g h [id] base 0 w' g (Res.app { v := v, wr := [(id, ob)], rd := rd } base h) := by
  have happ : ∀ i, Res.app { v := v, wr := [(id, ob)], rd := rd } base h i = if i = id then ob else h i := by
    intro i
    simp only [Res.app, getO]
    by_cases h1 : id = i
    · subst h1; simp
    · rw [if_neg h1, if_neg (Ne.symm h1)]; simp
  have hg : Go1 w g h [id] base 0 w' g (Res.app { v := v, wr := [(id, ob)], rd := rd } base h) := by
    refine ⟨hk.mono (fun b _ hb => ⟨id, by simp, hl, hb⟩), Gm.refl g, fun b hb => .inl hb, fun i _ hn => hn, fun i _ _ => rfl, fun i b hi hli hb => ?_⟩
    rcases hi with hi | hi
    · simp at hi; subst hi
      exact .inl ⟨i, by simp, hl, hb⟩
    · simp [isNew] at hi; omega
  refine ⟨hR.step hg (fun i hi _ => ?_) (fun i hi => by simp [isNew] at hi; omega) (fun i hi hli => ?_) (fun i j b hi hj _ _ _ _ => ?_) (fun i b hi hli hb => ?_) (fun b hb => Nat.lt_of_lt_of_le (hR.lt b hb) hk.size), hg⟩
  · simp at hi; rw [happ, if_neg hi]
  · rcases hi with hi | hi
    · simp at hi; subst hi; rw [happ, if_pos rfl]; exact ho
    · simp [isNew] at hi; omega
  · have : ∀ k, (k ∈ [id] ∨ isNew base 0 k) → k = id := fun k hk => by
      rcases hk with hk | hk
      · simpa using hk
      · simp [isNew] at hk; omega
    rw [this i hi, this j hj]
  · rcases hi with hi | hi
    · simp at hi; subst hi; exact hR.imm i b hl hb
    · simp [isNew] at hi; omega
end

/-- The rows of a block. -/
def RowsIn (w : World) (I : Nat → Prop) (arr : Array Value) (sz : Nat) (rows : List (List D)) : Prop := ∀ (p : Nat) r, rows[p]? = some r → r.length = sz ∧ ∀ (j : Nat) t, r[j]? = some t → ∃ v, arr[p * sz + j]? = some v ∧ Rd w I v t
section
variable {P : Program} {w : World} {g : Gh}
theorem unT_ok : ∀ {cs : List C} {ds : List D}, unT cs = some ds → cs = ds.map .t
  | [], ds, h => by simp [unT] at h; subst h; rfl
  | c :: cs, ds, h => by
    cases c <;> simp only [unT] at h <;> try (cases h; done)
    split at h
    · rename_i r hr; cases h; rw [unT_ok hr]; rfl
    · cases h
theorem RowsIn.place {arr : Array Value} {sz : Nat} {rows : List (List D)} (h : RowsIn w g.I arr sz rows) {v : Value} {e : E} (hv : RE w g v e) {ds : List D} (hd : unT e.cells = some ds) (hl : ds.length = sz) (i : Nat) (hsz : (i + 1) * sz ≤ arr.size) :
    RowsIn w g.I (placeIn arr (i * sz) v) sz (rows.set i ds) := by
  obtain ⟨h1, h2⟩ := re_cells hv
  have he := unT_ok hd
  have hs : v.cells.toList.length = sz := by rw [Array.length_toList, h1, he, List.length_map, hl]
  have hmul : (i + 1) * sz = i * sz + sz := by rw [Nat.add_mul]; simp
  intro p r hr
  rw [List.getElem?_set] at hr
  have hget : ∀ q, (placeIn arr (i * sz) v)[q]? = if i * sz ≤ q ∧ q < i * sz + sz ∧ q < arr.size then v.cells.toList[q - i * sz]? else arr[q]? := fun q => by
    rw [placeIn_list, fold_get, hs, Nat.add_zero]
  split at hr
  · rename_i hip
    subst hip
    split at hr
    · cases hr
      refine ⟨hl, fun j t hj => ?_⟩
      have hjl := (List.getElem?_eq_some_iff.1 hj).1
      rw [hget, if_pos (by omega)]
      obtain ⟨u, u1, u2⟩ := h2 j (.t t) (by rw [he, List.getElem?_map, hj]; rfl)
      refine ⟨u, ?_, by cases u2 with | t u2 => exact u2⟩
      rw [show i * sz + j - i * sz = j by omega]
      simpa using u1
    · cases hr
  · rename_i hip
    obtain ⟨r1, r2⟩ := h p r hr
    refine ⟨r1, fun j t hj => ?_⟩
    have hjl := (List.getElem?_eq_some_iff.1 hj).1
    rw [hget, if_neg ?_]
    · exact r2 j t hj
    · rintro ⟨c1, c2, _⟩
      rcases Nat.lt_or_ge p i with hlt | hge
      · have : (p + 1) * sz ≤ i * sz := Nat.mul_le_mul_right _ hlt
        rw [Nat.add_mul] at this
        omega
      · have : (i + 1) * sz ≤ p * sz := Nat.mul_le_mul_right _ (by omega)
        omega
theorem fillR_ok {ρ : Env} {a : Act} {ts : List Nat} (he : EnvOn w g a ρ ts) {sz : Nat} :
    ∀ (parts : List (Nat × Operand)) (aps : List (Nat × AX)) (arr : Array Value) (rows rows' : List (List D)) (p : Prop), listM (fun (p : Nat × Operand) => (trX p.2).map fun x => (p.1, x)) parts = some aps → (∀ r ∈ aps, ∀ t ∈ r.2.ts, t ∈ ts) →
      fillR sz rows ρ aps = some (p, rows') → p → RowsIn w g.I arr sz rows → arr.size = rows.length * sz →
      ∃ arr', Instr.fill (fun i => some (i * sz, sz)) arr (parts.map fun q => (q.1, a.eval q.2)) = some arr' ∧ RowsIn w g.I arr' sz rows' ∧ arr'.size = arr.size ∧ rows'.length = rows.length
  | [], aps, arr, rows, rows', p, hl, ht, hf, hp, hr, hs => by
    simp [listM] at hl
    subst hl
    simp [fillR] at hf
    obtain ⟨_, rfl⟩ := hf
    exact ⟨arr, rfl, hr, rfl, rfl⟩
  | (i, x) :: parts, aps, arr, rows, rows', p, hl, ht, hf, hp, hr, hs => by
    unfold listM at hl
    cases hx : trX x with
    | none => simp [hx] at hl
    | some ax =>
      cases hr' : listM (fun (p : Nat × Operand) => (trX p.2).map fun x => (p.1, x)) parts with
      | none => simp [hx, hr'] at hl
      | some aps' =>
        simp [hx, hr'] at hl
        subst hl
        unfold fillR at hf
        split at hf
        · rename_i e e1
          split at hf
          · rename_i ds hd
            split at hf
            · rename_i p' rs hf'
              cases hf
              obtain ⟨⟨c1, c2⟩, c3⟩ := hp
              have hv := rv_e (ev_ok hx he (ht (i, ax) (by simp)) e1)
              have hb : (i + 1) * sz ≤ arr.size := by rw [hs]; exact Nat.mul_le_mul_right _ c2
              have hb2 : (i + 1) * sz = i * sz + sz := by rw [Nat.add_mul]; simp
              have hcs : (a.eval x).cells.size = sz := by rw [(re_cells hv).1, unT_ok hd, List.length_map, c1]
              obtain ⟨arr', i1, i2, i3, i4⟩ := fillR_ok he parts aps' (placeIn arr (i * sz) (a.eval x)) (rows.set i ds) rows' p' hr' (fun r hr => ht r (by simp [hr])) hf' c3 (hr.place hv hd c1 i hb) (by rw [placeIn_list, fold_size, List.length_set, hs])
              refine ⟨arr', ?_, i2, by rw [i3, placeIn_list, fold_size], by rw [i4, List.length_set]⟩
              simp only [List.map_cons]
              rw [fill_step _ arr i (i * sz) sz _ _ rfl hcs (by omega)]
              exact i1
            · cases hf
          · cases hf
        · cases hf
theorem zero_rows {v : Value} {zero : List D} {sz : Nat} (hz : zero.length = sz) (hv : v.cells.size = zero.length) (hd : ∀ w I (j : Nat) d, zero[j]? = some d → ∃ u, v.cells[j]? = some u ∧ Rd w I u d) (hsz : 0 < sz) (n m : Nat) (hnm : n ≤ m) :
    RowsIn w g.I ((Array.range (m * sz)).map (v.cells[· % v.cells.size]!)) sz (List.replicate n zero) := by
  intro p r hr
  rw [List.getElem?_replicate] at hr
  split at hr
  · rename_i hp
    cases hr
    refine ⟨hz, fun j t hj => ?_⟩
    have hjl := (List.getElem?_eq_some_iff.1 hj).1
    obtain ⟨u, u1, u2⟩ := hd w g.I j t hj
    refine ⟨u, ?_, u2⟩
    have hlt : p * sz + j < m * sz := by
      have : (p + 1) * sz ≤ m * sz := Nat.mul_le_mul_right _ (by omega)
      rw [Nat.add_mul] at this
      omega
    have e : (p * sz + j) % v.cells.size = j := by
      rw [hv, hz, Nat.add_comm, Nat.add_mul_mod_self_right, Nat.mod_eq_of_lt (by omega)]
    rw [Array.getElem?_map, Array.getElem?_range, if_pos hlt]
    simp only [Option.map_some, e]
    rw [getElem!_def, u1]
  · cases hr
end
end Go.Proofs.YthddlkhfkncgpaaGreat
set_option linter.unusedVariables false
set_option linter.unusedSimpArgs false
namespace Go.Proofs.YthddlkhfkncgpaaGreat
open Go.RowKit

section
variable {P : Program} {N : Nat} {o : Oper} {ρ : Env} {ts : List Nat} {hl : List Ob} {p : Prop} {s : Res}
theorem Gh.set_at (g : Gh) (i : Nat) (l : Loc) (F : Nat → Prop) : (g.set i l F).μ i = some l := by simp [Gh.set]
theorem Gh.set_fp (g : Gh) (i : Nat) (l : Loc) (F : Nat → Prop) : (g.set i l F).fp i = F := by simp [Gh.set]
/-- One block more, as a box. -/
theorem new_box {a : Act} {w : World} {g : Gh} {h : Nat → Ob} {base : Nat} {arr : Array Value} {cs : List C} {ty : TypeId} (hR : Rl w g h) (hnew : ∀ i, isNew base 1 i → g.μ i = none ∧ h i = .dead) (hc : Cells w g arr cs)
    (hrun : (execOp a.eval o).run P w = .ok (.value (.pointer (some ⟨w.heap.size, 0, none⟩))) (w.alloc (.cells arr ty))) :
    o.wp P a w (fun a' w' => ∃ u g', a' = a.put o.dst u ∧ RV w' g' u (vC (.ptr base 0)) ∧ Rl w' g' (Res.app { v := vC (.ptr base 0), nw := [.box cs] } base h) ∧
      Go1 w g h [] base 1 w' g' (Res.app { v := vC (.ptr base 0), nw := [.box cs] } base h)) (fun _ _ _ => False) := by
  unfold Oper.wp
  rw [hrun]
  have hk : Keeps Nope w (w.alloc (.cells arr ty)) := (Keeps.refl _ _).alloc _
  have hg : Gm g (g.set base ⟨w.heap.size, false, 0, 0⟩ (· = w.heap.size)) := Gh.set_gm (hnew base (isNew1.2 rfl)).1
  have hs : Same g.I w (w.alloc (.cells arr ty)) := Same.of_keeps hk hR.lt (fun _ _ f => f)
  obtain ⟨r1, r2⟩ := alloc1 (w' := w.alloc (.cells arr ty)) hR hk hnew ⟨w.heap.size, false, 0, 0⟩ (· = w.heap.size) (.box cs) (fun b hb => by omega)
    ⟨_, arr, ty, Gh.set_at _ _ _ _, rfl, heap_alloc_new w _, hc.1, fun j c hj => by
      obtain ⟨v, v1, v2⟩ := hc.2 j c hj
      exact ⟨v, v1, v2.more hs hg⟩, fun b => by rw [Gh.set_fp]⟩ (vC (.ptr base 0)) []
  exact ⟨_, _, rfl, .e (.c (.ptr (l := ⟨w.heap.size, false, 0, 0⟩) 0 (Gh.set_at _ _ _ _) rfl)), r1, r2⟩
theorem s_box {t : TypeId} {x : Operand} {ax : AX} (ho : o.op = .box t x) (h1 : trX x = some ax) (t1 : ∀ t ∈ ax.ts, t ∈ ts) (h : aop (.box ax) ρ hl = some (p, s)) : OpR P N o ρ ts hl s := by
  simp only [aop] at h
  split at h
  · rename_i e e1
    cases h
    intro a w g hh hN hrd hnew hR he
    have hv := rv_e (ev_ok h1 he t1 e1)
    obtain ⟨k1, k2⟩ := re_cells hv
    refine new_box (arr := (a.eval x).cells) (ty := t) hR hnew ⟨k1, k2⟩ ?_
    simp [execOp, ho, Instr.box, newVar, newRow]
  · cases h
theorem s_alloc {t : TypeId} {cs : List C} (ho : o.op = .alloc t) (hz : zeroC P t = some cs) (h : aop (.alloc cs) ρ hl = some (p, s)) : OpR P N o ρ ts hl s := by
  simp only [aop] at h
  cases h
  intro a w g hh hN hrd hnew hR he
  obtain ⟨v, z1, z2⟩ := zeroC_ok hz
  refine new_box (arr := v.cells) (ty := t) hR hnew (z2 w g) ?_
  simp [execOp, ho, Instr.alloc, z1 w, newVar, newRow]
theorem s_mkMap {t : TypeId} {ag : Bool} (ho : o.op = .makeMap t none) (h : aop (.mkMap ag) ρ hl = some (p, s)) : OpR P N o ρ ts hl s := by
  simp only [aop] at h
  cases h
  intro a w g hh hN hrd hnew hR he
  have hrun : (execOp a.eval o).run P w = .ok (.value (.map (some w.heap.size))) (w.alloc (.map #[] 0)) := by simp [execOp, ho, Instr.makeMap]
  unfold Oper.wp
  rw [hrun]
  have hk : Keeps Nope w (w.alloc (.map #[] 0)) := (Keeps.refl _ _).alloc _
  obtain ⟨r1, r2⟩ := alloc1 (w' := w.alloc (.map #[] 0)) hR hk hnew ⟨w.heap.size, false, 0, 0⟩ (· = w.heap.size) (.mp ag ⟨0, []⟩) (fun b hb => by omega)
    ⟨_, #[], Gh.set_at _ _ _ _, heap_alloc_new w _, rfl, fun j c hj => by simp at hj, fun b => by rw [Gh.set_fp]⟩ (vC (.mp hl.length)) []
  exact ⟨_, _, rfl, .e (.c (.mp (l := ⟨w.heap.size, false, 0, 0⟩) (Gh.set_at _ _ _ _))), r1, r2⟩
/-- One block more, as a list. -/
theorem new_arr {a : Act} {w : World} {g : Gh} {h : Nat → Ob} {base : Nat} {arr : Array Value} {rows : List (List D)} {sz tot n : Nat} {ty : TypeId} (hR : Rl w g h) (hnew : ∀ i, isNew base 1 i → g.μ i = none ∧ h i = .dead) (hsz : 0 < sz) (hrows : RowsIn w g.I arr sz rows)
    (hs : arr.size = tot * sz) (hle : rows.length ≤ tot) (hm : tot ≤ maxLen) (hn : n ≤ tot)
    (hrun : (execOp a.eval o).run P w = .ok (.value (.slice (some ⟨w.heap.size, 0, none⟩) n tot)) (w.alloc (.cells arr ty))) :
    o.wp P a w (fun a' w' => ∃ u g', a' = a.put o.dst u ∧ RV w' g' u (vC (.sl base 0 n)) ∧ Rl w' g' (Res.app { v := vC (.sl base 0 n), nw := [.arr sz rows] } base h) ∧
      Go1 w g h [] base 1 w' g' (Res.app { v := vC (.sl base 0 n), nw := [.arr sz rows] } base h)) (fun _ _ _ => False) := by
  unfold Oper.wp
  rw [hrun]
  have hk : Keeps Nope w (w.alloc (.cells arr ty)) := (Keeps.refl _ _).alloc _
  have hsm : Same g.I w (w.alloc (.cells arr ty)) := Same.of_keeps hk hR.lt (fun _ _ f => f)
  obtain ⟨r1, r2⟩ := alloc1 (w' := w.alloc (.cells arr ty)) hR hk hnew ⟨w.heap.size, false, sz, tot⟩ (· = w.heap.size) (.arr sz rows) (fun b hb => by omega)
    ⟨hsz, _, Gh.set_at _ _ _ _, rfl, .inr ⟨rfl, hle, hm, fun b => by rw [Gh.set_fp], arr, ty, heap_alloc_new w _, hs, fun p r hr => by
      obtain ⟨q1, q2⟩ := hrows p r hr
      refine ⟨q1, fun j t hj => ?_⟩
      obtain ⟨v, v1, v2⟩ := q2 j t hj
      exact ⟨v, v1, v2.more hsm (fun _ h => h)⟩⟩⟩ (vC (.sl base 0 n)) []
  refine ⟨_, _, rfl, ?_, r1, r2⟩
  have := RC.sl (w := w.alloc (.cells arr ty)) (g := g.set base ⟨w.heap.size, false, sz, tot⟩ (· = w.heap.size)) (id := base) (l := ⟨w.heap.size, false, sz, tot⟩) 0 n (Gh.set_at _ _ _ _) rfl (by simpa using hn)
  simp only [Nat.zero_mul, Nat.sub_zero] at this
  exact .e (.c this)
theorem s_mkList {m : Bool} {t e : TypeId} {len sz : Nat} {zero : List D} {parts : Array (Nat × Operand)} {aps : List (Nat × AX)} (ho : o.op = .buildSlice t len parts) (hu : P.underlying t = some (.slice e)) (hs : sizeB P e = some sz) (hz : zeroD P e = some zero)
    (hp : listM (fun (p : Nat × Operand) => (trX p.2).map fun x => (p.1, x)) parts.toList = some aps) (t1 : ∀ r ∈ aps, ∀ t ∈ r.2.ts, t ∈ ts) (hsz : 0 < sz) (hzl : zero.length = sz) (hlen : len * sz ≤ 65536)
    (h : aop (.mkList m sz len zero aps) ρ hl = some (p, s)) (hpp : p) : OpR P N o ρ ts hl s := by
  simp only [aop] at h
  split at h
  · rename_i q rows e1
    obtain ⟨v, z1, z2, z3⟩ := zeroD_ok hz
    have key : ∀ (a : Act) (w : World) (g : Gh), EnvOn w g a ρ ts → q → ∃ arr, (execOp a.eval o).run P w = .ok (.value (.slice (some ⟨w.heap.size, 0, none⟩) len len)) (w.alloc (.cells arr e)) ∧ RowsIn w g.I arr sz rows ∧ arr.size = len * sz ∧ rows.length = len := by
      intro a w g he hq
      have hrow : RowsIn w g.I ((Array.range (len * sz)).map ((if len * sz = 0 then #[] else v.cells)[· % (if len * sz = 0 then (#[] : Array Value) else v.cells).size]!)) sz (List.replicate len zero) := by
        by_cases h0 : len * sz = 0
        · have : len = 0 := by rcases Nat.mul_eq_zero.1 h0 with h | h <;> omega
          subst this
          intro p r hr
          simp at hr
        · rw [if_neg h0]
          exact zero_rows hzl z2 z3 hsz len len (Nat.le_refl _)
      obtain ⟨arr', i1, i2, i3, i4⟩ := fillR_ok he parts.toList aps _ (List.replicate len zero) rows q hp t1 e1 hq hrow (by simp)
      refine ⟨arr', ?_, i2, by rw [i3]; simp, by rw [i4]; simp⟩
      simp only [execOp, ho]
      refine run_v ?_
      have hmap : (parts.map fun x => (x.1, a.eval x.2)).toList = parts.toList.map fun q => (q.1, a.eval q.2) := by simp
      have hlim : ¬ len * sz > 2 ^ 24 := by omega
      simp only [Instr.buildSlice, Sem.run_bind, run_underlying hu, Result.andThen_ok, run_sizeB hs]
      rw [if_neg hlim]
      by_cases h0 : len * sz = 0
      · rw [if_pos h0] at i1 ⊢
        simp only [Sem.run_bind, Result.andThen_ok, hmap, Sem.run_pure, i1, newRow, run_newObj]
        rfl
      · rw [if_neg h0] at i1 ⊢
        simp only [Sem.run_bind, Result.andThen_ok, hmap, Sem.run_pure, z1 w, i1, newRow, run_newObj]
        rfl
    have hlm : len ≤ maxLen := by
      have : len * 1 ≤ len * sz := Nat.mul_le_mul_left _ hsz
      unfold maxLen
      omega
    cases m with
    | true =>
      simp only [cond_true] at h
      cases h
      intro a w g hh hN hrd hnew hR he
      obtain ⟨arr, k1, k2, k3, k4⟩ := key a w g he hpp
      exact new_arr hR hnew hsz k2 k3 (by omega) hlm (by omega) k1
    | false =>
      simp only [cond_false] at h
      cases h
      intro a w g hh hN hrd hnew hR he
      obtain ⟨arr, k1, k2, k3, k4⟩ := key a w g he hpp
      unfold Oper.wp
      rw [k1]
      have hk : Keeps Nope w (w.alloc (.cells arr e)) := (Keeps.refl _ _).alloc _
      have hsm : Same g.I w (w.alloc (.cells arr e)) := Same.of_keeps hk hR.lt (fun _ _ f => f)
      obtain ⟨r1, r2⟩ := freeze1 (base := hl.length) hR hk (b := w.heap.size) (Nat.le_refl _) (by simp)
      rw [app_none rfl rfl]
      refine ⟨_, _, rfl, ?_, r1, r2⟩
      have hcell : ∀ (q : Nat), (w.alloc (.cells arr e)).cell? ⟨w.heap.size, 0 + q, none⟩ = arr[q]? := fun q => by
        rw [Nat.zero_add]; exact cell_of_row _ w.heap.size q arr e _ (heap_alloc_new w _)
      refine .e (.c (.t (.ls w.heap.size 0 sz len len rows (fun i j => (arr[i * sz + j]?).getD undef) (.inr rfl) (by omega) (by omega) hlm hsz (fun i r h1 => (k2 i r h1).1) (fun i r j t h1 h2 => ?_) (fun i r j t h1 h2 => ?_))))
      · obtain ⟨u, u1, u2⟩ := (k2 i r h1).2 j t h2
        rw [hcell, u1]; rfl
      · obtain ⟨u, u1, u2⟩ := (k2 i r h1).2 j t h2
        rw [u1]
        exact u2.more hsm (fun _ h => .inl h)
  · cases h
theorem s_mkSlice {t e : TypeId} {l c : Operand} {al ac : AX} {sz by_ : Nat} {zero : List D} (ho : o.op = .makeSlice t l c) (h1 : trX l = some al) (h2 : trX c = some ac) (t1 : ∀ t ∈ al.ts, t ∈ ts) (t2 : ∀ t ∈ ac.ts, t ∈ ts)
    (hu : P.underlying t = some (.slice e)) (hs : sizeB P e = some sz) (hb : bytesB P e = some by_) (hz : zeroD P e = some zero) (hsz : 0 < sz) (hzl : zero.length = sz) (h : aop (.mkSlice sz by_ zero al ac) ρ hl = some (p, s)) (hpp : p) : OpR P N o ρ ts hl s := by
  simp only [aop] at h
  split at h
  · rename_i l' c' e1 e2
    cases h
    obtain ⟨p1, p2, p3, p4⟩ := hpp
    intro a w g hh hN hrd hnew hR he
    have r1 := rv_int (ev_ok h1 he t1 e1)
    have r2 := rv_int (ev_ok h2 he t2 e2)
    obtain ⟨v, z1, z2, z3⟩ := zeroD_ok hz
    obtain ⟨L, rfl⟩ : ∃ L : Nat, l' = L := ⟨l'.toNat, by omega⟩
    obtain ⟨K, rfl⟩ : ∃ K : Nat, c' = K := ⟨c'.toNat, by omega⟩
    have hbi : ∃ i, P.info? e = some i ∧ i.bytes = by_ := by
      unfold bytesB at hb
      cases hi : P.info? e with
      | none => simp [hi] at hb
      | some i => simp [hi] at hb; exact ⟨i, rfl, hb⟩
    obtain ⟨inf, hi1, hi2⟩ := hbi
    have wr : ∀ n : Nat, (n : Int) ≤ 9223372036854775807 → IntKind.i64.wrap (n : Int) = n := fun n hn => IntWalk.i64_in _ (by omega)
    have hcond : ¬ (decide (IntKind.i64.wrap (K : Int) < 0) || decide ((by_ : Int) * IntKind.i64.wrap (K : Int) > 2 ^ 48) || decide (IntKind.i64.wrap (L : Int) < 0) || decide (IntKind.i64.wrap (L : Int) > IntKind.i64.wrap (K : Int))) = true := by
      rw [wr K (by omega), wr L (by omega)]
      have h5 : ((by_ : Int) * (K : Int)) ≤ 140737488355328 := by rw [Int.mul_comm]; exact p4
      have h6 : (2 : Int) ^ 48 = 281474976710656 := by decide
      rw [h6]
      generalize (by_ : Int) * (K : Int) = X at h5 ⊢
      intro hc
      simp only [Bool.or_eq_true, decide_eq_true_eq] at hc
      omega
    have hrun : (execOp a.eval o).run P w = .ok (.value (.slice (some ⟨w.heap.size, 0, none⟩) L K)) (w.alloc (.cells ((Array.range (K * sz)).map ((if K * sz = 0 then #[] else v.cells)[· % (if K * sz = 0 then (#[] : Array Value) else v.cells).size]!)) e)) := by
      simp only [execOp, ho, r1, r2]
      refine run_v ?_
      simp only [Instr.makeSlice, Sem.run_bind, run_underlying hu, Result.andThen_ok, asInt, asIntOf, Sem.run_pure, typeInfo, run_program, hi1, hi2]
      rw [if_neg hcond]
      simp only [Sem.run_bind, run_askRoom, Result.andThen_ok, run_sizeB hs, wr K (by omega), wr L (by omega), Int.toNat_natCast]
      by_cases h0 : K * sz = 0
      · simp only [if_pos h0, Sem.run_bind, Result.andThen_ok, Sem.run_pure, newRow, run_newObj]
        rfl
      · simp only [if_neg h0, Sem.run_bind, Result.andThen_ok, Sem.run_pure, z1 w, newRow, run_newObj]
        rfl
    have hrow : RowsIn w g.I ((Array.range (K * sz)).map ((if K * sz = 0 then #[] else v.cells)[· % (if K * sz = 0 then (#[] : Array Value) else v.cells).size]!)) sz (List.replicate L zero) := by
      by_cases h0 : K * sz = 0
      · have : K = 0 := by rcases Nat.mul_eq_zero.1 h0 with h | h <;> omega
        have : L = 0 := by omega
        subst this
        intro p r hr
        simp at hr
      · rw [if_neg h0]
        exact zero_rows hzl z2 z3 hsz L K (by omega)
    exact new_arr (P := P) (o := o) (a := a) (n := L) hR hnew hsz hrow (by simp) (by simp; omega) (by unfold maxLen; omega) (by omega) hrun
  · cases h
/-- A new list, as data that does not change any more. -/
def datO : Res → Option Res
  | { v := .e (.c (.sl _ 0 n)), wr := [], rd := [], nw := [.arr sz rows] } => some { v := vL sz n rows }
  | _ => none
theorem s_mkSliceD {s' : Res} {t e : TypeId} {l c : Operand} {al ac : AX} {sz by_ : Nat} {zero : List D} (ho : o.op = .makeSlice t l c) (h1 : trX l = some al) (h2 : trX c = some ac) (t1 : ∀ t ∈ al.ts, t ∈ ts) (t2 : ∀ t ∈ ac.ts, t ∈ ts)
    (hu : P.underlying t = some (.slice e)) (hs : sizeB P e = some sz) (hb : bytesB P e = some by_) (hz : zeroD P e = some zero) (hsz : 0 < sz) (hzl : zero.length = sz) (h : aop (.mkSlice sz by_ zero al ac) ρ hl = some (p, s)) (hpp : p) (hd : datO s = some s') : OpR P N o ρ ts hl s' := by
  simp only [aop] at h
  split at h
  · rename_i l' c' e1 e2
    cases h
    obtain ⟨p1, p2, p3, p4⟩ := hpp
    intro a w g hh hN hrd hnew hR he
    have r1 := rv_int (ev_ok h1 he t1 e1)
    have r2 := rv_int (ev_ok h2 he t2 e2)
    obtain ⟨v, z1, z2, z3⟩ := zeroD_ok hz
    obtain ⟨L, rfl⟩ : ∃ L : Nat, l' = L := ⟨l'.toNat, by omega⟩
    obtain ⟨K, rfl⟩ : ∃ K : Nat, c' = K := ⟨c'.toNat, by omega⟩
    have hbi : ∃ i, P.info? e = some i ∧ i.bytes = by_ := by
      unfold bytesB at hb
      cases hi : P.info? e with
      | none => simp [hi] at hb
      | some i => simp [hi] at hb; exact ⟨i, rfl, hb⟩
    obtain ⟨inf, hi1, hi2⟩ := hbi
    have wr : ∀ n : Nat, (n : Int) ≤ 9223372036854775807 → IntKind.i64.wrap (n : Int) = n := fun n hn => IntWalk.i64_in _ (by omega)
    have hcond : ¬ (decide (IntKind.i64.wrap (K : Int) < 0) || decide ((by_ : Int) * IntKind.i64.wrap (K : Int) > 2 ^ 48) || decide (IntKind.i64.wrap (L : Int) < 0) || decide (IntKind.i64.wrap (L : Int) > IntKind.i64.wrap (K : Int))) = true := by
      rw [wr K (by omega), wr L (by omega)]
      have h5 : ((by_ : Int) * (K : Int)) ≤ 140737488355328 := by rw [Int.mul_comm]; exact p4
      have h6 : (2 : Int) ^ 48 = 281474976710656 := by decide
      rw [h6]
      generalize (by_ : Int) * (K : Int) = X at h5 ⊢
      intro hc
      simp only [Bool.or_eq_true, decide_eq_true_eq] at hc
      omega
    have hrun : (execOp a.eval o).run P w = .ok (.value (.slice (some ⟨w.heap.size, 0, none⟩) L K)) (w.alloc (.cells ((Array.range (K * sz)).map ((if K * sz = 0 then #[] else v.cells)[· % (if K * sz = 0 then (#[] : Array Value) else v.cells).size]!)) e)) := by
      simp only [execOp, ho, r1, r2]
      refine run_v ?_
      simp only [Instr.makeSlice, Sem.run_bind, run_underlying hu, Result.andThen_ok, asInt, asIntOf, Sem.run_pure, typeInfo, run_program, hi1, hi2]
      rw [if_neg hcond]
      simp only [Sem.run_bind, run_askRoom, Result.andThen_ok, run_sizeB hs, wr K (by omega), wr L (by omega), Int.toNat_natCast]
      by_cases h0 : K * sz = 0
      · simp only [if_pos h0, Sem.run_bind, Result.andThen_ok, Sem.run_pure, newRow, run_newObj]
        rfl
      · simp only [if_neg h0, Sem.run_bind, Result.andThen_ok, Sem.run_pure, z1 w, newRow, run_newObj]
        rfl
    have hrow : RowsIn w g.I ((Array.range (K * sz)).map ((if K * sz = 0 then #[] else v.cells)[· % (if K * sz = 0 then (#[] : Array Value) else v.cells).size]!)) sz (List.replicate L zero) := by
      by_cases h0 : K * sz = 0
      · have : K = 0 := by rcases Nat.mul_eq_zero.1 h0 with h | h <;> omega
        have : L = 0 := by omega
        subst this
        intro p r hr
        simp at hr
      · rw [if_neg h0]
        exact zero_rows hzl z2 z3 hsz L K (by omega)
    generalize ((Array.range (K * sz)).map ((if K * sz = 0 then #[] else v.cells)[· % (if K * sz = 0 then (#[] : Array Value) else v.cells).size]!)) = arr at hrun hrow
    simp only [datO, Int.toNat_natCast, Option.some.injEq] at hd
    subst hd
    unfold Oper.wp
    rw [hrun]
    have hk : Keeps Nope w (w.alloc (.cells arr e)) := (Keeps.refl _ _).alloc _
    have hsm : Same g.I w (w.alloc (.cells arr e)) := Same.of_keeps hk hR.lt (fun _ _ f => f)
    obtain ⟨r1, r2⟩ := freeze1 (base := hl.length) hR hk (b := w.heap.size) (Nat.le_refl _) (by simp)
    rw [app_none rfl rfl]
    refine ⟨_, _, rfl, ?_, r1, r2⟩
    have hcell : ∀ (q : Nat), (w.alloc (.cells arr e)).cell? ⟨w.heap.size, 0 + q, none⟩ = arr[q]? := fun q => by
      rw [Nat.zero_add]; exact cell_of_row _ w.heap.size q arr e _ (heap_alloc_new w _)
    refine .e (.c (.t (.ls w.heap.size 0 sz L K (List.replicate L zero) (fun i j => (arr[i * sz + j]?).getD undef) (.inr rfl) (by simp) (by simp; omega) (by unfold maxLen; omega) hsz (fun i r h1 => (hrow i r h1).1) (fun i r j t h1 h2 => ?_) (fun i r j t h1 h2 => ?_))))
    · obtain ⟨u0, u1, u2⟩ := (hrow i r h1).2 j t h2
      rw [hcell, u1]; rfl
    · obtain ⟨u0, u1, u2⟩ := (hrow i r h1).2 j t h2
      rw [u1]
      exact u2.more hsm (fun _ h => .inl h)
  · cases h
end
end Go.Proofs.YthddlkhfkncgpaaGreat
set_option linter.unusedVariables false
set_option linter.unusedSimpArgs false
namespace Go.Proofs.YthddlkhfkncgpaaGreat
open Go.RowKit

section
variable {P : Program} {w : World} {g : Gh}
def loadV : Option Nat → (Nat → Value) → Value
  | none, f => f 0
  | some n, f => .agg ((List.range n).map f).toArray
/-- Cells that lie from a place on, and are to be read as one value. -/
theorem run_loadVar {t : TypeId} {n : Option Nat} (ht : cellsB P t = some n) (b off : Nat) (f : Nat → Value) (h : ∀ j, j < n.getD 1 → w.cell? ⟨b, off + j, none⟩ = some (f j)) :
    (Instr.loadAt t (.pointer (some ⟨b, off, none⟩))).run P w = .ok (loadV n f) w := by
  cases n with
  | none =>
    have := h 0 (by simp)
    simp only [Nat.add_zero] at this
    simp [Instr.loadAt, Instr.sureAddr, loadVar, run_isAgg (cellsB_none ht), this, loadV]
  | some n =>
    obtain ⟨h1, h2⟩ := cellsB_some ht
    have := run_loadCells (P := P) w ⟨b, off, none⟩ n f (fun j hj => by rw [Addr.add_mid]; exact h j (by simpa using hj))
    simp [Instr.loadAt, Instr.sureAddr, loadVar, run_isAgg h1, run_sizeB h2, this, loadV]
theorem cells_of {cs : List C} {n : Nat} {f : Nat → Value} (hn : cs.length = n) (h : ∀ (j : Nat) c, cs[j]? = some c → RC w g (f j) c) : Cells w g ((List.range n).map f).toArray cs := by
  refine ⟨by simp [hn], fun j c hj => ⟨f j, ?_, h j c hj⟩⟩
  have := (List.getElem?_eq_some_iff.1 hj).1
  rw [List.getElem?_toArray, List.getElem?_map, List.getElem?_range (by omega)]
  rfl
end
section
variable {P : Program} {N : Nat} {o : Oper} {ρ : Env} {ts : List Nat} {hl : List Ob} {p : Prop} {s : Res}
theorem s_load {t : TypeId} {x : Operand} {ax : AX} {n : Option Nat} (ho : o.op = .load t x) (h1 : trX x = some ax) (t1 : ∀ t ∈ ax.ts, t ∈ ts) (ht : cellsB P t = some n) (h : aop (.load n ax) ρ hl = some (p, s)) (hp : p) : OpR P N o ρ ts hl s := by
  simp only [aop] at h
  split at h
  · rename_i id off e1
    split at h
    · rename_i cs hid
      split at h
      · rename_i q v hs
        cases h
        refine OpR.val rfl rfl fun a w g hh hrd hR he => ?_
        have r1 := rv_c (ev_ok h1 he t1 e1)
        have hob : hh id = .box cs := (hrd id (by simp)).trans hid
        obtain ⟨l, arr, ty, m1, m2, m3, m4, m5, _⟩ := hob ▸ hR.objs id (by rw [hob]; rfl)
        generalize hx : a.eval x = u at *
        cases r1 with
        | ptr _ hμ hn =>
          rename_i l'
          obtain rfl : l = l' := Option.some.inj (m1.symm.trans hμ)
          have hcell : ∀ j, w.cell? ⟨l.blk, j, none⟩ = arr[j]? := fun j => cell_of_row _ l.blk j arr ty _ m3
          cases n with
          | none =>
            simp only [sub1] at hs
            split at hs
            · rename_i c hc
              cases hs
              obtain ⟨u, u1, u2⟩ := m5 _ c hc
              refine ⟨u, ?_, .e (.c u2)⟩
              simp only [execOp, ho, hx]
              refine run_v ?_
              have := run_loadVar (P := P) (w := w) ht l.blk off (fun _ => u) (fun j hj => by simp at hj; subst hj; rw [hcell, Nat.add_zero]; exact u1)
              exact this
            · cases hs
          | some n =>
            have hlen : off + n ≤ cs.length ∧ v = vA ((cs.drop off).take n) := by
              simp only [sub1] at hs
              cases hb : (Nat.beq off 0 && Nat.beq n cs.length) with
              | true =>
                rw [hb] at hs
                simp only [cond_true] at hs
                cases hs
                simp only [Bool.and_eq_true] at hb
                obtain rfl := Nat.eq_of_beq_eq_true hb.1
                obtain rfl := Nat.eq_of_beq_eq_true hb.2
                simp
              | false =>
                rw [hb] at hs
                simp only [cond_false] at hs
                cases hs
                exact ⟨hp, rfl⟩
            obtain ⟨hle, rfl⟩ := hlen
            have hrun := run_loadVar (P := P) (w := w) ht l.blk off (fun j => (arr[off + j]?).getD undef) (fun j hj => by
              simp at hj
              rw [hcell]
              have : off + j < arr.size := by omega
              simp [this])
            refine ⟨_, by simp only [execOp, ho, hx]; exact run_v hrun, ?_⟩
            refine Cells.all (cells_of (n := n) (by simp; omega) (fun j c hj => ?_))
            · rw [List.getElem?_take] at hj
              split at hj
              · rw [List.getElem?_drop] at hj
                obtain ⟨u, u1, u2⟩ := m5 _ c hj
                rw [u1]; exact u2
              · cases hj
      · cases h
    · cases h
  · rename_i ds e1
    split at h
    · split at h
      · rename_i d ds
        obtain rfl := ret_v h
        refine OpR.val rfl rfl fun a w g hh hrd hR he => ?_
        have r1 := rv_c (ev_ok h1 he t1 e1)
        generalize hx : a.eval x = u at *
        cases r1 with
        | im b of _ us hI hc hr =>
          refine ⟨us 0, ?_, .e (.c (.t (hr 0 d rfl)))⟩
          simp only [execOp, ho, hx]
          refine run_v ?_
          have := run_loadVar (P := P) (w := w) ht b of us (fun j hj => by simp at hj; subst hj; exact hc 0 d rfl)
          exact this
      · cases h
    · rename_i n
      cases h
      refine OpR.val rfl rfl fun a w g hh hrd hR he => ?_
      have r1 := rv_c (ev_ok h1 he t1 e1)
      generalize hx : a.eval x = u at *
      cases r1 with
      | im b of _ us hI hc hr =>
        have hrun := run_loadVar (P := P) (w := w) ht b of us (fun j hj => by
          simp at hj
          have : j < ds.length := by omega
          exact hc j _ (List.getElem?_eq_getElem this))
        refine ⟨_, by simp only [execOp, ho, hx]; exact run_v hrun, ?_⟩
        refine Cells.all (cells_of (n := n) (by simp; omega) (fun j c hj => ?_))
        · rw [List.getElem?_map, List.getElem?_take] at hj
          split at hj
          · cases hd : ds[j]? with
            | none => simp [hd] at hj
            | some d => simp [hd] at hj; subst hj; exact .t (hr j d hd)
          · simp at hj
  · cases h
theorem s_loadI {t : TypeId} {x : Operand} {ax : AX} {n : Option Nat} {r : List D} (ho : o.op = .load t x) (h1 : trX x = some ax) (t1 : ∀ t ∈ ax.ts, t ∈ ts) (ht : cellsB P t = some n) (h : aopi (.load n ax) ρ hl r = some (p, s)) (hp : p) : OpR P N o ρ ts hl s := by
  simp only [aopi] at h
  split at h
  · rename_i id i k e1
    split at h
    · rename_i sz rows hid
      have key : ∀ v : V, (∀ (w : World) (g : Gh) (b : Nat) (q : Nat) (f : Nat → Value), (∀ (j : Nat) d, r[j]? = some d → w.cell? ⟨b, q + j, none⟩ = some (f j) ∧ Rd w g.I (f j) d) → ∃ u, (Instr.loadAt t (.pointer (some ⟨b, q + k, none⟩))).run P w = .ok u w ∧ RV w g u v) →
          rows[i]? = some r → OpR P N o ρ ts hl { v := v, rd := [id] } := by
        intro v hv hri
        refine OpR.val rfl rfl fun a w g hh hrd hR he => ?_
        have r1 := rv_c (ev_ok h1 he t1 e1)
        have hob : hh id = .arr sz rows := (hrd id (by simp)).trans hid
        obtain ⟨_, l, m0, m1, hcase⟩ := hob ▸ hR.objs id (by rw [hob]; rfl)
        generalize hx : a.eval x = u at *
        cases r1 with
        | el _ _ hμ hn =>
          rename_i l'
          obtain rfl : l = l' := Option.some.inj (m0.symm.trans hμ)
          rcases hcase with ⟨hc, _⟩ | ⟨_, hle, hmx, _, arr, ty, m3, m4, m5⟩
          · rw [hc] at hn; cases hn
          · obtain ⟨q1, q2⟩ := m5 i r hri
            obtain ⟨u, u1, u2⟩ := hv w g l.blk (i * sz) (fun j => (arr[i * sz + j]?).getD undef) (fun j d hj => by
              obtain ⟨v', v1, v2⟩ := q2 j d hj
              rw [cell_of_row _ l.blk (i * sz + j) arr ty _ m3, v1]
              exact ⟨rfl, v2⟩)
            refine ⟨u, ?_, u2⟩
            simp only [execOp, ho, hx]
            rw [m1]
            exact run_v u1
      split at h
      · split at h
        · rename_i d ds hd
          cases h
          refine key _ (fun w g b q f hf => ?_) hp
          have hk : r[k]? = some d := by
            have : (r.drop k)[0]? = some d := by rw [hd]; rfl
            rw [List.getElem?_drop] at this
            simpa using this
          obtain ⟨c1, c2⟩ := hf k d hk
          refine ⟨f k, ?_, .e (.c (.t c2))⟩
          have := run_loadVar (P := P) (w := w) ht b (q + k) (fun _ => f k) (fun j hj => by simp at hj; subst hj; exact c1)
          exact this
        · cases h
      · rename_i n
        cases h
        refine key _ (fun w g b q f hf => ?_) hp.1
        have hrun := run_loadVar (P := P) (w := w) ht b (q + k) (fun j => f (k + j)) (fun j hj => by
          simp at hj
          have hlt : k + j < r.length := by omega
          rw [Nat.add_assoc]
          exact (hf (k + j) _ (List.getElem?_eq_getElem hlt)).1)
        refine ⟨_, hrun, ?_⟩
        refine Cells.all (cells_of (n := n) (by simp; omega) (fun j c hj => ?_))
        rw [List.getElem?_map, List.getElem?_take] at hj
        split at hj
        · rw [List.getElem?_drop] at hj
          cases hd : r[k + j]? with
          | none => simp [hd] at hj
          | some d => simp [hd] at hj; subst hj; exact .t (hf _ d hd).2
        · simp at hj
    · cases h
  · cases h
/-- Cells stored one behind the other into a block. -/
theorem run_storeAt {t : TypeId} {n : Nat} (hs : sizeB P t = some n) {w : World} {v : Value} {b off : Nat} {cur : Array Value} {ty : TypeId} (hb : w.heap[b]? = some (.cells cur ty (0, 0))) (hn : v.cells.size = n) (hfit : off + n ≤ cur.size) (h1 : ∀ u ∈ v.cells.toList, u.oneCell' = true) :
    (Instr.storeAt t (.pointer (some ⟨b, off, none⟩)) v).run P w = .ok () (w.setRow b (cur.toList.take off ++ v.cells.toList ++ cur.toList.drop (off + n)).toArray) := by
  have hst := run_storeCells_at (P := P) b off ty v.cells.toList 0 cur w hb (by simpa [hn] using hfit) h1
  simp only [Nat.add_zero, Array.length_toList, hn] at hst
  simp [Instr.storeAt, Instr.sureAddr, storeVar, run_sizeB hs, hn, hst]
theorem splice_get (cur xs : List Value) (off : Nat) (hfit : off + xs.length ≤ cur.length) (q : Nat) : (cur.take off ++ xs ++ cur.drop (off + xs.length))[q]? = if off ≤ q ∧ q < off + xs.length then xs[q - off]? else cur[q]? := by
  by_cases h1 : q < off
  · rw [if_neg (by omega), List.append_assoc, List.getElem?_append_left (by simp; omega), List.getElem?_take_of_lt h1]
  · by_cases h2 : q < off + xs.length
    · rw [if_pos (by omega), List.append_assoc, List.getElem?_append_right (by simp; omega), List.getElem?_append_left (by simp; omega)]
      congr 1
      simp; omega
    · rw [if_neg (by omega), List.getElem?_append_right (by simp; omega), List.getElem?_drop]
      congr 1
      simp; omega
theorem re_ones {w : World} {g : Gh} {v : Value} {e : E} (h : RE w g v e) : ∀ u ∈ v.cells.toList, u.oneCell' = true := by
  obtain ⟨h1, h2⟩ := re_cells h
  intro u hu
  obtain ⟨j, hj, rfl⟩ := List.mem_iff_getElem.1 hu
  have hj' : j < e.cells.length := by rw [← h1]; simpa using hj
  obtain ⟨u', u1, u2⟩ := h2 j _ (List.getElem?_eq_getElem hj')
  have : v.cells.toList[j] = u' := by
    have := (Array.getElem?_toList (xs := v.cells) (i := j)).trans u1
    rw [List.getElem?_eq_getElem hj] at this
    exact Option.some.inj this
  rw [this]
  exact u2.one
theorem s_store {t : TypeId} {x y : Operand} {ax ay : AX} {n : Nat} (ho : o.op = .store t x y) (h1 : trX x = some ax) (h2 : trX y = some ay) (t1 : ∀ t ∈ ax.ts, t ∈ ts) (t2 : ∀ t ∈ ay.ts, t ∈ ts) (ht : sizeB P t = some n)
    (h : aop (.store n ax ay) ρ hl = some (p, s)) (hp : p) : OpR P N o ρ ts hl s := by
  simp only [aop] at h
  split at h
  · rename_i id off e e1 e2
    split at h
    · rename_i cs hid
      cases h
      obtain ⟨p1, p2⟩ := hp
      intro a w g hh hN hrd hnew hR he
      have r1 := rv_c (ev_ok h1 he t1 e1)
      have r2 := rv_e (ev_ok h2 he t2 e2)
      have hob : hh id = .box cs := (hrd id (.inl (by simp))).trans hid
      have hlive : (hh id).live = true := by rw [hob]; rfl
      obtain ⟨l, arr, ty, m1, m2, m3, m4, m5, m6⟩ := hob ▸ hR.objs id hlive
      obtain ⟨k1, k2⟩ := re_cells r2
      generalize hx : a.eval x = u at *
      cases r1 with
      | ptr _ hμ hn =>
        rename_i l'
        obtain rfl : l = l' := Option.some.inj (m1.symm.trans hμ)
        have hrun := run_storeAt (P := P) ht m3 (k1.trans p1) (off := off) (by omega) (re_ones r2)
        generalize hX : (arr.toList.take off ++ (a.eval y).cells.toList ++ arr.toList.drop (off + n)).toArray = X at hrun
        unfold Oper.wp
        have hex : (execOp a.eval o).run P w = .ok .skip (w.setRow l.blk X) := by
          simp only [execOp, ho, hx]
          simp [hrun]
        rw [hex]
        have hk : Keeps (g.fp id) w (w.setRow l.blk X) := (Keeps.refl _ _).setRow (.inr ((m6 _).2 rfl)) _
        have hsm : Same g.I w (w.setRow l.blk X) := Same.of_keeps hk hR.lt (fun b hb hf => hR.imm id b hlive hf hb)
        have hXg : ∀ q, X[q]? = if off ≤ q ∧ q < off + n then (a.eval y).cells[q - off]? else arr[q]? := fun q => by
          have hyl : (a.eval y).cells.toList.length = n := by rw [Array.length_toList, k1, p1]
          have := splice_get arr.toList (a.eval y).cells.toList off (by rw [hyl, Array.length_toList]; omega) q
          rw [hyl] at this
          rw [← hX, List.getElem?_toArray, this]
          simp
        obtain ⟨q1, q2⟩ := turn1 (base := hl.length) hR hlive hk (.box (putAt cs off e.cells)) ⟨l, X, ty, m1, m2, setRow_heap w l.blk arr X ty _ m3, by
            rw [← hX]; simp [putAt_length, k1, p1]; omega, fun j c hj => by
            rw [putAt_get] at hj
            rw [hXg]
            split at hj
            · rename_i hc
              rw [if_pos (by omega)]
              obtain ⟨u, u1, u2⟩ := k2 _ c hj
              exact ⟨u, u1, u2.more hsm (Gm.refl g)⟩
            · rename_i hc
              have hjl := (List.getElem?_eq_some_iff.1 hj).1
              rw [if_neg (by omega)]
              obtain ⟨u, u1, u2⟩ := m5 _ c hj
              exact ⟨u, u1, u2.more hsm (Gm.refl g)⟩, m6⟩ .u [id]
        exact ⟨undef, g, rfl, .u, q1, q2⟩
    · cases h
  · rename_i id i k e e1 e2
    split at h
    · rename_i sz rows ds hid hd
      cases h
      obtain ⟨p1, p2, p3⟩ := hp
      intro a w g hh hN hrd hnew hR he
      have r1 := rv_c (ev_ok h1 he t1 e1)
      have r2 := rv_e (ev_ok h2 he t2 e2)
      have hob : hh id = .arr sz rows := (hrd id (.inl (by simp))).trans hid
      have hlive : (hh id).live = true := by rw [hob]; rfl
      obtain ⟨hsz, l, m1, m2, hcase⟩ := hob ▸ hR.objs id hlive
      obtain ⟨k1, k2⟩ := re_cells r2
      have hde := unT_ok hd
      have hen : e.cells.length = n := by rw [hde, List.length_map, p1]
      generalize hx : a.eval x = u at *
      cases r1 with
      | el _ _ hμ hn =>
        rename_i l'
        obtain rfl : l = l' := Option.some.inj (m1.symm.trans hμ)
        rcases hcase with ⟨hc, _⟩ | ⟨hnn, hle, hmx, m6, arr, ty, m3, m4, m5⟩
        · rw [hc] at hn; cases hn
        · have hfit : (i * l.sz + k) + n ≤ arr.size := by
            have : (i + 1) * sz ≤ l.tot * sz := Nat.mul_le_mul_right _ (by omega)
            rw [Nat.add_mul] at this
            rw [m2, m4]
            omega
          have hrun := run_storeAt (P := P) ht m3 (k1.trans hen) (off := i * l.sz + k) hfit (re_ones r2)
          generalize hX : (arr.toList.take (i * l.sz + k) ++ (a.eval y).cells.toList ++ arr.toList.drop (i * l.sz + k + n)).toArray = X at hrun
          unfold Oper.wp
          have hex : (execOp a.eval o).run P w = .ok .skip (w.setRow l.blk X) := by
            simp only [execOp, ho, hx]
            simp [hrun]
          rw [hex]
          have hk : Keeps (g.fp id) w (w.setRow l.blk X) := (Keeps.refl _ _).setRow (.inr ((m6 _).2 rfl)) _
          have hsm : Same g.I w (w.setRow l.blk X) := Same.of_keeps hk hR.lt (fun b hb hf => hR.imm id b hlive hf hb)
          have hXg : ∀ q, X[q]? = if i * sz + k ≤ q ∧ q < i * sz + k + n then (a.eval y).cells[q - (i * sz + k)]? else arr[q]? := fun q => by
            have hyl : (a.eval y).cells.toList.length = n := by rw [Array.length_toList, k1, hen]
            have := splice_get arr.toList (a.eval y).cells.toList (i * l.sz + k) (by rw [hyl, Array.length_toList]; omega) q
            rw [hyl] at this
            rw [← hX, List.getElem?_toArray, this, m2]
            simp
          obtain ⟨q1, q2⟩ := turn1 (base := hl.length) hR hlive hk (.arr sz (rows.modify i fun r => putAt r k ds)) ⟨hsz, l, m1, m2, .inr ⟨hnn, by rw [List.length_modify]; exact hle, hmx, m6, X, ty, setRow_heap w l.blk arr X ty _ m3, by
              rw [← hX]
              have hyl : (a.eval y).cells.size = n := by rw [k1, hen]
              simp [hyl]; omega, fun p' r hr => by
              rw [List.getElem?_modify] at hr
              have hother : ∀ (r' : List D), rows[p']? = some r' → ∀ (j : Nat) d, r'[j]? = some d → ¬ (i * sz + k ≤ p' * sz + j ∧ p' * sz + j < i * sz + k + n) → ∃ v, X[p' * sz + j]? = some v ∧ Rd (w.setRow l.blk X) g.I v d := by
                intro r' hr' j d hj hc
                rw [hXg, if_neg hc]
                obtain ⟨v, v1, v2⟩ := (m5 p' r' hr').2 j d hj
                exact ⟨v, v1, v2.more hsm (fun _ h => h)⟩
              by_cases hip : i = p'
              · subst hip
                simp only [if_true] at hr
                cases hr' : rows[i]? with
                | none => simp [hr'] at hr
                | some r0 =>
                  simp [hr'] at hr
                  subst hr
                  have hl0 := (m5 i r0 hr').1
                  refine ⟨by rw [putAt_length]; exact hl0, fun j d hj => ?_⟩
                  rw [putAt_get] at hj
                  split at hj
                  · rename_i hc
                    rw [p1] at hc
                    rw [hXg, if_pos (by omega)]
                    obtain ⟨u, u1, u2⟩ := k2 (j - k) (.t d) (by rw [hde, List.getElem?_map, hj]; rfl)
                    rw [show i * sz + j - (i * sz + k) = j - k by omega]
                    exact ⟨u, u1, by cases u2 with | t u2 => exact u2.more hsm (fun _ h => h)⟩
                  · rename_i hc
                    have hjl := (List.getElem?_eq_some_iff.1 hj).1
                    rw [p1] at hc
                    exact hother r0 hr' j d hj (by omega)
              · simp only [if_neg hip] at hr
                simp at hr
                refine ⟨(m5 p' r hr).1, fun j d hj => hother r hr j d hj ?_⟩
                have hjl := (List.getElem?_eq_some_iff.1 hj).1
                have hl0 := (m5 p' r hr).1
                rintro ⟨c1, c2⟩
                rcases Nat.lt_or_ge p' i with hlt | hge
                · have : (p' + 1) * sz ≤ i * sz := Nat.mul_le_mul_right _ hlt
                  rw [Nat.add_mul] at this
                  omega
                · have : (i + 1) * sz ≤ p' * sz := Nat.mul_le_mul_right _ (by omega)
                  rw [Nat.add_mul] at this
                  omega⟩⟩ .u [id]
          exact ⟨undef, g, rfl, .u, q1, q2⟩
    · cases h
  · cases h
end
end Go.Proofs.YthddlkhfkncgpaaGreat
