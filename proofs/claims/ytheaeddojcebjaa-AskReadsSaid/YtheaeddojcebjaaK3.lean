/-
  What each operation yields of data, cells and objects (aop).
-/
import Derived.Test.YtheaeddojcebjaaK2
set_option linter.unusedVariables false
set_option linter.unusedSimpArgs false
namespace Go.Proofs.Ytheaeddojcebjaa
open Go.RowKit

abbrev Env := List (Nat × V)
def get : Env → Nat → Option V
  | [], _ => none
  | (k, v) :: r, t => bif Nat.beq k t then some v else get r t
def ev (ρ : Env) : AX → Option V
  | .tmp t => get ρ t
  | .k e => some (.e e)
def evs (ρ : Env) : List AX → Option (List V)
  | [] => some []
  | x :: l => match ev ρ x, evs ρ l with
    | some v, some r => some (v :: r)
    | _, _ => none
abbrev vC (c : C) : V := .e (.c c)
abbrev vD (d : D) : V := .e (.c (.t d))
abbrev vI (k : IntKind) (n : Int) : V := .e (.c (.t (.int k n)))
abbrev vB (b : Bool) : V := .e (.c (.t (.bool b)))
abbrev vL (sz n : Nat) (rows : List (List D)) : V := .e (.c (.t (.ls sz n rows)))
abbrev vA (cs : List C) : V := .e (.agg cs)
@[reducible] def E.cells : E → List C
  | .c x => [x]
  | .agg cs => cs
def unT : List C → Option (List D)
  | [] => some []
  | .t d :: l => match unT l with
    | some r => some (d :: r)
    | none => none
  | _ :: _ => none
/-- Cells put into a row from a place on. -/
def putAt {α : Type} : List α → Nat → List α → List α
  | cs, off, [] => cs
  | cs, off, x :: xs => putAt (cs.set off x) (off + 1) xs
def hx (h : List Ob) (i : Nat) : Ob := h.getD i .dead
abbrev PR := Option (Prop × Res)
def ret (v : V) : PR := some (True, { v := v })
def bin (op : BinOp) : V → V → Option (Prop × V)
  | .e (.c (.t (.int k a))), .e (.c (.t (.int k' b))) =>
    match op with
    | .shl => some (0 ≤ b, vI k (k.wrap (a * 2 ^ (min b.toNat k.bits))))
    | .shr => some (0 ≤ b, vI k (a.fdiv (2 ^ (min b.toNat k.bits))))
    | op => bif decide (k = k') then
      match op with
      | .add => some (True, vI k (k.wrap (a + b)))
      | .sub => some (True, vI k (k.wrap (a - b)))
      | .mul => some (True, vI k (k.wrap (a * b)))
      | .quo => some (b ≠ 0, vI k (k.wrap (a.tdiv b)))
      | .rem => some (b ≠ 0, vI k (a.tmod b))
      | .and => some (True, vI k (k.wrap (BitVec.ofInt k.bits a &&& BitVec.ofInt k.bits b).toNat))
      | .or => some (True, vI k (k.wrap (BitVec.ofInt k.bits a ||| BitVec.ofInt k.bits b).toNat))
      | .xor => some (True, vI k (k.wrap (BitVec.ofInt k.bits a ^^^ BitVec.ofInt k.bits b).toNat))
      | .andNot => some (True, vI k (k.wrap (BitVec.ofInt k.bits a &&& ~~~ BitVec.ofInt k.bits b).toNat))
      | .eql => some (True, vB (a == b))
      | .neq => some (True, vB (a != b))
      | .lss => some (True, vB (decide (a < b)))
      | .leq => some (True, vB (decide (a ≤ b)))
      | .gtr => some (True, vB (decide (b < a)))
      | .geq => some (True, vB (decide (b ≤ a)))
      | _ => none
      else none
  | .e (.c (.t (.str a))), .e (.c (.t (.str b))) =>
    match op with
    | .add => some (a.size + b.size ≤ 9223372036854775807, vD (.str (a ++ b)))
    | .eql => some (True, vB (a.toList == b.toList))
    | .neq => some (True, vB (!(a.toList == b.toList)))
    | _ => none
  | _, _ => none
def eqD : LK → D → D → Option Bool
  | .int, .int k a, .int k' b => bif decide (k = k') then some (a == b) else none
  | .bool, .bool a, .bool b => some (a == b)
  | .str, .str a, .str b => some (a.toList == b.toList)
  | _, _, _ => none
def eqCs : List LK → List C → List C → Option Bool
  | [], [], [] => some true
  | k :: ks, .t a :: x, .t b :: y => match eqD k a b, eqCs ks x y with
    | some p, some q => some (p && q)
    | _, _ => none
  | _, _, _ => none
def fillC (zero : List C) : List (Nat × Nat × E) → Option (Prop × List C)
  | [] => some (True, zero)
  | (off, n, e) :: r => match fillC (putAt zero off e.cells) r with
    | some (p, cs) => some ((e.cells.length = n ∧ off + n ≤ zero.length) ∧ p, cs)
    | none => none
def evP (ρ : Env) : List (Nat × Nat × AX) → Option (List (Nat × Nat × E))
  | [] => some []
  | (off, n, x) :: r => match ev ρ x, evP ρ r with
    | some (.e e), some l => some ((off, n, e) :: l)
    | _, _ => none
def fillR (sz : Nat) (rows : List (List D)) (ρ : Env) : List (Nat × AX) → Option (Prop × List (List D))
  | [] => some (True, rows)
  | (i, x) :: r => match ev ρ x with
    | some (.e e) => match unT e.cells with
      | some ds => match fillR sz (rows.set i ds) ρ r with
        | some (p, rs) => some ((ds.length = sz ∧ i < rows.length) ∧ p, rs)
        | none => none
      | none => none
    | _ => none
def bndI (ρ : Env) : Option AX → Option (Option Int)
  | none => some none
  | some x => match ev ρ x with
    | some (.e (.c (.t (.int _ n)))) => some (some n)
    | _ => none
/-- What a slice shows: its elements, those behind it that are known too, and the object that is asked. -/
def shows (h : List Ob) : V → Option (Nat × Nat × List (List D) × List Nat)
  | .e (.c (.t .nil)) => some (0, 0, [], [])
  | .e (.c (.t (.ls sz n rows))) => some (sz, n, rows, [])
  | .e (.c (.sl id off n)) => match hx h id with
    | .arr sz rows => some (sz, n, rows.drop off, [id])
    | _ => none
  | .e (.c (.t (.str s))) => some (1, s.size, s.data.toList.map (fun b => [.int .u8 (b.toNat : Int)]), [])
  | _ => none
def natLen : V → Option Nat
  | .e (.c (.t .nil)) => some 0
  | .e (.c (.t (.ls _ n _))) => some n
  | .e (.c (.t (.str s))) => some s.size
  | .e (.c (.sl _ _ n)) => some n
  | _ => none
def isStr : V → Bool
  | .e (.c (.t (.str _))) => true
  | _ => false
def sub1 (cs : List C) (off : Nat) : Option Nat → Option (Prop × V)
  | none => match cs[off]? with
    | some c => some (True, vC c)
    | none => none
  | some n => bif Nat.beq off 0 && Nat.beq n cs.length then some (True, vA cs) else some (off + n ≤ cs.length, vA ((cs.drop off).take n))
def aop (op : AOp) (ρ : Env) (h : List Ob) : PR :=
  match op with
  | .mv x => match ev ρ x with
    | some v => ret v
    | none => none
  | .pick c a b => match ev ρ c, ev ρ a, ev ρ b with
    | some (.e (.c (.t (.bool c)))), some (.e (.c (.t (.bool a)))), some (.e (.c (.t (.bool b)))) => ret (vB (bif c then a else b))
    | some (.e (.c (.t (.bool c)))), some va, some vb => ret (bif c then va else vb)
    | _, _, _ => none
  | .box x => match ev ρ x with
    | some (.e e) => some (True, { v := vC (.ptr h.length 0), nw := [.box e.cells] })
    | _ => none
  | .alloc cs => some (True, { v := vC (.ptr h.length 0), nw := [.box cs] })
  | .build zero parts => match evP ρ parts with
    | some ps => match fillC zero ps with
      | some (p, cs) => some (p, { v := vA cs })
      | none => none
    | none => none
  | .mkList m sz n zero parts => match fillR sz (List.replicate n zero) ρ parts with
    | some (p, rows) => bif m then some (p, { v := vC (.sl h.length 0 n), nw := [.arr sz rows] }) else some (p, { v := vL sz n rows })
    | none => none
  | .load n x => match ev ρ x with
    | some (.e (.c (.ptr id off))) => match hx h id with
      | .box cs => match sub1 cs off n with
        | some (p, v) => some (p, { v := v, rd := [id] })
        | none => none
      | _ => none
    | some (.e (.c (.im ds))) => match n with
      | none => match ds with
        | d :: _ => ret (vD d)
        | [] => none
      | some n => some (n ≤ ds.length, { v := vA ((ds.take n).map .t) })
    | _ => none
  | .store n a x => match ev ρ a, ev ρ x with
    | some (.e (.c (.ptr id off))), some (.e e) => match hx h id with
      | .box cs => some (e.cells.length = n ∧ off + n ≤ cs.length, { v := .u, wr := [(id, .box (putAt cs off e.cells))], rd := [id] })
      | _ => none
    | some (.e (.c (.el id i k))), some (.e e) => match hx h id, unT e.cells with
      | .arr sz rows, some ds => some (ds.length = n ∧ i < rows.length ∧ k + n ≤ sz, { v := .u, wr := [(id, .arr sz (rows.modify i fun r => putAt r k ds))], rd := [id] })
      | _, _ => none
    | _, _ => none
  | .bin op x y => match ev ρ x, ev ρ y with
    | some x, some y => match bin op x y with
      | some (p, v) => some (p, { v := v })
      | none => none
    | _, _ => none
  | .binB neg x y => match ev ρ x, ev ρ y with
    | some (.e (.c (.t (.bool a)))), some (.e (.c (.t (.bool b)))) => ret (vB (bif neg then !(a == b) else a == b))
    | _, _ => none
  | .eqAgg neg ks x y => match ev ρ x, ev ρ y with
    | some (.e (.agg x)), some (.e (.agg y)) => match eqCs ks x y with
      | some b => ret (vB (bif neg then !b else b))
      | none => none
    | _, _ => none
  | .eqPtr neg x y => match ev ρ x, ev ρ y with
    | some (.e (.c .nilp)), some (.e (.c .nilp)) => ret (vB (!neg))
    | some (.e (.c (.ptr _ _))), some (.e (.c .nilp)) => ret (vB neg)
    | some (.e (.c .nilp)), some (.e (.c (.ptr _ _))) => ret (vB neg)
    | some (.e (.c (.ptr i a))), some (.e (.c (.ptr j b))) => bif Nat.beq i j && Nat.beq a b then ret (vB (!neg)) else none
    | _, _ => none
  | .un op x => match op, ev ρ x with
    | .not, some (.e (.c (.t (.bool b)))) => ret (vB (!b))
    | .neg, some (.e (.c (.t (.int k n)))) => ret (vI k (k.wrap (0 - n)))
    | _, _ => none
  | .conv k x => match ev ρ x with
    | some (.e (.c (.t (.int _ n)))) => ret (vI k (k.wrap n))
    | _ => none
  | .same x => match ev ρ x with
    | some (.e (.c (.t (.str s)))) => ret (vD (.str s))
    | _ => none
  | .bstr x => none
  | .mkSlice sz by_ zero l c => match ev ρ l, ev ρ c with
    | some (.e (.c (.t (.int .i64 l)))), some (.e (.c (.t (.int .i64 c)))) =>
      some (0 ≤ l ∧ l ≤ c ∧ c ≤ 9223372036854775807 ∧ c * (by_ : Nat) ≤ 140737488355328, { v := vC (.sl h.length 0 l.toNat), nw := [.arr sz (List.replicate l.toNat zero)] })
    | _, _ => none
  | .slice sz x lo hi => match ev ρ x, bndI ρ lo, bndI ρ hi with
    | some (.e (.c (.t .nil))), some lo, some hi => some (lo.getD 0 = 0 ∧ hi.getD 0 = 0, { v := vD .nil })
    | some (.e (.c (.t (.ls sz' n rows)))), some lo, some hi =>
      some (0 ≤ lo.getD 0 ∧ lo.getD 0 ≤ hi.getD n ∧ hi.getD n ≤ rows.length ∧ sz' = sz, { v := vL sz ((hi.getD n).toNat - (lo.getD 0).toNat) ((rows.drop (lo.getD 0).toNat).take ((hi.getD n).toNat - (lo.getD 0).toNat)) })
    | some (.e (.c (.sl id off n))), some lo, some hi => match hx h id with
      | .arr sz' rows => some (0 ≤ lo.getD 0 ∧ lo.getD 0 ≤ hi.getD n ∧ off + (hi.getD n).toNat ≤ rows.length ∧ sz' = sz, { v := vC (.sl id (off + (lo.getD 0).toNat) ((hi.getD n).toNat - (lo.getD 0).toNat)), rd := [id] })
      | _ => none
    | _, _, _ => none
  | .sliceS x lo hi => match ev ρ x, bndI ρ lo, bndI ρ hi with
    | some (.e (.c (.t (.str s)))), some lo, some hi =>
      some (0 ≤ lo.getD 0 ∧ lo.getD 0 ≤ hi.getD s.size ∧ hi.getD s.size ≤ s.size, { v := vD (.str (s.extract (lo.getD 0).toNat (hi.getD s.size).toNat)) })
    | _, _, _ => none
  | .clip x => match ev ρ x with
    | some (.e (.c (.t .nil))) => ret (vD .nil)
    | some (.e (.c (.t (.ls _ _ _)))) => ret (vD .nil)
    | some (.e (.c (.sl _ _ _))) => ret (vD .nil)
    | _ => none
  | .fieldAddr off x => match ev ρ x with
    | some (.e (.c (.ptr id o))) => ret (vC (.ptr id (o + off)))
    | some (.e (.c (.el id i k))) => ret (vC (.el id i (k + off)))
    | some (.e (.c (.im ds))) => ret (vC (.im (ds.drop off)))
    | _ => none
  | .field off n x => match ev ρ x with
    | some (.e (.agg cs)) => match sub1 cs off n with
      | some (p, v) => some (p, { v := v })
      | none => none
    | _ => none
  | .idxAddr sz x i => match ev ρ x, ev ρ i with
    | some (.e (.c (.sl id off n))), some (.e (.c (.t (.int _ i)))) => match hx h id with
      | .arr sz' _ => some (0 ≤ i ∧ i < n ∧ sz' = sz, { v := vC (.el id (off + i.toNat) 0), rd := [id] })
      | _ => none
    | _, _ => none
  | .idxArr sz len x i => match ev ρ x, ev ρ i with
    | some (.e (.c (.ptr id off))), some (.e (.c (.t (.int _ i)))) => some (0 ≤ i ∧ i < len, { v := vC (.ptr id (off + i.toNat * sz)) })
    | _, _ => none
  | .index sz len n x i => match ev ρ x, ev ρ i with
    | some (.e (.agg cs)), some (.e (.c (.t (.int _ i)))) => match sub1 cs (i.toNat * sz) n with
      | some (p, v) => some (p ∧ 0 ≤ i ∧ i < len, { v := v })
      | none => none
    | _, _ => none
  | .strIdx x i => match ev ρ x, ev ρ i with
    | some (.e (.c (.t (.str s)))), some (.e (.c (.t (.int _ i)))) => some (0 ≤ i ∧ i < s.size, { v := vI .u8 ((s[i.toNat]?.getD 0).toNat : Int) })
    | _, _ => none
  | .extract x i => match ev ρ x with
    | some (.tup es) => match es[i]? with
      | some e => ret (.e e)
      | none => none
    | _ => none
  | .len st x => bif st then (match ev ρ x with
      | some (.e (.c (.t (.str s)))) => ret (vI .i64 s.size)
      | _ => none)
    else match ev ρ x with
      | some v => bif isStr v then none else match natLen v with
        | some n => ret (vI .i64 n)
        | none => none
      | none => none
  | .minmax mx x y => match ev ρ x, ev ρ y with
    | some (.e (.c (.t (.int k a)))), some (.e (.c (.t (.int _ b)))) => ret (vI k (bif mx then (if a < b then b else a) else (if b < a then b else a)))
    | _, _ => none
  | .append sz by_ zero x y => match ev ρ x, (ev ρ y).bind (shows h) with
    | some (.e (.c (.t .nil))), some (sz', m, rows, rd) =>
      some ((m = 0 ∨ sz' = sz) ∧ m ≤ rows.length ∧ m * by_ ≤ 140737488355328 ∧ m ≤ 140737488355328, { v := vC (.sl h.length 0 m), rd := rd, nw := [.arr sz (rows.take m)] })
    | some (.e (.c (.sl id 0 n))), some (sz', m, rows, rd) => match hx h id with
      | .arr sz0 old => bif rd.contains id then none else
        some ((m = 0 ∨ sz' = sz) ∧ sz0 = sz ∧ n = old.length ∧ m ≤ rows.length ∧ (n + m) * by_ ≤ 140737488355328 ∧ n + m ≤ 140737488355328, { v := vC (.sl h.length 0 (n + m)), wr := [(id, .dead)], rd := id :: rd, nw := [.arr sz (old ++ rows.take m)] })
      | _ => none
    | _, _ => none
  | .copy sz x y => match ev ρ x, (ev ρ y).bind (shows h) with
    | some (.e (.c (.sl id off n))), some (sz', m, src, rd) => match hx h id with
      | .arr sz0 rows => some ((m = 0 ∨ sz' = sz) ∧ sz0 = sz ∧ off + n ≤ rows.length ∧ m ≤ src.length,
          { v := vI .i64 (min m n : Nat), wr := [(id, .arr sz (rows.take off ++ src.take (min m n) ++ rows.drop (off + min m n)))], rd := id :: rd })
      | _ => none
    | _, _ => none
  | .clear sz zero x => match ev ρ x with
    | some (.e (.c (.sl id off n))) => match hx h id with
      | .arr sz0 rows => some (sz0 = sz ∧ off + n ≤ rows.length, { v := .tup [], wr := [(id, .arr sz (rows.take off ++ List.replicate n zero ++ rows.drop (off + n)))], rd := [id] })
      | _ => none
    | _ => none
  | .mkFn f caps => match evs ρ caps with
    | some vs => match listM (fun v => match v with | .e (.c c) => some c | _ => none) vs with
      | some cs => ret (vC (.fn f cs))
      | none => none
    | none => none
  | .nilCheck x => match ev ρ x with
    | some (.e (.c (.ptr id off))) => ret (vC (.ptr id off))
    | some (.e (.c (.el id i k))) => ret (vC (.el id i k))
    | some (.e (.c (.im ds))) => ret (vC (.im ds))
    | some (.e (.c (.fn f cs))) => ret (vC (.fn f cs))
    | _ => none
  | .mkMap => some (True, { v := vC (.mp h.length), nw := [.mp []] })
  | _ => none
/-- Operations that ask a list at a place that is not written out: r is what stands there. -/
def aopi (op : AOp) (ρ : Env) (h : List Ob) (r : List D) : PR :=
  match op with
  | .idxAddr sz x i => match ev ρ x, ev ρ i with
    | some (.e (.c (.t (.ls sz' n rows)))), some (.e (.c (.t (.int _ i)))) => some ((0 ≤ i ∧ i < n) ∧ sz' = sz ∧ rows[i.toNat]? = some r, { v := vC (.im r) })
    | _, _ => none
  | .load n x => match ev ρ x with
    | some (.e (.c (.el id i k))) => match hx h id with
      | .arr sz rows => match n with
        | none => match r.drop k with
          | d :: _ => some (rows[i]? = some r, { v := vD d, rd := [id] })
          | [] => none
        | some n => some (rows[i]? = some r ∧ k + n ≤ r.length, { v := vA (((r.drop k).take n).map .t), rd := [id] })
      | _ => none
    | _ => none
  | _ => none
def bytesOf (r : List Int) : ByteArray := ⟨(r.map fun n => UInt8.ofNat n.toNat).toArray⟩
/-- Bytes as a text: r is what they are. -/
def aopb (op : AOp) (ρ : Env) (h : List Ob) (r : List Int) : PR :=
  match op with
  | .bstr x => match (ev ρ x).bind (fun v => bif isStr v then none else shows h v) with
    | some (sz, m, rows, rd) => some ((m = 0 ∨ sz = 1) ∧ m ≤ rows.length ∧ rows.take m = r.map (fun n => [.int .u8 n]), { v := vD (.str (bytesOf r)), rd := rd })
    | none => none
  | _ => none
end Go.Proofs.Ytheaeddojcebjaa
