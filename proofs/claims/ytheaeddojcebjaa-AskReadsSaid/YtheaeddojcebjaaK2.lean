/-
  The operations in a small language of their own (AOp), how they are told from the program's (trC), and what each yields of data, cells and objects (aop).
-/
import Derived.Test.YtheaeddojcebjaaK1
set_option linter.unusedVariables false
set_option linter.unusedSimpArgs false
namespace Go.Proofs.Ytheaeddojcebjaa
open Go.RowKit

inductive AX where
  | tmp (t : Nat)
  | k (e : E)
  deriving Inhabited
/-- The kinds of cells that may be held against each other. -/
inductive LK where
  | int | bool | str
  deriving Inhabited
inductive AOp where
  | mv (x : AX)
  | pick (c a b : AX)
  | box (x : AX)
  | alloc (cs : List C)
  | build (zero : List C) (parts : List (Nat × Nat × AX))
  | mkList (mt : Bool) (sz n : Nat) (zero : List D) (parts : List (Nat × AX))
  | load (n : Option Nat) (x : AX)
  | store (n : Nat) (a x : AX)
  | bin (op : BinOp) (x y : AX)
  | binB (neg : Bool) (x y : AX)
  | eqAgg (neg : Bool) (ks : List LK) (x y : AX)
  | eqPtr (neg : Bool) (x y : AX)
  | un (op : UnOp) (x : AX)
  | conv (k : IntKind) (x : AX)
  | same (x : AX)
  | bstr (x : AX)
  | mkSlice (sz bytes : Nat) (zero : List D) (l c : AX)
  | slice (sz : Nat) (x : AX) (lo hi : Option AX)
  | sliceS (x : AX) (lo hi : Option AX)
  | clip (x : AX)
  | fieldAddr (off : Nat) (x : AX)
  | field (off : Nat) (n : Option Nat) (x : AX)
  | idxAddr (sz : Nat) (x i : AX)
  | idxArr (sz len : Nat) (x i : AX)
  | index (sz len : Nat) (n : Option Nat) (x i : AX)
  | strIdx (x i : AX)
  | extract (x : AX) (i : Nat)
  | len (st : Bool) (x : AX)
  | lenM (x : AX)
  | minmax (mx : Bool) (x y : AX)
  | append (sz bytes : Nat) (zero : List D) (x y : AX)
  | copy (sz : Nat) (x y : AX)
  | clear (sz : Nat) (zero : List D) (x : AX)
  | call (f : FuncId) (args : List AX)
  | callv (x : AX) (args : List AX)
  | mkFn (f : FuncId) (caps : List AX)
  | nilCheck (x : AX)
  | mkMap
  | lookup (ok : Bool) (zero : E) (x k : AX)
  | mapSet (x k v : AX)
  | delete (x k : AX)
  deriving Inhabited
def AX.ts : AX → List Nat
  | .tmp t => [t]
  | .k _ => []
def xts (l : List AX) : List Nat := l.flatMap AX.ts
def AOp.xs : AOp → List AX
  | .mv x => [x]
  | .pick c a b => [c, a, b]
  | .box x => [x]
  | .alloc _ => []
  | .build _ ps => ps.map (·.2.2)
  | .mkList _ _ _ _ ps => ps.map (·.2)
  | .load _ x => [x]
  | .store _ a x => [a, x]
  | .bin _ x y => [x, y]
  | .binB _ x y => [x, y]
  | .eqAgg _ _ x y => [x, y]
  | .eqPtr _ x y => [x, y]
  | .un _ x => [x]
  | .conv _ x => [x]
  | .same x => [x]
  | .bstr x => [x]
  | .mkSlice _ _ _ l c => [l, c]
  | .slice _ x lo hi => x :: (lo.toList ++ hi.toList)
  | .sliceS x lo hi => x :: (lo.toList ++ hi.toList)
  | .clip x => [x]
  | .fieldAddr _ x => [x]
  | .field _ _ x => [x]
  | .idxAddr _ x i => [x, i]
  | .idxArr _ _ x i => [x, i]
  | .index _ _ _ x i => [x, i]
  | .strIdx x i => [x, i]
  | .extract x _ => [x]
  | .len _ x => [x]
  | .lenM x => [x]
  | .minmax _ x y => [x, y]
  | .append _ _ _ x y => [x, y]
  | .copy _ x y => [x, y]
  | .clear _ _ x => [x]
  | .call _ args => args
  | .callv x args => x :: args
  | .mkFn _ cs => cs
  | .nilCheck x => [x]
  | .mkMap => []
  | .lookup _ _ x k => [x, k]
  | .mapSet x k v => [x, k, v]
  | .delete x k => [x, k]
def AOp.ts (o : AOp) : List Nat := xts o.xs
structure AO where
  dst : Option Nat
  op : AOp
  grd : Option (Nat × Bool) := none
  deriving Inhabited
inductive AC where
  | skip
  | region (l : List AO) (up : Option (List (List Nat)))
  | seq (a b : AC)
  | cond (c : AX) (a b : AC)
  | block (id : Nat) (a : AC)
  | loop (a : AC)
  | exit (id : Nat)
  | ret
  deriving Inhabited
inductive AR where
  | tmp (t : Nat)
  | cell (t : Nat) (n : Option Nat)
  deriving Inhabited
structure AF where
  np : Nat
  N : Nat
  body : AC
  res : List AR
  deriving Inhabited

def toD : Value → Option D
  | .int k n => some (.int k n)
  | .bool b => some (.bool b)
  | .string s => some (.str s)
  | .slice none 0 0 => some .nil
  | _ => none
def toC : Value → Option C
  | .pointer none => some .nilp
  | v => (toD v).map .t
def listM {α β : Type} (f : α → Option β) : List α → Option (List β)
  | [] => some []
  | a :: l => match f a, listM f l with
    | some b, some r => some (b :: r)
    | _, _ => none
def toE : Value → Option E
  | .agg cs => (listM toC cs.toList).map .agg
  | v => (toC v).map .c
def trX : Operand → Option AX
  | .tmp t => some (.tmp t)
  | .const v => (toE v).map .k
  | .func f => some (.k (.c (.fn f [])))
  | .global _ => none
def trXo : Option Operand → Option (Option AX)
  | none => some none
  | some x => (trX x).map some

def sizeB (P : Program) (t : TypeId) : Option Nat := (P.info? t).map (·.size)
def bytesB (P : Program) (t : TypeId) : Option Nat := (P.info? t).map (·.bytes)
def zeroB (P : Program) (t : TypeId) : Option (Array Value) := ((P.info? t).bind (·.zero)).map (·.cells)
def aggB (P : Program) (t : TypeId) : Option Bool := match P.underlying t with
  | some (.struct _) => some true
  | some (.array _ _) => some true
  | some _ => some false
  | none => none
def cellsB (P : Program) (t : TypeId) : Option (Option Nat) := match aggB P t with
  | some true => (sizeB P t).map some
  | some false => some none
  | none => none
def zeroC (P : Program) (t : TypeId) : Option (List C) := (zeroB P t).bind fun z => listM toC z.toList
def zeroD (P : Program) (t : TypeId) : Option (List D) := (zeroB P t).bind fun z => listM toD z.toList
def flatFs (P : Program) (fl : TypeId → Option (List LK)) : List Field → Nat → Option (List LK)
  | [], _ => some []
  | f :: fs, n => match fl f.type, sizeB P f.type, aggB P f.type with
    | some ks, some sz, some _ => if f.name ≠ "_" ∧ f.offset = n ∧ sz = ks.length then (flatFs P fl fs (n + sz)).map (ks ++ ·) else none
    | _, _, _ => none
/-- The fields of a struct, or of one within, one behind the other, each of one cell that may be held against another's. -/
def flat (P : Program) : Nat → TypeId → Option (List LK)
  | 0, _ => none
  | d + 1, t => match P.underlying t with
    | some .bool => some [.bool]
    | some (.int _) => some [.int]
    | some .string => some [.str]
    | some (.struct fs) => if P.stoodInHeld t then none else flatFs P (flat P d) fs.toList 0
    | _ => none
def fieldsB (P : Program) (t : TypeId) : Option (List (Nat × Nat)) := match P.underlying t with
  | some (.struct fs) => listM (fun (f : Field) => (sizeB P f.type).map fun n => (f.offset, n)) fs.toList
  | _ => none
def trOp (P : Program) (o : Oper) : Option AOp :=
  match o.op with
  | .move x => (trX x).map .mv
  | .assign x => (trX x).map .mv
  | .pick c a b => match trX c, trX a, trX b with
    | some c, some a, some b => some (.pick c a b)
    | _, _, _ => none
  | .box _ x => (trX x).map .box
  | .alloc t => (zeroC P t).map .alloc
  | .build t parts => match zeroC P t, P.underlying t with
    | some z, some (.struct _) => match fieldsB P t with
      | some fs => (listM (fun (p : Nat × Operand) => match fs[p.1]?, trX p.2 with | some (off, n), some x => some (off, n, x) | _, _ => none) parts.toList).map (.build z)
      | none => none
    | some z, some (.array _ e) => match sizeB P e with
      | some n => (listM (fun (p : Nat × Operand) => (trX p.2).map fun x => (p.1 * n, n, x)) parts.toList).map (.build z)
      | none => none
    | _, _ => none
  | .buildSlice t len parts => match P.underlying t with
    | some (.slice e) => match sizeB P e, zeroD P e, listM (fun (p : Nat × Operand) => (trX p.2).map fun x => (p.1, x)) parts.toList with
      | some sz, some z, some ps => if 0 < sz ∧ z.length = sz ∧ len * sz ≤ 65536 then some (.mkList false sz len z ps) else none
      | _, _, _ => none
    | _ => none
  | .load t x => match cellsB P t, trX x with
    | some n, some x => some (.load n x)
    | _, _ => none
  | .store t a x => match sizeB P t, trX a, trX x with
    | some n, some a, some x => some (.store n a x)
    | _, _, _ => none
  | .binOp op t x y _ => match trX x, trX y with
    | some x, some y => match P.underlying t with
      | some (.struct _) => match flat P 6 t, op with
        | some ks, .eql => if P.eqGuardType P.depth t then none else some (.eqAgg false ks x y)
        | some ks, .neq => if P.eqGuardType P.depth t then none else some (.eqAgg true ks x y)
        | _, _ => none
      | some (.array n e) => match P.underlying e, sizeB P e, op with
        | some (.int _), some 1, .eql => if P.eqGuardType P.depth t then none else some (.eqAgg false (List.replicate n .int) x y)
        | some (.int _), some 1, .neq => if P.eqGuardType P.depth t then none else some (.eqAgg true (List.replicate n .int) x y)
        | _, _, _ => none
      | some (.pointer e) => match sizeB P e, op with
        | some (n + 1), .eql => some (.eqPtr false x y)
        | some (n + 1), .neq => some (.eqPtr true x y)
        | _, _ => none
      | some (.int _) => some (.bin op x y)
      | some .string => some (.bin op x y)
      | some .bool => match op with
        | .eql => some (.binB false x y)
        | .neq => some (.binB true x y)
        | _ => none
      | _ => none
    | _, _ => none
  | .unOp op _ x => (trX x).map (.un op)
  | .convert s t x => match trX x, P.underlying s, P.underlying t with
    | some x, some (.int _), some (.int k) => some (.conv k x)
    | some x, some .string, some .string => some (.same x)
    | some x, some (.slice e), some .string => match P.underlying e with
      | some (.int .u8) => some (.bstr x)
      | _ => none
    | _, _, _ => none
  | .makeSlice t l c => match P.underlying t with
    | some (.slice e) => match sizeB P e, bytesB P e, zeroD P e, trX l, trX c with
      | some sz, some by_, some z, some l, some c => if 0 < sz ∧ z.length = sz then some (.mkSlice sz by_ z l c) else none
      | _, _, _, _, _ => none
    | _ => none
  | .slice t x lo hi mx => match P.underlying t, trX x, trXo lo, trXo hi with
    | some (.slice e), some x, some lo, some hi => match sizeB P e, mx with
      | some sz, none => if 0 < sz then some (.slice sz x lo hi) else none
      | some sz, some (.const (.int .i64 0)) => match lo, hi with
        | none, some (.k (.c (.t (.int .i64 0)))) => some (.clip x)
        | _, _ => none
      | _, _ => none
    | some .string, some x, some lo, some hi => match mx with
      | none => some (.sliceS x lo hi)
      | _ => none
    | _, _, _, _ => none
  | .fieldAddr t x f => match fieldsB P t, trX x with
    | some fs, some x => match fs[f]? with
      | some (off, n + 1) => some (.fieldAddr off x)
      | _ => none
    | _, _ => none
  | .field t x f => match P.underlying t, trX x with
    | some (.struct fs), some x => match fs[f]? with
      | some fd => (cellsB P fd.type).map fun n => .field fd.offset n x
      | none => none
    | _, _ => none
  | .indexAddr t x i => match P.underlying t, trX x, trX i with
    | some (.slice e), some x, some i => match sizeB P e with
      | some sz => if 0 < sz then some (.idxAddr sz x i) else none
      | none => none
    | some (.array n e), some x, some i => (sizeB P e).map fun sz => .idxArr sz n x i
    | _, _, _ => none
  | .index t x i => match P.underlying t, trX x, trX i with
    | some (.array len e), some x, some i => match sizeB P e, cellsB P e with
      | some sz, some n => some (.index sz len n x i)
      | _, _ => none
    | some .string, some x, some i => some (.strIdx x i)
    | _, _, _ => none
  | .extract x i => (trX x).map fun x => .extract x i
  | .nilCheck x => (trX x).map .nilCheck
  | .makeFunc (.func f) fst caps => if fst.isEmpty then (listM trX caps.toList).map (.mkFn f) else none
  | .makeMap t r => match r with
    | none => some .mkMap
    | some r => none
  | .lookup t x k ok => match P.underlying t, trX x, trX k with
    | some (.map kt et), some x, some k => match flat P 6 kt, (P.info? et).bind (·.zero) with
      | some _, some z => (toE z).map fun z => .lookup ok z x k
      | _, _ => none
    | _, _, _ => none
  | .mapUpdate t m k v => match P.underlying t, trX m, trX k, trX v with
    | some (.map kt et), some m, some k, some v => match flat P 6 kt with
      | some _ => some (.mapSet m k v)
      | none => none
    | _, _, _, _ => none
  | .call c => match listM trX c.args.toList with
    | none => none
    | some args => match c.callee with
      | .value (.func f) => match P.funcs[f]? with
        | some fn => if fn.body.isSome ∧ fn.name ≠ "runtime.NumGoroutine" then some (.call f args) else none
        | none => none
      | .value x => (trX x).map fun x => .callv x args
      | .builtin .len => match c.argTypes[0]?.bind P.underlying, args with
        | some (.slice _), [x] => some (.len false x)
        | some .string, [x] => some (.len true x)
        | some (.map _ _), [x] => some (.lenM x)
        | some (.array n _), [_] => some (.mv (.k (.c (.t (.int .i64 n)))))
        | _, _ => none
      | .builtin .max => match args with
        | [x, y] => some (.minmax true x y)
        | _ => none
      | .builtin .min => match args with
        | [x, y] => some (.minmax false x y)
        | _ => none
      | .builtin .append => match c.argTypes[0]?.bind P.underlying, c.argTypes[1]?.bind P.underlying, args with
        | some (.slice e), some t2, [x, y] => match t2, sizeB P e, bytesB P e, zeroD P e with
          | .slice _, some sz, some by_, some z => if 0 < sz ∧ z.length = sz then some (.append sz by_ z x y) else none
          | .string, some sz, some by_, some z => if sz = 1 ∧ z.length = sz then some (.append sz by_ z x y) else none
          | _, _, _, _ => none
        | _, _, _ => none
      | .builtin .copy => match c.argTypes[0]?.bind P.underlying, args with
        | some (.slice e), [x, y] => match sizeB P e with
          | some sz => if 0 < sz then some (.copy sz x y) else none
          | none => none
        | _, _ => none
      | .builtin .clear => match c.argTypes[0]?.bind P.underlying, args with
        | some (.slice e), [x] => match sizeB P e, zeroD P e with
          | some sz, some z => if 0 < sz ∧ z.length = sz then some (.clear sz z x) else none
          | _, _ => none
        | _, _ => none
      | .builtin .delete => match c.argTypes[0]?.bind P.underlying, args with
        | some (.map kt _), [m, k] => match flat P 6 kt with
          | some _ => some (.delete m k)
          | none => none
        | _, _ => none
      | _ => none
  | _ => none
def dstB (N : Nat) : Option Nat → Bool
  | some d => decide (d < N)
  | none => true
def trO (P : Program) (N : Nat) (ops : Array Oper) (o : Oper) : Option AO :=
  match trOp P o with
  | none => none
  | some a => if dstB N o.dst = true then
      match o.guard with
      | none => some ⟨o.dst, a, none⟩
      | some (j, want) => match (ops[j]?).bind (·.dst) with
        | some t => some ⟨o.dst, a, some (t, want)⟩
        | none => none
    else none
/-- The temporaries that are asked are those that the edges go by. -/
def lookB (ops : Array Oper) (l : List AO) : Bool := (List.range l.length).all fun k => match l[k]? with
  | some o => o.op.ts.all (fun t => (looksOf ops k).contains t) && (match o.grd with | some (t, _) => (looksOf ops k).contains t | none => true)
  | none => true
def trC (P : Program) (N : Nat) : Code → Option AC
  | .skip => some .skip
  | .region _ ops draw => match listM (trO P N ops) ops.toList with
    | none => none
    | some l => if draw then (if relB ops ops.size N [] && lookB ops l && P.follows .mixedOrders then some (.region l (some ((List.range ops.size).map (upon ops)))) else none) else some (.region l none)
  | .seq a b => match trC P N a, trC P N b with
    | some a, some b => some (.seq a b)
    | _, _ => none
  | .cond c a b => match trX c, trC P N a, trC P N b with
    | some c, some a, some b => some (.cond c a b)
    | _, _, _ => none
  | .block id a => (trC P N a).map (.block id)
  | .loop a => (trC P N a).map .loop
  | .exit id => some (.exit id)
  | .ret => some .ret
  | _ => none
def trR (P : Program) : ResultVar → Option AR
  | .tmp t => some (.tmp t)
  | .cell a t => (cellsB P t).map (.cell a)
def trF (P : Program) (f : Func) : Option AF :=
  match f.body with
  | none => none
  | some c => match trC P f.ntmps c, listM (trR P) f.results.toList with
    | some b, some r => if f.params.size + f.nfree ≤ f.ntmps then some ⟨f.params.size + f.nfree, f.ntmps, b, r⟩ else none
    | _, _ => none
/-- The function as it is told. -/
def FnAt (P : Program) (f : FuncId) (af : AF) : Prop := ∃ fn, P.funcs[f]? = some fn ∧ trF P fn = some af ∧ (fn.name == "runtime.NumGoroutine") = false
theorem FnAt.mk {P : Program} {f : FuncId} {af : AF} {fn : Func} (h1 : P.funcs[f]? = some fn) (h2 : trF P fn = some af) (h3 : (fn.name == "runtime.NumGoroutine") = false) : FnAt P f af := ⟨fn, h1, h2, h3⟩
end Go.Proofs.Ytheaeddojcebjaa
namespace Go.Proofs.Ytheaeddojcebjaa.Ab
open Go.RowKit

abbrev t (n : Nat) : AX := .tmp n
abbrev i (n : Int) : AX := .k (.c (.t (.int .i64 n)))
abbrev bo (b : Bool) : AX := .k (.c (.t (.bool b)))
abbrev a (d : Nat) (o : AOp) : AO := ⟨some d, o, none⟩
abbrev a_ (o : AOp) : AO := ⟨none, o, none⟩
abbrev g (d t : Nat) (b : Bool) (o : AOp) : AO := ⟨some d, o, some (t, b)⟩
abbrev g_ (t : Nat) (b : Bool) (o : AOp) : AO := ⟨none, o, some (t, b)⟩
end Go.Proofs.Ytheaeddojcebjaa.Ab
