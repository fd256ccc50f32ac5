/- A part of the proof of a law of this seat (AiDefs, AiRel, AiTab, AiOps, AiOps2, AiOps3, AiOps4, AiOps5, AiOps6, AiOps7, AiOps8). -/
import Derived.Laws.AppendOwn
import Derived.Orders
import Derived.Laws.BytesArg
import Derived.Below
import Derived.Laws.Rows
import Derived.Laws.Tables
import Derived.Laws.Strings
set_option linter.unusedSimpArgs false
set_option linter.unusedVariables false
namespace Go.Ai
open Go

/-- The kinds of data. -/
inductive Ty where
  | int (k : IntKind)
  | bool
  | str
  | list (t : Ty)
  | prod (a b : Ty)
  deriving DecidableEq

def Ty.den : Ty → Type
  | .int _ => Int
  | .bool => Bool
  | .str => ByteArray
  | .list t => List t.den
  | .prod a b => a.den × b.den

/-- How many cells a datum takes. -/
def Ty.sz : Ty → Nat
  | .prod a b => a.sz + b.sz
  | _ => 1

/-- Abstract values: immutable trees; `own`: a row that the call may append to; `box`: a variable in memory with its content; `eptr`: a place that is only read, with what it holds from there on; `row`: a row that is this call's alone, whose elements may be written; `rel`: a place in such a row. -/
inductive AV where
  | bot
  | int (k : IntKind) (n : Int)
  | bool (b : Bool)
  | str (s : ByteArray)
  | agg (cs : List AV)
  | tup (vs : List AV)
  | snil
  | tl (t : Ty) (xs : List t.den)
  | clip (t : Ty) (xs : List t.den)
  | own (id e : Nat) (t : Ty) (xs : List t.den)
  | box (id off : Nat) (cs : List AV)
  | eptr (cs : List AV)
  | fn (f : Nat) (caps : List AV)
  | row (id e : Nat) (t : Ty) (xs : List t.den)
  | rel (id e : Nat) (t : Ty) (xs : List t.den) (n : Int) (off : Nat)

def AV.cells : AV → List AV
  | .agg cs => cs
  | a => [a]

def emb : (t : Ty) → t.den → List AV
  | .int k, n => [.int k n]
  | .bool, b => [.bool b]
  | .str, s => [.str s]
  | .list t, xs => [.tl t xs]
  | .prod a b, x => emb a x.1 ++ emb b x.2

def cast (t u : Ty) (xs : List t.den) : Option (List u.den) :=
  if h : t = u then some (h ▸ xs) else none

/-- The elements of a slice, of a given kind. -/
def AV.elems (u : Ty) : AV → Option (List u.den)
  | .snil => some []
  | .tl t xs => cast t u xs
  | .clip t xs => cast t u xs
  | .own _ _ t xs => cast t u xs
  | _ => none

/-- A datum out of cells, and the cells that are left. -/
def decT : (t : Ty) → List AV → Option (t.den × List AV)
  | .int k, .int k' n :: r => if k' = k then some (n, r) else none
  | .bool, .bool b :: r => some (b, r)
  | .str, .str s :: r => some (s, r)
  | .list u, a :: r => (a.elems u).bind fun xs => some (xs, r)
  | .prod a b, cs => (decT a cs).bind fun x => (decT b x.2).bind fun y => some ((x.1, y.1), y.2)
  | _, _ => none

/-- A whole value. -/
def dec (t : Ty) (cs : List AV) : Option t.den :=
  (decT t cs).bind fun x => match x.2 with
    | [] => some x.1
    | _ => none

mutual
def AV.esc : AV → AV
  | .agg cs => .agg (escL cs)
  | .tup vs => .tup (escL vs)
  | .clip t xs => .tl t xs
  | .own _ _ t xs => .tl t xs
  | .box _ off cs => .eptr ((escL cs).drop off)
  | .fn f caps => .fn f (escL caps)
  | .bot => .bot
  | .int k n => .int k n
  | .bool b => .bool b
  | .str s => .str s
  | .snil => .snil
  | .tl t xs => .tl t xs
  | .eptr cs => .eptr cs
  | .row _ _ _ _ => .bot
  | .rel _ _ _ _ _ _ => .bot
def escL : List AV → List AV
  | [] => []
  | a :: l => a.esc :: escL l
end

mutual
/-- No variable in memory is led to. -/
def AV.nb : AV → Bool
  | .agg cs => nbL cs
  | .tup vs => nbL vs
  | .fn _ caps => nbL caps
  | .box _ _ _ => false
  | .row _ _ _ _ => false
  | .rel _ _ _ _ _ _ => false
  | _ => true
def nbL : List AV → Bool
  | [] => true
  | a :: l => a.nb && nbL l
end

/-- What may lie in one cell of memory, without leading to a variable. -/
def AV.ocell : AV → Bool
  | .int _ _ => true
  | .bool _ => true
  | .str _ => true
  | .snil => true
  | .tl _ _ => true
  | .clip _ _ => true
  | .own _ _ _ _ => true
  | .eptr _ => true
  | .fn _ caps => nbL caps
  | _ => false
def ocells : List AV → Bool
  | [] => true
  | a :: l => a.ocell && ocells l

mutual
/-- No place in memory and no function. -/
def AV.np : AV → Bool
  | .agg cs => npL cs
  | .tup vs => npL vs
  | .fn _ _ => false
  | .box _ _ _ => false
  | .eptr _ => false
  | .row _ _ _ _ => false
  | .rel _ _ _ _ _ _ => false
  | _ => true
def npL : List AV → Bool
  | [] => true
  | a :: l => a.np && npL l
end

mutual
/-- It leads to nothing of the call's own. -/
def AV.cl : AV → Bool
  | .agg cs => clL cs
  | .tup vs => clL vs
  | .fn _ caps => clL caps
  | .box _ _ _ => false
  | .own _ _ _ _ => false
  | .row _ _ _ _ => false
  | .rel _ _ _ _ _ _ => false
  | _ => true
def clL : List AV → Bool
  | [] => true
  | a :: l => a.cl && clL l
end

mutual
/-- The variable `id` holds `new` now. -/
def AV.upd (id : Nat) (new : List AV) : AV → AV
  | .box j off cs => if j = id then .box j off new else .box j off (updL id new cs)
  | .agg cs => .agg (updL id new cs)
  | .tup vs => .tup (updL id new vs)
  | .fn f caps => .fn f (updL id new caps)
  | .row j e t xs => if j = id then .bot else .row j e t xs
  | .rel j e t xs n off => if j = id then .bot else .rel j e t xs n off
  | a => a
def updL (id : Nat) (new : List AV) : List AV → List AV
  | [] => []
  | a :: l => a.upd id new :: updL id new l
end

mutual
/-- The element `n` of the row `id` is `z` now. -/
def AV.st (id : Nat) (u : Ty) (n : Nat) (z : u.den) : AV → AV
  | .row j e t xs => if j = id then (if h : u = t then .row j e t (xs.set n (h ▸ z)) else .bot) else .row j e t xs
  | .rel j e t xs m off => if j = id then (if h : u = t then .rel j e t (xs.set n (h ▸ z)) m off else .bot) else .rel j e t xs m off
  | .box j off cs => if j = id then .bot else .box j off (stL id u n z cs)
  | .agg cs => .agg (stL id u n z cs)
  | .tup vs => .tup (stL id u n z vs)
  | .fn f caps => .fn f (stL id u n z caps)
  | a => a
def stL (id : Nat) (u : Ty) (n : Nat) (z : u.den) : List AV → List AV
  | [] => []
  | a :: l => a.st id u n z :: stL id u n z l
end

mutual
/-- The first elements of the row `id` are `ys` now. -/
def AV.rs (id : Nat) (u : Ty) (ys : List u.den) : AV → AV
  | .row j e t xs => if j = id then (if h : u = t then .row j e t (List.take xs.length (h ▸ ys) ++ List.drop ys.length xs) else .bot) else .row j e t xs
  | .rel j e t xs m off => if j = id then .bot else .rel j e t xs m off
  | .box j off cs => if j = id then .bot else .box j off (rsL id u ys cs)
  | .agg cs => .agg (rsL id u ys cs)
  | .tup vs => .tup (rsL id u ys vs)
  | .fn f caps => .fn f (rsL id u ys caps)
  | a => a
def rsL (id : Nat) (u : Ty) (ys : List u.den) : List AV → List AV
  | [] => []
  | a :: l => a.rs id u ys :: rsL id u ys l
end

mutual
/-- The row `id` is no more. -/
def AV.kill (id : Nat) : AV → AV
  | .row j e t xs => if j = id then .bot else .row j e t xs
  | .rel j e t xs m off => if j = id then .bot else .rel j e t xs m off
  | .box j off cs => if j = id then .bot else .box j off (killL id cs)
  | .agg cs => .agg (killL id cs)
  | .tup vs => .tup (killL id vs)
  | .fn f caps => .fn f (killL id caps)
  | a => a
def killL (id : Nat) : List AV → List AV
  | [] => []
  | a :: l => a.kill id :: killL id l
end

mutual
/-- As a result it may be read from now on. -/
def AV.fin : AV → AV
  | .agg cs => .agg (finL cs)
  | .tup vs => .tup (finL vs)
  | .clip t xs => .tl t xs
  | .own _ _ t xs => .tl t xs
  | .row _ _ t xs => .tl t xs
  | .box _ off cs => .eptr ((finL cs).drop off)
  | .fn f caps => .fn f (finL caps)
  | .rel _ _ _ _ _ _ => .bot
  | .bot => .bot
  | .int k n => .int k n
  | .bool b => .bool b
  | .str s => .str s
  | .snil => .snil
  | .tl t xs => .tl t xs
  | .eptr cs => .eptr cs
def finL : List AV → List AV
  | [] => []
  | a :: l => a.fin :: finL l
end

inductive TK where
  | struct (fs : List (Nat × Nat × Bool))
  | slice (e : Nat)
  | str
  | int (k : IntKind)
  | bool
structure TI where
  sz : Nat
  bytes : Nat
  zero : AV
  kind : TK
  ty : Ty

def TK.isAgg : TK → Bool
  | .struct _ => true
  | _ => false

def aconst : Value → Option AV
  | .int k n => some (.int k n)
  | .bool b => some (.bool b)
  | .string s => some (.str s)
  | .slice none 0 0 => some .snil
  | .nilFunc => some .bot
  | _ => none

def lget {α : Type} : List α → Nat → Option α
  | [], _ => none
  | a :: _, 0 => some a
  | _ :: l, n + 1 => lget l n

def lset {α : Type} : List α → Nat → α → List α
  | [], _, _ => []
  | _ :: l, 0, v => v :: l
  | a :: l, n + 1, v => a :: lset l n v

def aget (fr : List AV) : Operand → Option AV
  | .tmp t => lget fr t
  | .const v => aconst v
  | .func f => some (.fn f [])
  | .global _ => none

def agets (fr : List AV) : List Operand → Option (List AV)
  | [] => some []
  | x :: l => (aget fr x).bind fun a => (agets fr l).bind fun as => some (a :: as)

def aint (op : BinOp) (k : IntKind) (a b : Int) : Option AV :=
  match op with
  | .add => some (.int k (k.wrap (a + b)))
  | .sub => some (.int k (k.wrap (a - b)))
  | .mul => some (.int k (k.wrap (a * b)))
  | .quo => if b = 0 then none else some (.int k (k.wrap (a.tdiv b)))
  | .rem => if b = 0 then none else some (.int k (a.tmod b))
  | .and => some (.int k (k.wrap (BitVec.ofInt k.bits a &&& BitVec.ofInt k.bits b).toNat))
  | .or => some (.int k (k.wrap (BitVec.ofInt k.bits a ||| BitVec.ofInt k.bits b).toNat))
  | .xor => some (.int k (k.wrap (BitVec.ofInt k.bits a ^^^ BitVec.ofInt k.bits b).toNat))
  | .andNot => some (.int k (k.wrap (BitVec.ofInt k.bits a &&& ~~~ BitVec.ofInt k.bits b).toNat))
  | .eql => some (.bool (decide (a = b)))
  | .neq => some (.bool (decide (a ≠ b)))
  | .lss => some (.bool (decide (a < b)))
  | .leq => some (.bool (decide (a ≤ b)))
  | .gtr => some (.bool (decide (a > b)))
  | .geq => some (.bool (decide (a ≥ b)))
  | _ => none

def abin (op : BinOp) (x y : AV) : Option AV :=
  match x, y with
  | .int k a, .int k' b =>
    match op with
    | .shl => if b < 0 then none else some (.int k (k.wrap (a * 2 ^ (min b.toNat k.bits))))
    | .shr => if b < 0 then none else some (.int k (a.fdiv (2 ^ (min b.toNat k.bits))))
    | op => if k = k' then aint op k a b else none
  | .str a, .str b =>
    match op with
    | .add => if a.size + b.size ≤ 140737488355328 then some (.str (a ++ b)) else none
    | .eql => some (.bool (decide (a = b)))
    | .neq => some (.bool (decide (a ≠ b)))
    | .lss => some (.bool (Op.bytesLess a.toList b.toList))
    | .leq => some (.bool (Op.bytesLess a.toList b.toList || decide (a = b)))
    | .gtr => some (.bool !(Op.bytesLess a.toList b.toList || decide (a = b)))
    | .geq => some (.bool !(Op.bytesLess a.toList b.toList))
    | _ => none
  | _, _ => none

/-- `sz` cells from `off` on, as one value. -/
def apart (ag : Bool) (sz off : Nat) (cs : List AV) : Option AV :=
  match ag with
  | true => if off + sz ≤ cs.length then some (.agg ((cs.drop off).take sz)) else none
  | false => lget cs off

/-- Parts laid into cells. -/
def afill (fs : List (Nat × Nat × Bool)) : List AV → List (Nat × AV) → Option (List AV)
  | cells, [] => some cells
  | cells, (i, v) :: l => (lget fs i).bind fun f => if v.cells.length ≠ f.2.1 ∨ f.1 + f.2.1 > cells.length ∨ ocells v.cells = false then none else afill fs (cells.take f.1 ++ v.cells ++ cells.drop (f.1 + f.2.1)) l

def aparts (fr : List AV) : List (Nat × Operand) → Option (List (Nat × AV))
  | [] => some []
  | (i, x) :: l => (aget fr x).bind fun a => (aparts fr l).bind fun as => some ((i, a) :: as)

/-- The elements of a slice literal, in their order. -/
def aelems (u : Ty) (k : Nat) : List (Nat × AV) → Option (List u.den)
  | [] => some []
  | (i, v) :: l => if i ≠ k then none else (dec u v.cells).bind fun x => (aelems u (k + 1) l).bind fun as => some (x :: as)

def abound (x : Option AV) (d : Int) : Option Int :=
  match x with
  | none => some d
  | some (.int _ n) => some n
  | _ => none

def agetO (fr : List AV) : Option Operand → Option (Option AV)
  | none => some none
  | some x => (aget fr x).bind fun a => some (some a)

section
variable (T : Nat → Option TI) (O : Nat → List AV → Option AV)

/-- A call of a function: by what is known of it. -/
def acall (id : Nat) (f : AV) (as : List AV) : Option AV :=
  match f with
  | .fn g caps => (O g (escL (as ++ caps))).bind fun r => match r with
    | .own _ e t xs => if nbL (as ++ caps) = true then some (.own id e t xs) else none
    | r => if (r.cl && (nbL (as ++ caps) || r.np)) = true then some r else none
  | _ => none

def alen (t : Nat) (a : AV) : Option AV :=
  (T t).bind fun i => match i.kind, a with
    | .str, .str s => some (.int .i64 s.size)
    | .slice _, .snil => some (.int .i64 0)
    | .slice _, .tl _ xs => some (.int .i64 xs.length)
    | .slice _, .clip _ xs => some (.int .i64 xs.length)
    | .slice _, .own _ _ _ xs => some (.int .i64 xs.length)
    | .slice _, .row _ _ _ xs => some (.int .i64 xs.length)
    | _, _ => none

def fits (n m bytes : Nat) : Bool := decide ((n + m) * bytes ≤ 140737488355328) && decide (n + m ≤ 9223372036854775807)

def aappend (id : Nat) (t t' : Nat) (s x : AV) : Option (AV × Option Nat) :=
  if t ≠ t' then none else
    (T t).bind fun i => match i.kind with
    | .slice e => (T e).bind fun j => (x.elems j.ty).bind fun zs =>
      if j.sz = 0 then none else
      match s with
      | .snil => if fits 0 zs.length j.bytes = true then some (.own id e j.ty zs, none) else none
      | .own d e' u ys => if e' ≠ e then none else (cast u j.ty ys).bind fun ys =>
        if fits ys.length zs.length j.bytes = true then some (.own id e j.ty (ys ++ zs), some d) else none
      | .clip u ys => (cast u j.ty ys).bind fun ys => if fits ys.length zs.length j.bytes = true then some (.tl j.ty (ys ++ zs), none) else none
      | _ => none
    | _ => none

def abuiltin (id : Nat) (b : Builtin) (ts : List Nat) (as : List AV) : Option (AV × Option Nat) :=
  match b, ts, as with
  | .len, [t], [a] => (alen T t a).bind fun v => some (v, none)
  | .max, _, [.int k x, .int k' y] => if k = k' then some (.int k (max x y), none) else none
  | .min, _, [.int k x, .int k' y] => if k = k' then some (.int k (min x y), none) else none
  | .append, [t, t'], [s, x] => aappend T id t t' s x
  | _, _, _ => none

def aslice (t : Nat) (a : AV) (l hv m : Option AV) : Option AV :=
  (T t).bind fun i => match i.kind, a, m with
    | .str, .str s, none => (abound l 0).bind fun l => (abound hv s.size).bind fun h =>
      if 0 ≤ l ∧ l ≤ h ∧ h ≤ s.size then some (.str (s.extract l.toNat h.toNat)) else none
    | .slice e, a, none => (T e).bind fun j => (a.elems j.ty).bind fun xs => (abound l 0).bind fun l => (abound hv xs.length).bind fun h =>
      if 0 ≤ l ∧ l ≤ h ∧ h ≤ xs.length then some (.tl j.ty ((xs.take h.toNat).drop l.toNat)) else none
    | .slice e, a, some (.int _ m) => (T e).bind fun j => (a.elems j.ty).bind fun xs => (abound hv xs.length).bind fun h =>
      if hv.isSome = true ∧ l.isNone = true ∧ 0 ≤ h ∧ h ≤ xs.length ∧ h = m then some (.clip j.ty (xs.take h.toNat)) else none
    | _, _, _ => none

/-- The place of element n. -/
def aindex (t : Nat) (a n : AV) : Option AV :=
  (T t).bind fun i => match i.kind, n with
    | .slice e, .int _ n => (T e).bind fun j => match a with
      | .row q e' u xs => if e' = e ∧ u = j.ty then (if n < 0 then none else (xs[n.toNat]?).bind fun _ => some (.rel q e' u xs n 0)) else none
      | a => (a.elems j.ty).bind fun xs => if n < 0 then none else (xs[n.toNat]?).bind fun x => some (.eptr (emb j.ty x))
    | _, _ => none

/-- An element of a row, with other cells from `off` on. -/
def splice (u : Ty) (z : u.den) (off : Nat) (cs : List AV) : Option u.den :=
  if off + cs.length ≤ u.sz then dec u ((emb u z).take off ++ cs ++ (emb u z).drop (off + cs.length)) else none

/-- An element of a list. -/
def listAt {β : Type} (xs : List β) (n : Int) : Option β := if n < 0 then none else xs[n.toNat]?

/-- Bytes out of their numbers. -/
def bytesOf (xs : List Int) : ByteArray := strOfNums xs

/-- Operations on two operands: those that ask for the type, too. -/
def abinT (op : BinOp) (t : Nat) (x y : AV) : Option AV :=
  match x, y with
  | .bool a, .bool b => (T t).bind fun i => match i.kind, op with
    | .bool, .eql => some (.bool (a == b))
    | .bool, .neq => some (.bool !(a == b))
    | _, _ => none
  | x, y => abin op x y

/-- What an operation that writes nothing gives, and the row that it takes over. -/
def aval (id : Nat) (o : Oper) (fr : List AV) : Option (AV × Option Nat) :=
  match o.op with
  | .move x => (aget fr x).bind fun a => some (a, none)
  | .assign x => (aget fr x).bind fun a => some (a, none)
  | .pick c a b => (aget fr c).bind fun t => match t with
    | .bool t => if t = true then (aget fr a).bind fun a => some (a, none) else (aget fr b).bind fun b => some (b, none)
    | _ => none
  | .alloc t => (T t).bind fun i => some (.box id 0 i.zero.cells, none)
  | .box _ x => (aget fr x).bind fun a => if ocells a.cells = true then some (.box id 0 a.cells, none) else none
  | .build t ps => (T t).bind fun i => match i.kind with
    | .struct fs => (aparts fr ps.toList).bind fun l => (afill fs i.zero.cells l).bind fun cs => some (.agg cs, none)
    | _ => none
  | .buildSlice t n ps => (T t).bind fun i => match i.kind with
    | .slice e => (T e).bind fun j => (aparts fr ps.toList).bind fun l => if l.length = n ∧ n * j.sz ≤ 16777216 ∧ n ≤ 16777216 then (aelems j.ty 0 l).bind fun xs => some (.own id e j.ty xs, none) else none
    | _ => none
  | .load t x => (T t).bind fun i => (aget fr x).bind fun p => match p with
    | .box _ off cs => (apart i.kind.isAgg i.sz off cs).bind fun v => some (v, none)
    | .eptr cs => (apart i.kind.isAgg i.sz 0 cs).bind fun v => some (v, none)
    | .rel _ _ u xs n off => (listAt xs n).bind fun z => (apart i.kind.isAgg i.sz off (emb u z)).bind fun v => some (v, none)
    | _ => none
  | .binOp op t x y _ => (aget fr x).bind fun a => (aget fr y).bind fun b => (abinT T op t a b).bind fun v => some (v, none)
  | .unOp .not _ x => (aget fr x).bind fun a => match a with
    | .bool b => some (.bool !b, none)
    | _ => none
  | .unOp .neg _ x => (aget fr x).bind fun a => match a with
    | .int k n => some (.int k (k.wrap (-n)), none)
    | _ => none
  | .convert s t x => (T s).bind fun i => (T t).bind fun j => (aget fr x).bind fun a => match i.kind, j.kind, a with
    | .int _, .int k, .int _ n => some (.int k (k.wrap n), none)
    | .slice e, .str, a => (T e).bind fun q => match q.kind with
      | .int .u8 => (a.elems (.int .u8)).bind fun xs => some (.str (bytesOf xs), none)
      | _ => none
    | _, _, _ => none
  | .makeFunc (.func f) first caps => if first.size ≠ 0 then none else (agets fr caps.toList).bind fun cs => some (.fn f cs, none)
  | .slice t x lo hi mx => (aget fr x).bind fun a => (agetO fr lo).bind fun l => (agetO fr hi).bind fun h => (agetO fr mx).bind fun m => (aslice T t a l h m).bind fun v => some (v, none)
  | .fieldAddr t x f => (T t).bind fun i => match i.kind with
    | .struct fs => (lget fs f).bind fun g => (aget fr x).bind fun p => if g.2.1 = 0 then none else match p with
      | .box id off cs => some (.box id (off + g.1) cs, none)
      | .eptr cs => some (.eptr (cs.drop g.1), none)
      | .rel q e u xs n off => some (.rel q e u xs n (off + g.1), none)
      | _ => none
    | _ => none
  | .field t x f => (T t).bind fun i => match i.kind with
    | .struct fs => (lget fs f).bind fun g => (aget fr x).bind fun p => match p with
      | .agg cs => (apart g.2.2 g.2.1 g.1 cs).bind fun v => some (v, none)
      | _ => none
    | _ => none
  | .indexAddr t x ix => (aget fr x).bind fun a => (aget fr ix).bind fun n => (aindex T t a n).bind fun v => some (v, none)
  | .index t x ix => (T t).bind fun i => (aget fr x).bind fun a => (aget fr ix).bind fun n => match i.kind, a, n with
    | .str, .str s, .int _ n => if n < 0 then none else (s.data[n.toNat]?).bind fun c => some (.int .u8 c.toNat, none)
    | _, _, _ => none
  | .nilCheck x => (aget fr x).bind fun p => match p with
    | .box id off cs => some (.box id off cs, none)
    | .eptr cs => some (.eptr cs, none)
    | .rel q e u xs n off => some (.rel q e u xs n off, none)
    | .fn f caps => some (.fn f caps, none)
    | _ => none
  | .makeSlice t l c => (T t).bind fun i => match i.kind with
    | .slice e => (T e).bind fun j => (aget fr l).bind fun l => (aget fr c).bind fun c => match l, c with
      | .int _ l, .int _ c => (dec j.ty j.zero.cells).bind fun z => if 0 ≤ l ∧ l ≤ c ∧ (j.bytes : Int) * c ≤ 281474976710656 ∧ c ≤ 9223372036854775807 then some (.own id e j.ty (List.replicate l.toNat z), none) else none
      | _, _ => none
    | _ => none
  | .extract x ix => (aget fr x).bind fun a => match a with
    | .tup vs => (lget vs ix).bind fun v => some (v, none)
    | _ => none
  | .call c => match c.callee with
    | .builtin b => (agets fr c.args.toList).bind fun as => abuiltin T id b c.argTypes.toList as
    | .value f => (aget fr f).bind fun g => (agets fr c.args.toList).bind fun as => (acall O id g as).bind fun r => some (r, none)
    | _ => none
  | _ => none

/-- A row is taken over once. -/
def akill (d : Option Nat) (dead : Nat → Bool) : Option (Nat → Bool) :=
  match d with
  | none => some dead
  | some d => if dead d = true then none else some fun q => if q = d then true else dead q

/-- `bg`: what else is alive: the frames of those who wait. -/
structure AS where
  fr : List AV
  dead : Nat → Bool
  next : Nat
  bg : List AV

def aput (fr : List AV) (d : Option Nat) (v : AV) : List AV :=
  match d with
  | some d => lset fr d v
  | none => fr

/-- Is the operation to be carried out? -/
def awanted (ops : List Oper) (o : Oper) (fr : List AV) : Option Bool :=
  match o.guard with
  | none => some true
  | some (j, want) => (lget ops j).bind fun p => p.dst.bind fun d => (lget fr d).bind fun a => match a with
    | .bool b => some (b == want)
    | .tup [] => some false
    | _ => none

variable (X : Oper → Bool) (I : Nat → List AV → AS → Option (AV × AS))

/-- Appending to a row that is the call's alone. -/
def aappR (id : Nat) (t t' : Nat) (a x : AV) (dst : Option Nat) (s : AS) : Option AS :=
  if t ≠ t' then none else
    (T t).bind fun i => match i.kind with
    | .slice e => (T e).bind fun j => (x.elems j.ty).bind fun zs =>
      if j.sz = 0 then none else
      match a with
      | .snil => if fits 0 zs.length j.bytes = true then some { s with fr := aput s.fr dst (.row id e j.ty zs) } else none
      | .row d e' u ys => if e' ≠ e then none else (cast u j.ty ys).bind fun ys =>
        if fits ys.length zs.length j.bytes = true then some { s with fr := aput (killL d s.fr) dst (.row id e j.ty (ys ++ zs)), bg := killL d s.bg } else none
      | _ => none
    | _ => none

/-- An operation that writes, or whose row is the call's alone. `lim`: the names from there on are free. -/
def aeff (lim id : Nat) (o : Oper) (s : AS) : Option AS :=
  match o.op with
  | .makeSlice t l c => (T t).bind fun i => match i.kind with
    | .slice e => (T e).bind fun j => (aget s.fr l).bind fun l => (aget s.fr c).bind fun c => match l, c with
      | .int _ l, .int _ c => (dec j.ty j.zero.cells).bind fun z => if 0 ≤ l ∧ l ≤ c ∧ (j.bytes : Int) * c ≤ 281474976710656 ∧ c ≤ 9223372036854775807 then some { s with fr := aput s.fr o.dst (.row id e j.ty (List.replicate l.toNat z)) } else none
      | _, _ => none
    | _ => none
  | .call c => match c.callee with
    | .builtin .append => (agets s.fr c.args.toList).bind fun as => match c.argTypes.toList, as with
      | [t, t'], [a, x] => aappR T id t t' a x o.dst s
      | _, _ => none
    | .value f => (aget s.fr f).bind fun g => (agets s.fr c.args.toList).bind fun as => match g with
      | .fn q caps => (I q (as ++ caps) { s with next := max s.next lim }).bind fun r => some { r.2 with fr := aput r.2.fr o.dst r.1 }
      | _ => none
    | _ => none
  | _ => none

/-- One operation of a region. -/
def astep (ops : List Oper) (lim id : Nat) (o : Oper) (s : AS) : Option AS :=
  (awanted ops o s.fr).bind fun wanted =>
  if wanted = false then some { s with fr := aput s.fr o.dst (.tup []) } else
  if X o = true then aeff T I lim id o s else
  match o.op with
  | .store t x y => if o.dst.isSome = true then none else (T t).bind fun ti => (aget s.fr x).bind fun p => (aget s.fr y).bind fun v => match p with
    | .box id off cs => if ocells v.cells = false ∨ ocells cs = false ∨ v.cells.length ≠ ti.sz ∨ off + ti.sz > cs.length then none else
      some { s with fr := updL id (cs.take off ++ v.cells ++ cs.drop (off + ti.sz)) s.fr, bg := updL id (cs.take off ++ v.cells ++ cs.drop (off + ti.sz)) s.bg }
    | .rel q e u xs n off => if ocells v.cells = false ∨ v.cells.length ≠ ti.sz then none else
      (listAt xs n).bind fun z => (splice u z off v.cells).bind fun z' => some { s with fr := stL q u n.toNat z' s.fr, bg := stL q u n.toNat z' s.bg }
    | _ => none
  | _ => (aval T O id o s.fr).bind fun r => (akill r.2 s.dead).bind fun d => some { s with fr := aput s.fr o.dst r.1, dead := d }

def asteps (ops : List Oper) (base : Nat) : Nat → List Oper → AS → Option AS
  | _, [], s => some s
  | i, o :: l, s => (astep T O X I ops (base + ops.length) (base + i) o s).bind fun s => asteps ops base (i + 1) l s

def aregion (ops : List Oper) (s : AS) : Option AS :=
  (asteps T O X I ops s.next 0 ops s).bind fun s' => some { s' with next := max s'.next (s.next + ops.length) }

inductive AX where
  | normal
  | exit (id : Nat)
  | ret
  deriving DecidableEq

/-- The region's order is open, and does not matter. -/
def local? (o : Oper) : Bool :=
  !X o && match o.op with
  | .store .. => false
  | _ => true

/-- A store that is carried out in any case. -/
def still? (o : Oper) : Bool :=
  !X o && o.guard.isNone && match o.op with
  | .store .. => true
  | _ => false

/-- An operation that does not look at memory. -/
def plain? (o : Oper) : Bool :=
  !X o && o.guard.isNone && match o.op with
  | .move _ => true
  | .assign _ => true
  | .binOp .. => true
  | .extract .. => true
  | _ => false

def edge (ops : List Oper) (i j : Nat) : Bool := ((lget ops j).map fun o => o.after.any fun e => Region.binds .any e && e.on == i).getD false

/-- `i` comes ahead of `j` in every order. -/
def befB (ops : List Oper) : Nat → Nat → Nat → Bool
  | 0, _, _ => false
  | f + 1, i, j => edge ops i j || ((lget ops j).map fun o => o.after.any fun e => Region.binds .any e && befB ops f i e.on).getD false

def drawOK (ops : List Oper) : Bool :=
  let n := ops.length
  ((List.range n).all fun j => ((lget ops j).map fun o => o.after.all fun e => !Region.binds .any e || decide (e.on < j)).getD true) &&
  (List.range n).all fun j => (List.range j).all fun i => befB ops n i j ||
    match lget ops i, lget ops j with
    | some a, some b => (local? X a && local? X b || still? X a && plain? X b || plain? X a && still? X b) && Oper.apart ops.toArray a b
    | _, _ => false

def firstRegion : Code → Nat
  | .region id _ _ => id
  | .seq a _ => firstRegion a
  | .block _ a => firstRegion a
  | .loop a => firstRegion a
  | _ => 0

variable (L : Nat → AS → Option (AX × AS))

def aexec : Code → AS → Option (AX × AS)
  | .skip, s => some (.normal, s)
  | .region _ ops d, s => if d = true ∧ drawOK X ops.toList = false then none else (aregion T O X I ops.toList s).bind fun s => some (.normal, s)
  | .seq a b, s => (aexec a s).bind fun r => match r.1 with
    | .normal => aexec b r.2
    | x => some (x, r.2)
  | .cond c x y, s => (aget s.fr c).bind fun t => match t with
    | .bool t => if t = true then aexec x s else aexec y s
    | _ => none
  | .block id c, s => (aexec c s).bind fun r => match r.1 with
    | .exit j => if j = id then some (.normal, r.2) else some (.exit j, r.2)
    | x => some (x, r.2)
  | .loop c, s => L (firstRegion c) s
  | .exit id, s => some (.exit id, s)
  | .ret, s => some (.ret, s)
  | _, _ => none

def aresultsF (f : AV → AV) (fr : List AV) : List ResultVar → Option (List AV)
  | [] => some []
  | .tmp t :: l => (lget fr t).bind fun a => (aresultsF f fr l).bind fun as => some (f a :: as)
  | .cell p t :: l => (T t).bind fun i => (lget fr p).bind fun a => match a with
    | .box _ off cs => (apart i.kind.isAgg i.sz off cs).bind fun v => (aresultsF f fr l).bind fun as => some (f v :: as)
    | _ => none

def aresults (fr : List AV) (l : List ResultVar) : Option (List AV) := aresultsF T AV.fin fr l

def tupled : List AV → AV
  | [v] => v
  | vs => .tup vs

def startFrame (fn : Func) (args : List AV) : List AV := args ++ List.replicate (fn.ntmps - args.length) (.tup [])

/-- A function without loops, run on behalf of the caller, whose frame it may change. -/
def ainline (fn : Func) (args : List AV) (s : AS) : Option (AV × AS) :=
  fn.body.bind fun c =>
  (aexec T O X I (fun _ _ => none) c { fr := startFrame fn args, dead := s.dead, next := s.next, bg := s.fr ++ s.bg }).bind fun r =>
  match r.1 with
  | .exit _ => none
  | _ => (aresultsF T (fun a => a) r.2.fr fn.results.toList).bind fun vs => some (tupled vs, { fr := r.2.bg.take s.fr.length, dead := r.2.dead, next := r.2.next, bg := r.2.bg.drop s.fr.length })

/-- What a function gives. -/
def abody (fn : Func) (args : List AV) : Option AV :=
  fn.body.bind fun c =>
  (aexec T O X I L c { fr := startFrame fn args, dead := fun _ => false, next := 0, bg := [] }).bind fun r =>
  match r.1 with
  | .exit _ => none
  | _ => (aresults T r.2.fr fn.results.toList).bind fun vs => some (tupled vs)
end
end Go.Ai

set_option linter.unusedSimpArgs false
set_option linter.unusedVariables false
namespace Go.Ai
open Go Go.RowKit

structure Env where
  ok : Bool → Nat → Nat → Prop
  σ : Nat → Nat
  lv : Bool → Nat → Prop
  dead : Nat → Bool

def Env.closed (E : Env) : Env := ⟨E.ok, E.σ, fun _ _ => False, fun _ => true⟩

/-- The row may be appended to. -/
def OwnC (w : World) (E : Env) (id e sz n : Nat) (v : Value) : Prop :=
  v = .slice none 0 0 ∨ (E.lv false id ∧ (∃ vals, w.ownsRow 0 e sz v n vals) ∧ v.ownBlock = some (E.σ id) ∧ ∀ k o, n * sz ≤ o → ¬ E.ok k (E.σ id) o)

/-- A value stands for an abstract one. -/
inductive Rel (w : World) : Env → AV → Value → Prop
  | bot (E : Env) (v : Value) : Rel w E .bot v
  | int (E : Env) (k : IntKind) (n : Int) : Rel w E (.int k n) (.int k n)
  | bool (E : Env) (b : Bool) : Rel w E (.bool b) (.bool b)
  | str (E : Env) (s : ByteArray) : Rel w E (.str s) (.string s)
  | snil (E : Env) : Rel w E .snil (.slice none 0 0)
  | agg (E : Env) (cs : List AV) (vs : Array Value) (hs : vs.size = cs.length) (h1 : ∀ (i : Nat) (v : Value), vs[i]? = some v → v.oneCell' = true)
      (h : ∀ i a v, lget cs i = some a → vs[i]? = some v → Rel w E a v) : Rel w E (.agg cs) (.agg vs)
  | tup (E : Env) (cs : List AV) (vs : Array Value) (hs : vs.size = cs.length)
      (h : ∀ i a v, lget cs i = some a → vs[i]? = some v → Rel w E a v) : Rel w E (.tup cs) (.tuple vs)
  | tl (E : Env) (t : Ty) (xs : List t.den) (a : Option Addr) (b o cap : Nat) (cv : Nat → Nat → Value) (hcap : xs.length ≤ cap) (ha : xs ≠ [] → a = some ⟨b, o, none⟩)
      (hc : ∀ i x j c, xs[i]? = some x → lget (emb t x) j = some c → w.cell? ⟨b, o + (i * t.sz + j), none⟩ = some (cv i j) ∧ (cv i j).oneCell' = true ∧ E.ok true b (o + (i * t.sz + j)))
      (hr : ∀ i x j c, xs[i]? = some x → lget (emb t x) j = some c → Rel w E.closed c (cv i j)) : Rel w E (.tl t xs) (.slice a xs.length cap)
  | clip (E : Env) (t : Ty) (xs : List t.den) (a : Option Addr) (h : Rel w E.closed (.tl t xs) (.slice a xs.length xs.length)) : Rel w E (.clip t xs) (.slice a xs.length xs.length)
  | own (E : Env) (id e : Nat) (t : Ty) (xs : List t.den) (v : Value) (h : Rel w E.closed (.tl t xs) v) (ho : E.dead id = false → OwnC w E id e t.sz xs.length v) : Rel w E (.own id e t xs) v
  | box (E : Env) (id off : Nat) (cs : List AV) (arr : Array Value) (T : TypeId) (hl : E.lv true id) (hh : w.heap[E.σ id]? = some (.cells arr T (0, 0)))
      (hs : arr.size = cs.length) (h1 : ∀ (i : Nat) (v : Value), arr[i]? = some v → v.oneCell' = true) (hok : ∀ k o, ¬ E.ok k (E.σ id) o)
      (h : ∀ i a v, lget cs i = some a → arr[i]? = some v → Rel w E a v) : Rel w E (.box id off cs) (.pointer (some ⟨E.σ id, off, none⟩))
  | eptr (E : Env) (cs : List AV) (b o : Nat) (cv : Nat → Value) (hcl : clL cs = true)
      (hc : ∀ j c, lget cs j = some c → w.cell? ⟨b, o + j, none⟩ = some (cv j) ∧ (cv j).oneCell' = true ∧ E.ok false b (o + j))
      (hr : ∀ j c, lget cs j = some c → Rel w E.closed c (cv j)) : Rel w E (.eptr cs) (.pointer (some ⟨b, o, none⟩))
  | fn (E : Env) (f : Nat) (caps : List AV) (vs : Array Value) (hs : vs.size = caps.length)
      (h : ∀ i a v, lget caps i = some a → vs[i]? = some v → Rel w E a v) : Rel w E (.fn f caps) (.func (.func f) #[] vs)
  | rowN (E : Env) (id e : Nat) (t : Ty) : Rel w E (.row id e t []) (.slice none 0 0)
  | row (E : Env) (id e : Nat) (t : Ty) (xs : List t.den) (cap : Nat) (arr : Array Value) (hl : E.lv true id) (hh : w.heap[E.σ id]? = some (.cells arr e (0, 0)))
      (hn : xs.length ≤ cap) (hm : cap ≤ maxLen) (hs : arr.size = cap * t.sz) (h1 : ∀ (i : Nat) (v : Value), i < xs.length * t.sz → arr[i]? = some v → v.oneCell' = true) (hok : ∀ k o, ¬ E.ok k (E.σ id) o)
      (hr : ∀ (i : Nat) (x : t.den) (j : Nat) (c : AV) (u : Value), xs[i]? = some x → lget (emb t x) j = some c → arr[i * t.sz + j]? = some u → Rel w E.closed c u) : Rel w E (.row id e t xs) (.slice (some ⟨E.σ id, 0, none⟩) xs.length cap)
  | rel (E : Env) (id e : Nat) (t : Ty) (xs : List t.den) (n : Int) (off cap : Nat) (h0 : 0 ≤ n) (hl : E.lv true id) (h : Rel w E (.row id e t xs) (.slice (some ⟨E.σ id, 0, none⟩) xs.length cap)) : Rel w E (.rel id e t xs n off) (.pointer (some ⟨E.σ id, n.toNat * t.sz + off, none⟩))

theorem lget_eq {α : Type} : ∀ (l : List α) (i : Nat), lget l i = l[i]?
  | [], _ => by simp [lget]
  | _ :: _, 0 => by simp [lget]
  | _ :: l, n + 1 => by simp [lget, lget_eq l n]
theorem lset_eq {α : Type} : ∀ (l : List α) (i : Nat) (v : α), lset l i v = l.set i v
  | [], _, _ => by simp [lset]
  | _ :: _, 0, _ => by simp [lset]
  | _ :: l, n + 1, v => by simp [lset, lset_eq l n v]

theorem emb_length : ∀ (t : Ty) (x : t.den), (emb t x).length = t.sz
  | .int _, _ => rfl
  | .bool, _ => rfl
  | .str, _ => rfl
  | .list _, _ => rfl
  | .prod a b, x => by simp [emb, Ty.sz, emb_length a, emb_length b]

structure Mono (w : World) (E : Env) (w' : World) (E' : Env) : Prop where
  ok : ∀ k b o, E.ok k b o → E'.ok k b o
  cell : ∀ k b o, E.ok k b o → w'.cell? ⟨b, o, none⟩ = w.cell? ⟨b, o, none⟩
  dead : ∀ i, E'.dead i = false → E.dead i = false
  box : ∀ i, E.lv true i → E'.lv true i ∧ E'.σ i = E.σ i ∧ w'.heap[E.σ i]? = w.heap[E.σ i]? ∧ ∀ k o, ¬ E.ok k (E.σ i) o → ¬ E'.ok k (E.σ i) o
  own : ∀ i, E'.dead i = false → E.lv false i → E'.lv false i ∧ E'.σ i = E.σ i ∧ w'.heap[E.σ i]? = w.heap[E.σ i]? ∧ ∀ k o, ¬ E.ok k (E.σ i) o → ¬ E'.ok k (E.σ i) o

theorem Mono.refl (w : World) (E : Env) : Mono w E w E :=
  ⟨fun _ _ _ h => h, fun _ _ _ _ => rfl, fun _ h => h, fun _ h => ⟨h, rfl, rfl, fun _ _ h => h⟩, fun _ _ h => ⟨h, rfl, rfl, fun _ _ h => h⟩⟩

theorem Mono.closed {w w' : World} {E E' : Env} (m : Mono w E w' E') : Mono w E.closed w' E'.closed :=
  ⟨m.ok, m.cell, fun _ h => (by cases h), fun _ h => h.elim, fun _ _ h => h.elim⟩

theorem ownsRow_same {w w' : World} {B e sz n : Nat} {v : Value} {xs : List Value} (h : w.ownsRow B e sz v n xs) (hk : ∀ k, v.ownBlock = some k → w'.heap[k]? = w.heap[k]?) : w'.ownsRow B e sz v n xs := by
  refine ⟨h.1, ?_⟩
  rcases h.2 with hn | ⟨g, cap, cur, rfl, hb, hgg, rest⟩
  · exact .inl hn
  · exact .inr ⟨g, cap, cur, rfl, hb, (hk g rfl).trans hgg, rest⟩

theorem Rel.mono {w w' : World} {E E' : Env} {a : AV} {v : Value} (h : Rel w E a v) (m : Mono w E w' E') : Rel w' E' a v := by
  induction h generalizing E' with
  | bot => exact .bot _ _
  | int => exact .int _ _ _
  | bool => exact .bool _ _
  | str => exact .str _ _
  | snil => exact .snil _
  | agg E cs vs hs h1 h ih => exact .agg _ _ _ hs h1 fun i a v ha hv => ih i a v ha hv m
  | tup E cs vs hs h ih => exact .tup _ _ _ hs fun i a v ha hv => ih i a v ha hv m
  | tl E t xs a b o cap cv hcap ha hc hr ih =>
    exact .tl _ _ _ _ b o _ cv hcap ha (fun i x j c hx hj => ⟨(m.cell _ _ _ (hc i x j c hx hj).2.2).trans (hc i x j c hx hj).1, (hc i x j c hx hj).2.1, m.ok _ _ _ (hc i x j c hx hj).2.2⟩) fun i x j c hx hj => ih i x j c hx hj m.closed
  | clip E t xs a h ih => exact .clip _ _ _ _ (ih m.closed)
  | own E id e t xs v h ho ih =>
    refine .own _ _ _ _ _ _ (ih m.closed) fun hd => ?_
    rcases ho (m.dead _ hd) with hn | ⟨hl, ⟨vals, hv⟩, hb, hok⟩
    · exact .inl hn
    · obtain ⟨l', s', hh, ho'⟩ := m.own _ hd hl
      exact .inr ⟨l', ⟨vals, ownsRow_same hv fun k hk => by rw [hb] at hk; cases hk; exact hh⟩, by rw [s']; exact hb, fun k o hle => by rw [s']; exact ho' _ _ (hok k o hle)⟩
  | box E id off cs arr T hl hh hs h1 hok h ih =>
    obtain ⟨l', s', hh', ho'⟩ := m.box _ hl
    have := Rel.box (w := w') E' id off cs arr T l' (by rw [s', hh']; exact hh) hs h1 (fun k o => by rw [s']; exact ho' _ _ (hok k o)) fun i a v ha hv => ih i a v ha hv m
    rw [s'] at this
    exact this
  | eptr E cs b o cv hcl' hc hr ih =>
    exact .eptr _ _ _ _ cv hcl' (fun j c hj => ⟨(m.cell _ _ _ (hc j c hj).2.2).trans (hc j c hj).1, (hc j c hj).2.1, m.ok _ _ _ (hc j c hj).2.2⟩) fun j c hj => ih j c hj m.closed
  | fn E f caps vs hs h ih => exact .fn _ _ _ _ hs fun i a v ha hv => ih i a v ha hv m
  | rowN E id e t => exact .rowN _ _ _ _
  | row E id e t xs cap arr hl hh hn hm hs h1 hok hr ih =>
    obtain ⟨l', s', hh', ho'⟩ := m.box _ hl
    have := Rel.row (w := w') E' id e t xs cap arr l' (by rw [s', hh']; exact hh) hn hm hs h1 (fun k o => by rw [s']; exact ho' _ _ (hok k o)) fun i x j c u hi hj hu => ih i x j c u hi hj hu m.closed
    rw [s'] at this
    exact this
  | rel E id e t xs n off cap h0 hl h ih =>
    obtain ⟨l', s', _, _⟩ := m.box _ hl
    have h2 := ih m
    rw [← s'] at h2 ⊢
    exact .rel _ _ _ _ _ _ _ cap h0 l' h2

theorem lget_append {α : Type} (a b : List α) (i : Nat) : lget (a ++ b) i = if i < a.length then lget a i else lget b (i - a.length) := by
  simp only [lget_eq, List.getElem?_append]

theorem emb_cl : ∀ (t : Ty) (x : t.den), clL (emb t x) = true
  | .int _, _ => rfl
  | .bool, _ => rfl
  | .str, _ => rfl
  | .list _, _ => rfl
  | .prod a b, x => by
    have h : ∀ l l' : List AV, clL l = true → clL l' = true → clL (l ++ l') = true := by
      intro l l' h h'
      induction l with
      | nil => simpa using h'
      | cons y l ih => simp [clL] at h ⊢; exact ⟨h.1, ih h.2⟩
    exact h _ _ (emb_cl a x.1) (emb_cl b x.2)
theorem clL_get : ∀ {l : List AV} {i : Nat} {a : AV}, clL l = true → lget l i = some a → a.cl = true
  | [], _, _, _, h => by simp [lget] at h
  | x :: l, 0, a, hc, h => by simp [lget] at h; subst h; simp [clL] at hc; exact hc.1
  | x :: l, n + 1, a, hc, h => by simp [clL] at hc; exact clL_get hc.2 (by simpa [lget] using h)

/-- What is closed stands in every surrounding that lets read what it reads. -/
theorem Rel.ofClosed {w : World} {E : Env} {a : AV} {v : Value} (h : Rel w E a v) (hcl : a.cl = true) {E' : Env} (hok : ∀ k b o, E.ok k b o → E'.ok k b o) : Rel w E' a v := by
  have m : Mono w E.closed w E'.closed := ⟨hok, fun _ _ _ _ => rfl, fun _ h => (by cases h), fun _ h => h.elim, fun _ _ h => h.elim⟩
  induction h generalizing E' with
  | bot => exact .bot _ _
  | int => exact .int _ _ _
  | bool => exact .bool _ _
  | str => exact .str _ _
  | snil => exact .snil _
  | agg E cs vs hs h1 h ih => exact .agg _ _ _ hs h1 fun i a v ha hv => ih i a v ha hv (clL_get hcl ha) hok m
  | tup E cs vs hs h ih => exact .tup _ _ _ hs fun i a v ha hv => ih i a v ha hv (clL_get hcl ha) hok m
  | tl E t xs a b o cap cv hcap ha hc hr ih =>
    exact .tl _ _ _ _ b o _ cv hcap ha (fun i x j c hx hj => ⟨(hc i x j c hx hj).1, (hc i x j c hx hj).2.1, hok _ _ _ (hc i x j c hx hj).2.2⟩) fun i x j c hx hj => (hr i x j c hx hj).mono m
  | clip E t xs a h ih => exact .clip _ _ _ _ (h.mono m)
  | own => simp [AV.cl] at hcl
  | box => simp [AV.cl] at hcl
  | eptr E cs b o cv hcl' hc hr ih =>
    exact .eptr _ _ _ _ cv hcl' (fun j c hj => ⟨(hc j c hj).1, (hc j c hj).2.1, hok _ _ _ (hc j c hj).2.2⟩) fun j c hj => (hr j c hj).mono m
  | fn E f caps vs hs h ih => exact .fn _ _ _ _ hs fun i a v ha hv => ih i a v ha hv (clL_get hcl ha) hok m
  | rowN => simp [AV.cl] at hcl
  | row => simp [AV.cl] at hcl
  | rel => simp [AV.cl] at hcl

/-- What a list of abstract values stands for. -/
def RelL (w : World) (E : Env) (as : List AV) (vs : Array Value) : Prop := vs.size = as.length ∧ ∀ i a v, lget as i = some a → vs[i]? = some v → Rel w E a v

theorem lget_escL : ∀ (l : List AV) (i : Nat), lget (escL l) i = (lget l i).map AV.esc
  | [], _ => by simp [escL, lget]
  | _ :: _, 0 => by simp [escL, lget]
  | _ :: l, n + 1 => by simp [escL, lget, lget_escL l n]
theorem escL_length : ∀ (l : List AV), (escL l).length = l.length
  | [] => rfl
  | _ :: l => by simp [escL, escL_length l]

mutual
theorem AV.esc_cl : ∀ (a : AV), a.esc.cl = true
  | .agg cs => by simp [AV.esc, AV.cl, escL_cl cs]
  | .tup cs => by simp [AV.esc, AV.cl, escL_cl cs]
  | .fn _ cs => by simp [AV.esc, AV.cl, escL_cl cs]
  | .clip _ _ => rfl
  | .own _ _ _ _ => rfl
  | .box _ _ _ => rfl
  | .bot => rfl
  | .int _ _ => rfl
  | .bool _ => rfl
  | .str _ => rfl
  | .snil => rfl
  | .tl _ _ => rfl
  | .eptr _ => rfl
  | .row _ _ _ _ => rfl
  | .rel _ _ _ _ _ _ => rfl
theorem escL_cl : ∀ (l : List AV), clL (escL l) = true
  | [] => rfl
  | a :: l => by simp [escL, clL, AV.esc_cl a, escL_cl l]
end
theorem clL_drop : ∀ (l : List AV) (n : Nat), clL l = true → clL (l.drop n) = true
  | [], n, _ => by simp [clL]
  | _ :: _, 0, h => h
  | _ :: l, n + 1, h => by simp [clL] at h; simpa using clL_drop l n h.2

/-- What a callee may read: variables, too. -/
def Env.call (E : Env) : Env := ⟨fun k b o => E.ok k b o ∨ (k = false ∧ ∃ i, E.lv true i ∧ b = E.σ i), E.σ, fun _ _ => False, fun _ => true⟩

theorem Rel.own_tl {w : World} {E : Env} {id e : Nat} {t : Ty} {xs : List t.den} {v : Value} (h : Rel w E (.own id e t xs) v) : Rel w E.closed (.tl t xs) v := by
  cases h with
  | own _ _ _ _ _ _ h _ => exact h
theorem Rel.clip_tl {w : World} {E : Env} {t : Ty} {xs : List t.den} {v : Value} (h : Rel w E (.clip t xs) v) : Rel w E.closed (.tl t xs) v := by
  cases h with
  | clip _ _ _ _ h => exact h

theorem Rel.closed {w : World} {E : Env} {a : AV} {v : Value} (h : Rel w E a v) (hcl : a.cl = true) : Rel w E.closed a v := h.ofClosed hcl fun _ _ _ h => h

theorem Rel.esc {w : World} {E : Env} {a : AV} {v : Value} (h : Rel w E a v) : Rel w E.call a.esc v := by
  have hok : ∀ k b o, E.ok k b o → E.call.ok k b o := fun _ _ _ h => .inl h
  induction h with
  | bot => exact .bot _ _
  | int => exact .int _ _ _
  | bool => exact .bool _ _
  | str => exact .str _ _
  | snil => exact .snil _
  | agg E cs vs hs h1 h ih =>
    refine .agg _ _ _ (by rw [escL_length]; exact hs) h1 fun i a v ha hv => ?_
    rw [lget_escL] at ha
    obtain ⟨a', ha', rfl⟩ := Option.map_eq_some_iff.1 ha
    exact ih i a' v ha' hv (fun _ _ _ h => .inl h)
  | tup E cs vs hs h ih =>
    refine .tup _ _ _ (by rw [escL_length]; exact hs) fun i a v ha hv => ?_
    rw [lget_escL] at ha
    obtain ⟨a', ha', rfl⟩ := Option.map_eq_some_iff.1 ha
    exact ih i a' v ha' hv (fun _ _ _ h => .inl h)
  | tl E t xs a b o cap cv hcap ha hc hr ih => exact (Rel.tl E t xs a b o cap cv hcap ha hc hr).ofClosed rfl hok
  | clip E t xs a h ih => exact h.ofClosed rfl hok
  | own E id e t xs v h ho ih => exact h.ofClosed rfl hok
  | box E id off cs arr T hl hh hs h1 hok' h ih =>
    refine .eptr _ _ _ _ (fun j => arr[off + j]?.getD undef) (clL_drop _ _ (escL_cl cs)) (fun j c hj => ?_) fun j c hj => ?_
    all_goals
      rw [lget_eq, List.getElem?_drop, ← lget_eq, lget_escL] at hj
      obtain ⟨c', hc', rfl⟩ := Option.map_eq_some_iff.1 hj
      have hlt : off + j < arr.size := by
        rw [hs]; rw [lget_eq] at hc'; exact (List.getElem?_eq_some_iff.1 hc').1
    · refine ⟨?_, ?_, .inr ⟨rfl, id, hl, rfl⟩⟩
      · simp [World.cell?, hh, hlt]
      · exact h1 (off + j) _ (by simp [hlt])
    · exact ih (off + j) c' _ hc' (by simp [hlt]) (fun _ _ _ h => .inl h)
  | eptr E cs b o cv hcl' hc hr ih => exact (Rel.eptr E cs b o cv hcl' hc hr).ofClosed rfl hok
  | fn E f caps vs hs h ih =>
    refine .fn _ _ _ _ (by rw [escL_length]; exact hs) fun i a v ha hv => ?_
    rw [lget_escL] at ha
    obtain ⟨a', ha', rfl⟩ := Option.map_eq_some_iff.1 ha
    exact ih i a' v ha' hv (fun _ _ _ h => .inl h)
  | rowN => exact .bot _ _
  | row => exact .bot _ _
  | rel => exact .bot _ _

/-- Without variables, a callee reads what the caller reads. -/
theorem Rel.esc_nb {w : World} {E : Env} {a : AV} {v : Value} (h : Rel w E a v) (hnb : a.nb = true) : Rel w E.closed a.esc v := by
  have nbL_get : ∀ {l : List AV} {i : Nat} {a : AV}, nbL l = true → lget l i = some a → a.nb = true := by
    intro l
    induction l with
    | nil => intro i a _ h; simp [lget] at h
    | cons x l ih =>
      intro i a hc h
      simp [nbL] at hc
      cases i with
      | zero => simp [lget] at h; subst h; exact hc.1
      | succ n => exact ih hc.2 (by simpa [lget] using h)
  induction h with
  | bot => exact .bot _ _
  | int => exact .int _ _ _
  | bool => exact .bool _ _
  | str => exact .str _ _
  | snil => exact .snil _
  | agg E cs vs hs h1 h ih =>
    refine .agg _ _ _ (by rw [escL_length]; exact hs) h1 fun i a v ha hv => ?_
    rw [lget_escL] at ha
    obtain ⟨a', ha', rfl⟩ := Option.map_eq_some_iff.1 ha
    exact ih i a' v ha' hv (nbL_get hnb ha')
  | tup E cs vs hs h ih =>
    refine .tup _ _ _ (by rw [escL_length]; exact hs) fun i a v ha hv => ?_
    rw [lget_escL] at ha
    obtain ⟨a', ha', rfl⟩ := Option.map_eq_some_iff.1 ha
    exact ih i a' v ha' hv (nbL_get hnb ha')
  | tl E t xs a b o cap cv hcap ha hc hr ih => exact (Rel.tl E t xs a b o cap cv hcap ha hc hr).closed rfl
  | clip E t xs a h ih => exact h
  | own E id e t xs v h ho ih => exact h
  | box => simp [AV.nb] at hnb
  | eptr E cs b o cv hcl' hc hr ih => exact (Rel.eptr E cs b o cv hcl' hc hr).closed rfl
  | fn E f caps vs hs h ih =>
    refine .fn _ _ _ _ (by rw [escL_length]; exact hs) fun i a v ha hv => ?_
    rw [lget_escL] at ha
    obtain ⟨a', ha', rfl⟩ := Option.map_eq_some_iff.1 ha
    exact ih i a' v ha' hv (nbL_get hnb ha')
  | rowN => exact .bot _ _
  | row => exact .bot _ _
  | rel => exact .bot _ _

/-! ### As a result -/
theorem lget_finL : ∀ (l : List AV) (i : Nat), lget (finL l) i = (lget l i).map AV.fin
  | [], _ => by simp [finL, lget]
  | _ :: _, 0 => by simp [finL, lget]
  | _ :: l, n + 1 => by simp [finL, lget, lget_finL l n]
theorem finL_length : ∀ (l : List AV), (finL l).length = l.length
  | [] => rfl
  | _ :: l => by simp [finL, finL_length l]
mutual
theorem AV.fin_cl : ∀ (a : AV), a.fin.cl = true
  | .agg cs => by simp [AV.fin, AV.cl, finL_cl cs]
  | .tup cs => by simp [AV.fin, AV.cl, finL_cl cs]
  | .fn _ cs => by simp [AV.fin, AV.cl, finL_cl cs]
  | .clip _ _ => rfl
  | .own _ _ _ _ => rfl
  | .box _ _ _ => rfl
  | .bot => rfl
  | .int _ _ => rfl
  | .bool _ => rfl
  | .str _ => rfl
  | .snil => rfl
  | .tl _ _ => rfl
  | .eptr _ => rfl
  | .row _ _ _ _ => rfl
  | .rel _ _ _ _ _ _ => rfl
theorem finL_cl : ∀ (l : List AV), clL (finL l) = true
  | [] => rfl
  | a :: l => by simp [finL, clL, AV.fin_cl a, finL_cl l]
end

/-- What may be read from now on: the call's variables and rows, too. -/
def Env.fin (E : Env) : Env := ⟨fun k b o => E.ok k b o ∨ ∃ i, E.lv true i ∧ b = E.σ i, E.σ, fun _ _ => False, fun _ => true⟩

theorem row_in {t : Ty} {xs : List t.den} {cap : Nat} {n : Nat} (hn : xs.length ≤ cap) (hs : n = cap * t.sz) {i : Nat} {x : t.den} {j : Nat} {c : AV} (hi : xs[i]? = some x) (hj : lget (emb t x) j = some c) : i * t.sz + j < n := by
  have h2 : i < xs.length := (List.getElem?_eq_some_iff.1 hi).1
  have h3 : j < t.sz := by have := (List.getElem?_eq_some_iff.1 (lget_eq _ _ ▸ hj)).1; rwa [emb_length] at this
  have h4 : (i + 1) * t.sz ≤ cap * t.sz := Nat.mul_le_mul_right _ (by omega)
  rw [hs]
  rw [Nat.succ_mul] at h4
  omega

theorem Rel.fin {w : World} {E : Env} {a : AV} {v : Value} (h : Rel w E a v) : Rel w E.fin a.fin v := by
  have hok : ∀ k b o, E.ok k b o → E.fin.ok k b o := fun _ _ _ h => .inl h
  induction h with
  | bot => exact .bot _ _
  | int => exact .int _ _ _
  | bool => exact .bool _ _
  | str => exact .str _ _
  | snil => exact .snil _
  | agg E cs vs hs h1 h ih =>
    refine .agg _ _ _ (by rw [finL_length]; exact hs) h1 fun i a v ha hv => ?_
    rw [lget_finL] at ha
    obtain ⟨a', ha', rfl⟩ := Option.map_eq_some_iff.1 ha
    exact ih i a' v ha' hv (fun _ _ _ h => .inl h)
  | tup E cs vs hs h ih =>
    refine .tup _ _ _ (by rw [finL_length]; exact hs) fun i a v ha hv => ?_
    rw [lget_finL] at ha
    obtain ⟨a', ha', rfl⟩ := Option.map_eq_some_iff.1 ha
    exact ih i a' v ha' hv (fun _ _ _ h => .inl h)
  | tl E t xs a b o cap cv hcap ha hc hr ih => exact (Rel.tl E t xs a b o cap cv hcap ha hc hr).ofClosed rfl hok
  | clip E t xs a h ih => exact h.ofClosed rfl hok
  | own E id e t xs v h ho ih => exact h.ofClosed rfl hok
  | box E id off cs arr T hl hh hs h1 hok' h ih =>
    refine .eptr _ _ _ _ (fun j => arr[off + j]?.getD undef) (clL_drop _ _ (finL_cl cs)) (fun j c hj => ?_) fun j c hj => ?_
    all_goals
      rw [lget_eq, List.getElem?_drop, ← lget_eq, lget_finL] at hj
      obtain ⟨c', hc', rfl⟩ := Option.map_eq_some_iff.1 hj
      have hlt : off + j < arr.size := by
        rw [hs]; rw [lget_eq] at hc'; exact (List.getElem?_eq_some_iff.1 hc').1
    · refine ⟨?_, ?_, .inr ⟨id, hl, rfl⟩⟩
      · simp [World.cell?, hh, hlt]
      · exact h1 (off + j) _ (by simp [hlt])
    · exact (ih (off + j) c' _ hc' (by simp [hlt]) (fun _ _ _ h => .inl h)).closed (AV.fin_cl c')
  | eptr E cs b o cv hcl' hc hr ih => exact (Rel.eptr E cs b o cv hcl' hc hr).ofClosed rfl hok
  | fn E f caps vs hs h ih =>
    refine .fn _ _ _ _ (by rw [finL_length]; exact hs) fun i a v ha hv => ?_
    rw [lget_finL] at ha
    obtain ⟨a', ha', rfl⟩ := Option.map_eq_some_iff.1 ha
    exact ih i a' v ha' hv (fun _ _ _ h => .inl h)
  | rowN E id e t => exact .tl _ t [] none 0 0 0 (fun _ _ => undef) (Nat.le_refl _) (fun h => absurd rfl h) (fun i x j c h => by simp at h) fun i x j c h => by simp at h
  | row E id e t xs cap arr hl hh hn hm hs h1 hok' hr ih =>
    refine .tl _ t xs _ (E.σ id) 0 cap (fun i j => arr[i * t.sz + j]?.getD undef) hn (fun _ => rfl) (fun i x j c hi hj => ?_) fun i x j c hi hj => ?_
    · have hlt := row_in hn hs hi hj
      refine ⟨by simp [World.cell?, hh, hlt], h1 (i * t.sz + j) _ (row_in (Nat.le_refl _) rfl hi hj) (by simp [hlt]), .inr ⟨id, hl, rfl⟩⟩
    · have hlt := row_in hn hs hi hj
      have hu : arr[i * t.sz + j]? = some (arr[i * t.sz + j]?.getD undef) := by simp [hlt]
      exact (hr i x j c _ hi hj hu).ofClosed (clL_get (emb_cl t x) hj) fun _ _ _ h => .inl h
  | rel => exact .bot _ _

/-! ### A row that is written, or ends -/
theorem lget_stL (q : Nat) (u : Ty) (n : Nat) (z : u.den) : ∀ (l : List AV) (i : Nat), lget (stL q u n z l) i = (lget l i).map (AV.st q u n z)
  | [], _ => by simp [stL, lget]
  | _ :: _, 0 => by simp [stL, lget]
  | _ :: l, k + 1 => by simp [stL, lget, lget_stL q u n z l k]
theorem stL_length (q : Nat) (u : Ty) (n : Nat) (z : u.den) : ∀ (l : List AV), (stL q u n z l).length = l.length
  | [] => rfl
  | _ :: l => by simp [stL, stL_length q u n z l]
theorem lget_killL (q : Nat) : ∀ (l : List AV) (i : Nat), lget (killL q l) i = (lget l i).map (AV.kill q)
  | [], _ => by simp [killL, lget]
  | _ :: _, 0 => by simp [killL, lget]
  | _ :: l, k + 1 => by simp [killL, lget, lget_killL q l k]
theorem killL_length (q : Nat) : ∀ (l : List AV), (killL q l).length = l.length
  | [] => rfl
  | _ :: l => by simp [killL, killL_length q l]

/-- Without the variable or row `q`. -/
def Env.drop (E : Env) (q : Nat) : Env := { E with lv := fun k i => E.lv k i ∧ ¬ (k = true ∧ i = q) }

theorem Rel.kill {w : World} {E : Env} {a : AV} {v : Value} (q : Nat) (h : Rel w E a v) : Rel w (E.drop q) (a.kill q) v := by
  induction h with
  | bot => exact .bot _ _
  | int => exact .int _ _ _
  | bool => exact .bool _ _
  | str => exact .str _ _
  | snil => exact .snil _
  | agg E cs vs hs h1 h ih =>
    refine .agg _ _ _ (by rw [killL_length]; exact hs) h1 fun i a v ha hv => ?_
    rw [lget_killL] at ha
    obtain ⟨a', ha', rfl⟩ := Option.map_eq_some_iff.1 ha
    exact ih i a' v ha' hv
  | tup E cs vs hs h ih =>
    refine .tup _ _ _ (by rw [killL_length]; exact hs) fun i a v ha hv => ?_
    rw [lget_killL] at ha
    obtain ⟨a', ha', rfl⟩ := Option.map_eq_some_iff.1 ha
    exact ih i a' v ha' hv
  | tl E t xs a b o cap cv hcap ha hc hr ih => exact .tl _ _ _ _ b o _ cv hcap ha hc hr
  | clip E t xs a h ih => exact .clip _ _ _ _ h
  | own E id e t xs v h ho ih =>
    refine .own _ _ _ _ _ _ h fun hd => ?_
    rcases ho hd with hn | ⟨h1, h2⟩
    · exact .inl hn
    · exact .inr ⟨⟨h1, by simp⟩, h2⟩
  | box E id off cs arr T hl hh hs h1 hok' h ih =>
    simp only [AV.kill]
    split
    · exact .bot _ _
    · rename_i hne
      refine .box _ _ _ _ arr T ⟨hl, by simp [hne]⟩ hh (by rw [killL_length]; exact hs) h1 hok' fun i a v ha hv => ?_
      rw [lget_killL] at ha
      obtain ⟨a', ha', rfl⟩ := Option.map_eq_some_iff.1 ha
      exact ih i a' v ha' hv
  | eptr E cs b o cv hcl' hc hr ih => exact .eptr _ _ _ _ cv hcl' hc hr
  | fn E f caps vs hs h ih =>
    refine .fn _ _ _ _ (by rw [killL_length]; exact hs) fun i a v ha hv => ?_
    rw [lget_killL] at ha
    obtain ⟨a', ha', rfl⟩ := Option.map_eq_some_iff.1 ha
    exact ih i a' v ha' hv
  | rowN E id e t =>
    simp only [AV.kill]
    split
    · exact .bot _ _
    · exact .rowN _ _ _ _
  | row E id e t xs cap arr hl hh hn hm hs h1 hok' hr ih =>
    simp only [AV.kill]
    split
    · exact .bot _ _
    · rename_i hne
      exact .row _ _ _ _ _ cap arr ⟨hl, by simp [hne]⟩ hh hn hm hs h1 hok' hr
  | rel E id e t xs n off cap h0 hl h ih =>
    simp only [AV.kill] at ih ⊢
    split
    · exact .bot _ _
    · rename_i hne
      rw [if_neg hne] at ih
      exact .rel _ _ _ _ _ _ _ cap h0 ⟨hl, by simp [hne]⟩ ih

/-- An element of the row `q` is written. -/
theorem Rel.st {w w' : World} {E : Env} {q : Nat} {u : Ty} {n : Nat} {z : u.den} {e0 : TypeId} {arr arr' : Array Value} (hl : E.lv true q) (hother : ∀ b, b ≠ E.σ q → w'.heap[b]? = w.heap[b]?)
    (hold : w.heap[E.σ q]? = some (.cells arr e0 (0, 0))) (hnew : w'.heap[E.σ q]? = some (.cells arr' e0 (0, 0))) (hsz : arr'.size = arr.size) (h1' : ∀ (j : Nat) (v : Value), j < u.sz → arr'[n * u.sz + j]? = some v → v.oneCell' = true) (hok : ∀ k o, ¬ E.ok k (E.σ q) o)
    (hinj : ∀ k i, E.lv k i → E.σ i = E.σ q → k = true ∧ i = q)
    (hin : ∀ j c v, lget (emb u z) j = some c → arr'[n * u.sz + j]? = some v → Rel w' E.closed c v)
    (hout : ∀ i j, i ≠ n → j < u.sz → arr'[i * u.sz + j]? = arr[i * u.sz + j]?) {a : AV} {v : Value} (h : Rel w E a v) : Rel w' E (a.st q u n z) v := by
  have mc : Mono w E.closed w' E.closed := by
    refine ⟨fun _ _ _ h => h, fun k b o h => ?_, fun _ h => (by cases h), fun _ h => h.elim, fun _ _ h => h.elim⟩
    have hb : b ≠ E.σ q := by rintro rfl; exact hok k o h
    simp [World.cell?, hother b hb]
  induction h with
  | bot => exact .bot _ _
  | int => exact .int _ _ _
  | bool => exact .bool _ _
  | str => exact .str _ _
  | snil => exact .snil _
  | agg E cs vs hs h1 h ih =>
    refine .agg _ _ _ (by rw [stL_length]; exact hs) h1 fun i a v ha hv => ?_
    rw [lget_stL] at ha
    obtain ⟨a', ha', rfl⟩ := Option.map_eq_some_iff.1 ha
    exact ih i a' v ha' hv hl hother hold hnew hok hinj hin mc
  | tup E cs vs hs h ih =>
    refine .tup _ _ _ (by rw [stL_length]; exact hs) fun i a v ha hv => ?_
    rw [lget_stL] at ha
    obtain ⟨a', ha', rfl⟩ := Option.map_eq_some_iff.1 ha
    exact ih i a' v ha' hv hl hother hold hnew hok hinj hin mc
  | tl E t xs a b o cap cv hcap ha hc hr ih => exact ((Rel.tl E t xs a b o cap cv hcap ha hc hr).closed rfl |>.mono mc).ofClosed rfl fun _ _ _ h => h
  | clip E t xs a h ih => exact .clip _ _ _ _ (h.mono mc)
  | own E id' e t xs v h ho ih =>
    refine .own _ _ _ _ _ _ (h.mono mc) fun hd => ?_
    rcases ho hd with hn | ⟨hl', ⟨vals, hv⟩, hb, hok'⟩
    · exact .inl hn
    · refine .inr ⟨hl', ⟨vals, ownsRow_same hv fun k hk => hother k ?_⟩, hb, hok'⟩
      rw [hb] at hk
      cases hk
      intro e
      exact absurd (hinj _ _ hl' e).1 (by simp)
  | box E id' off cs arr2 T' hl' hh hs' h1'' hok' h ih =>
    simp only [AV.st]
    split
    · exact .bot _ _
    · rename_i e
      refine .box _ _ _ _ arr2 T' hl' ?_ (by rw [stL_length]; exact hs') h1'' hok' fun i a v ha hv => ?_
      · rw [hother _ fun e' => e (hinj _ _ hl' e').2]; exact hh
      · rw [lget_stL] at ha
        obtain ⟨a', ha', rfl⟩ := Option.map_eq_some_iff.1 ha
        exact ih i a' v ha' hv hl hother hold hnew hok hinj hin mc
  | eptr E cs b o cv hcl' hc hr ih => exact ((Rel.eptr E cs b o cv hcl' hc hr).closed rfl |>.mono mc).ofClosed rfl fun _ _ _ h => h
  | fn E f caps vs hs h ih =>
    refine .fn _ _ _ _ (by rw [stL_length]; exact hs) fun i a v ha hv => ?_
    rw [lget_stL] at ha
    obtain ⟨a', ha', rfl⟩ := Option.map_eq_some_iff.1 ha
    exact ih i a' v ha' hv hl hother hold hnew hok hinj hin mc
  | rowN E id e t =>
    simp only [AV.st]
    split
    · split
      · exact .rowN _ _ _ _
      · exact .bot _ _
    · exact .rowN _ _ _ _
  | row E id e t xs cap arr2 hl' hh hn hm hs h1 hok' hr ih =>
    simp only [AV.st]
    split
    · rename_i e1
      subst e1
      split
      case isFalse => exact .bot _ _
      rename_i e2
      subst e2
      rw [hold] at hh
      injection hh with hh
      injection hh with hh1 hh2
      subst hh1
      subst hh2
      have hlen : (xs.set n z).length = xs.length := List.length_set
      have key : Rel w' E (.row id e0 u (xs.set n z)) (.slice (some ⟨E.σ id, 0, none⟩) (xs.set n z).length cap) := by
        refine .row _ _ _ _ _ cap arr' hl hnew (by rw [hlen]; exact hn) hm (by rw [hsz]; exact hs) (fun i v hi hv => ?_) hok fun i x j c v hi hj hv => ?_
        · rw [hlen] at hi
          have hpos : 0 < u.sz := by
            rcases Nat.eq_zero_or_pos u.sz with h0 | h0
            · rw [h0] at hi; omega
            · exact h0
          have e1 : i = i / u.sz * u.sz + i % u.sz := by rw [Nat.mul_comm]; exact (Nat.div_add_mod _ _).symm
          have e2 : i % u.sz < u.sz := Nat.mod_lt _ hpos
          by_cases e : i / u.sz = n
          · rw [e1, e] at hv
            exact h1' _ v e2 hv
          · rw [e1, hout _ _ e e2, ← e1] at hv
            exact h1 i v hi hv
        by_cases e : i = n
        · subst e
          rw [List.getElem?_set_self' ] at hi
          cases hx : xs[i]? with
          | none => rw [hx] at hi; cases hi
          | some y =>
            rw [hx] at hi
            cases hi
            exact hin j c v hj hv
        · rw [List.getElem?_set_ne (Ne.symm e)] at hi
          have hj' : j < u.sz := by have := (List.getElem?_eq_some_iff.1 (lget_eq _ _ ▸ hj)).1; rwa [emb_length] at this
          rw [hout i j e hj'] at hv
          exact (hr i x j c v hi hj hv).mono mc
      rw [hlen] at key
      exact key
    · rename_i hne
      refine .row _ _ _ _ _ cap arr2 hl' ?_ hn hm hs h1 hok' fun i x j c v hi hj hv => (hr i x j c v hi hj hv).mono mc
      rw [hother _ fun e' => hne (hinj _ _ hl' e').2]; exact hh
  | rel E id e t xs m off cap h0 hl' h ih =>
    have ih := ih hl hother hold hnew hok hinj hin mc
    simp only [AV.st] at ih ⊢
    by_cases e1 : id = q
    · rw [if_pos e1] at ih ⊢
      by_cases e2 : u = t
      · rw [dif_pos e2] at ih ⊢
        have hlen : (xs.set n (e2 ▸ z)).length = xs.length := List.length_set
        rw [← hlen] at ih
        exact .rel _ _ _ _ _ _ _ cap h0 hl' ih
      · rw [dif_neg e2]
        exact .bot _ _
    · rw [if_neg e1] at ih ⊢
      exact .rel _ _ _ _ _ _ _ cap h0 hl' ih

theorem lget_rsL (q : Nat) (u : Ty) (ys : List u.den) : ∀ (l : List AV) (i : Nat), lget (rsL q u ys l) i = (lget l i).map (AV.rs q u ys)
  | [], _ => by simp [rsL, lget]
  | _ :: _, 0 => by simp [rsL, lget]
  | _ :: l, k + 1 => by simp [rsL, lget, lget_rsL q u ys l k]
theorem rsL_length (q : Nat) (u : Ty) (ys : List u.den) : ∀ (l : List AV), (rsL q u ys l).length = l.length
  | [] => rfl
  | _ :: l => by simp [rsL, rsL_length q u ys l]

/-- The first elements of the row `q` are written. -/
theorem Rel.rs {w w' : World} {E : Env} {q : Nat} {u : Ty} {ys : List u.den} {e0 : TypeId} {arr arr' : Array Value} (hl : E.lv true q) (hother : ∀ b, b < w.heap.size → b ≠ E.σ q → w'.heap[b]? = w.heap[b]?)
    (hold : w.heap[E.σ q]? = some (.cells arr e0 (0, 0))) (hnew : w'.heap[E.σ q]? = some (.cells arr' e0 (0, 0))) (hsz : arr'.size = arr.size) (h1' : ∀ (i : Nat) (v : Value), i < ys.length * u.sz → arr'[i]? = some v → v.oneCell' = true) (hok : ∀ k o, ¬ E.ok k (E.σ q) o)
    (hokB : ∀ k b o, E.ok k b o → b < w.heap.size) (hlvB : ∀ k i, E.lv k i → E.σ i < w.heap.size) (hinj : ∀ k i, E.lv k i → E.σ i = E.σ q → k = true ∧ i = q)
    (hin : ∀ (i : Nat) z j c v, ys[i]? = some z → lget (emb u z) j = some c → arr'[i * u.sz + j]? = some v → Rel w' E.closed c v)
    (hout : ∀ i, ys.length * u.sz ≤ i → arr'[i]? = arr[i]?) {a : AV} {v : Value} (h : Rel w E a v) : Rel w' E (a.rs q u ys) v := by
  have mc : Mono w E.closed w' E.closed := by
    refine ⟨fun _ _ _ h => h, fun k b o h => ?_, fun _ h => (by cases h), fun _ h => h.elim, fun _ _ h => h.elim⟩
    have hb : b ≠ E.σ q := by rintro rfl; exact hok k o h
    simp [World.cell?, hother b (hokB k b o h) hb]
  induction h with
  | bot => exact .bot _ _
  | int => exact .int _ _ _
  | bool => exact .bool _ _
  | str => exact .str _ _
  | snil => exact .snil _
  | agg E cs vs hs h1 h ih =>
    refine .agg _ _ _ (by rw [rsL_length]; exact hs) h1 fun i a v ha hv => ?_
    rw [lget_rsL] at ha
    obtain ⟨a', ha', rfl⟩ := Option.map_eq_some_iff.1 ha
    exact ih i a' v ha' hv hl hother hold hnew hok hokB hlvB hinj hin mc
  | tup E cs vs hs h ih =>
    refine .tup _ _ _ (by rw [rsL_length]; exact hs) fun i a v ha hv => ?_
    rw [lget_rsL] at ha
    obtain ⟨a', ha', rfl⟩ := Option.map_eq_some_iff.1 ha
    exact ih i a' v ha' hv hl hother hold hnew hok hokB hlvB hinj hin mc
  | tl E t xs a b o cap cv hcap ha hc hr ih => exact ((Rel.tl E t xs a b o cap cv hcap ha hc hr).closed rfl |>.mono mc).ofClosed rfl fun _ _ _ h => h
  | clip E t xs a h ih => exact .clip _ _ _ _ (h.mono mc)
  | own E id' e t xs v h ho ih =>
    refine .own _ _ _ _ _ _ (h.mono mc) fun hd => ?_
    rcases ho hd with hn | ⟨hl', ⟨vals, hv⟩, hb, hok'⟩
    · exact .inl hn
    · refine .inr ⟨hl', ⟨vals, ownsRow_same hv fun k hk => hother k ?_ ?_⟩, hb, hok'⟩
      · rw [hb] at hk; cases hk; exact hlvB _ _ hl'
      · rw [hb] at hk
        cases hk
        intro e
        exact absurd (hinj _ _ hl' e).1 (by simp)
  | box E id' off cs arr2 T' hl' hh hs' h1'' hok' h ih =>
    simp only [AV.rs]
    split
    · exact .bot _ _
    · rename_i e
      refine .box _ _ _ _ arr2 T' hl' ?_ (by rw [rsL_length]; exact hs') h1'' hok' fun i a v ha hv => ?_
      · rw [hother _ (hlvB _ _ hl') fun e' => e (hinj _ _ hl' e').2]; exact hh
      · rw [lget_rsL] at ha
        obtain ⟨a', ha', rfl⟩ := Option.map_eq_some_iff.1 ha
        exact ih i a' v ha' hv hl hother hold hnew hok hokB hlvB hinj hin mc
  | eptr E cs b o cv hcl' hc hr ih => exact ((Rel.eptr E cs b o cv hcl' hc hr).closed rfl |>.mono mc).ofClosed rfl fun _ _ _ h => h
  | fn E f caps vs hs h ih =>
    refine .fn _ _ _ _ (by rw [rsL_length]; exact hs) fun i a v ha hv => ?_
    rw [lget_rsL] at ha
    obtain ⟨a', ha', rfl⟩ := Option.map_eq_some_iff.1 ha
    exact ih i a' v ha' hv hl hother hold hnew hok hokB hlvB hinj hin mc
  | rowN E id e t =>
    simp only [AV.rs]
    split
    · split
      · rename_i e2
        subst e2
        simp
        exact .rowN _ _ _ _
      · exact .bot _ _
    · exact .rowN _ _ _ _
  | row E id e t xs cap arr2 hl' hh hn hm hs h1 hok' hr ih =>
    simp only [AV.rs]
    split
    · rename_i e1
      subst e1
      split
      case isFalse => exact .bot _ _
      rename_i e2
      subst e2
      rw [hold] at hh
      injection hh with hh
      injection hh with hh1 hh2
      subst hh1
      subst hh2
      have hlen : (List.take xs.length ys ++ List.drop ys.length xs).length = xs.length := by simp; omega
      have key : Rel w' E (.row id e0 u (List.take xs.length ys ++ List.drop ys.length xs)) (.slice (some ⟨E.σ id, 0, none⟩) (List.take xs.length ys ++ List.drop ys.length xs).length cap) := by
        refine .row _ _ _ _ _ cap arr' hl hnew (by rw [hlen]; exact hn) hm (by rw [hsz]; exact hs) (fun i v hi hv => ?_) hok fun i x j c v hi hj hv => ?_
        · rw [hlen] at hi
          by_cases e : i < ys.length * u.sz
          · exact h1' i v e hv
          · rw [hout i (by omega)] at hv
            exact h1 i v hi hv
        · by_cases e : i < ys.length
          · rw [List.getElem?_append] at hi
            split at hi
            · rename_i hlt
              rw [List.getElem?_take] at hi
              split at hi
              · exact hin i x j c v hi hj hv
              · cases hi
            · rename_i hge
              rw [List.getElem?_drop] at hi
              have := (List.getElem?_eq_some_iff.1 hi).1
              simp at hge
              omega
          · have hge : ys.length * u.sz ≤ i * u.sz := Nat.mul_le_mul_right _ (by omega)
            rw [hout _ (Nat.le_trans hge (Nat.le_add_right _ _))] at hv
            have hxi : xs[i]? = some x := by
              rw [List.getElem?_append] at hi
              split at hi
              · rename_i hlt
                simp at hlt
                omega
              · rename_i hge2
                rw [List.getElem?_drop] at hi
                rw [← hi]
                congr 1
                have hlt := (List.getElem?_eq_some_iff.1 hi).1
                simp at hge2 ⊢
                omega
            exact (hr i x j c v hxi hj hv).mono mc
      rw [hlen] at key
      exact key
    · rename_i hne
      refine .row _ _ _ _ _ cap arr2 hl' ?_ hn hm hs h1 hok' fun i x j c v hi hj hv => (hr i x j c v hi hj hv).mono mc
      rw [hother _ (hlvB _ _ hl') fun e' => hne (hinj _ _ hl' e').2]; exact hh
  | rel E id e t xs m off cap h0 hl' h ih =>
    have ih := ih hl hother hold hnew hok hokB hlvB hinj hin mc
    simp only [AV.rs] at ih ⊢
    by_cases e1 : id = q
    · rw [if_pos e1]; exact .bot _ _
    · rw [if_neg e1] at ih ⊢
      exact .rel _ _ _ _ _ _ _ cap h0 hl' ih
end Go.Ai

set_option linter.unusedSimpArgs false
set_option linter.unusedVariables false
namespace Go.Ai
open Go Go.RowKit

/-! ### Results without places -/
theorem npL_get : ∀ {l : List AV} {i : Nat} {a : AV}, npL l = true → lget l i = some a → a.np = true
  | [], _, _, _, h => by simp [lget] at h
  | x :: l, 0, a, hc, h => by simp [lget] at h; subst h; simp [npL] at hc; exact hc.1
  | x :: l, n + 1, a, hc, h => by simp [npL] at hc; exact npL_get hc.2 (by simpa [lget] using h)
theorem emb_np : ∀ (t : Ty) (x : t.den), npL (emb t x) = true
  | .int _, _ => rfl
  | .bool, _ => rfl
  | .str, _ => rfl
  | .list _, _ => rfl
  | .prod a b, x => by
    have h : ∀ l l' : List AV, npL l = true → npL l' = true → npL (l ++ l') = true := by
      intro l l' h h'
      induction l with
      | nil => simpa using h'
      | cons y l ih => simp [npL] at h ⊢; exact ⟨h.1, ih h.2⟩
    exact h _ _ (emb_np a x.1) (emb_np b x.2)

theorem Rel.np {w : World} {E : Env} {a : AV} {v : Value} (h : Rel w E a v) (hcl : a.cl = true) (hnp : a.np = true) {E' : Env} (hok : ∀ b o, E.ok true b o → E'.ok true b o) : Rel w E' a v := by
  induction h generalizing E' with
  | bot => exact .bot _ _
  | int => exact .int _ _ _
  | bool => exact .bool _ _
  | str => exact .str _ _
  | snil => exact .snil _
  | agg E cs vs hs h1 h ih => exact .agg _ _ _ hs h1 fun i a v ha hv => ih i a v ha hv (clL_get hcl ha) (npL_get hnp ha) hok
  | tup E cs vs hs h ih => exact .tup _ _ _ hs fun i a v ha hv => ih i a v ha hv (clL_get hcl ha) (npL_get hnp ha) hok
  | tl E t xs a b o cap cv hcap ha hc hr ih =>
    exact .tl _ _ _ _ b o _ cv hcap ha (fun i x j c hx hj => ⟨(hc i x j c hx hj).1, (hc i x j c hx hj).2.1, hok _ _ (hc i x j c hx hj).2.2⟩) fun i x j c hx hj => ih i x j c hx hj (clL_get (emb_cl t x) hj) (npL_get (emb_np t x) hj) hok
  | clip E t xs a h ih => exact .clip _ _ _ _ (ih rfl rfl hok)
  | own => simp [AV.cl] at hcl
  | box => simp [AV.np] at hnp
  | eptr => simp [AV.np] at hnp
  | fn => simp [AV.np] at hnp
  | rowN => simp [AV.np] at hnp
  | row => simp [AV.np] at hnp
  | rel => simp [AV.np] at hnp

/-! ### A variable that is written -/
theorem lget_updL (id : Nat) (new : List AV) : ∀ (l : List AV) (i : Nat), lget (updL id new l) i = (lget l i).map (AV.upd id new)
  | [], _ => by simp [updL, lget]
  | _ :: _, 0 => by simp [updL, lget]
  | _ :: l, n + 1 => by simp [updL, lget, lget_updL id new l n]
theorem updL_length (id : Nat) (new : List AV) : ∀ (l : List AV), (updL id new l).length = l.length
  | [] => rfl
  | _ :: l => by simp [updL, updL_length id new l]

theorem cell_other {w w' : World} {b o : Nat} (h : w'.heap[b]? = w.heap[b]?) : w'.cell? ⟨b, o, none⟩ = w.cell? ⟨b, o, none⟩ := by simp [World.cell?, h]

theorem Rel.upd {w w' : World} {E : Env} {id : Nat} {new : List AV} {arr : Array Value} {T : TypeId} (hl : E.lv true id)
    (hother : ∀ b, b ≠ E.σ id → w'.heap[b]? = w.heap[b]?) (hnew : w'.heap[E.σ id]? = some (.cells arr T (0, 0))) (hs : arr.size = new.length)
    (h1 : ∀ (i : Nat) (v : Value), arr[i]? = some v → v.oneCell' = true) (hok : ∀ k o, ¬ E.ok k (E.σ id) o)
    (hinj : ∀ k i, E.lv k i → E.σ i = E.σ id → k = true ∧ i = id)
    (hnr : ∀ i a v, lget new i = some a → arr[i]? = some v → Rel w' E a v) {a : AV} {v : Value} (h : Rel w E a v) : Rel w' E (a.upd id new) v := by
  have mc : Mono w E.closed w' E.closed := by
    refine ⟨fun _ _ _ h => h, fun k b o h => cell_other (hother b ?_), fun _ h => (by cases h), fun _ h => h.elim, fun _ _ h => h.elim⟩
    rintro rfl
    exact hok k o h
  induction h with
  | bot => exact .bot _ _
  | int => exact .int _ _ _
  | bool => exact .bool _ _
  | str => exact .str _ _
  | snil => exact .snil _
  | agg E cs vs hs h1 h ih =>
    refine .agg _ _ _ (by rw [updL_length]; exact hs) h1 fun i a v ha hv => ?_
    rw [lget_updL] at ha
    obtain ⟨a', ha', rfl⟩ := Option.map_eq_some_iff.1 ha
    exact ih i a' v ha' hv hl hother hnew hok hinj hnr mc
  | tup E cs vs hs h ih =>
    refine .tup _ _ _ (by rw [updL_length]; exact hs) fun i a v ha hv => ?_
    rw [lget_updL] at ha
    obtain ⟨a', ha', rfl⟩ := Option.map_eq_some_iff.1 ha
    exact ih i a' v ha' hv hl hother hnew hok hinj hnr mc
  | tl E t xs a b o cap cv hcap ha hc hr ih => exact ((Rel.tl E t xs a b o cap cv hcap ha hc hr).closed rfl |>.mono mc).ofClosed rfl fun _ _ _ h => h
  | clip E t xs a h ih => exact .clip _ _ _ _ (h.mono mc)
  | own E id' e t xs v h ho ih =>
    refine .own _ _ _ _ _ _ (h.mono mc) fun hd => ?_
    rcases ho hd with hn | ⟨hl', ⟨vals, hv⟩, hb, hok'⟩
    · exact .inl hn
    · refine .inr ⟨hl', ⟨vals, ownsRow_same hv fun k hk => hother k ?_⟩, hb, hok'⟩
      rw [hb] at hk
      cases hk
      intro e
      exact absurd (hinj _ _ hl' e).1 (by simp)
  | box E id' off cs arr' T' hl' hh hs' h1' hok' h ih =>
    by_cases e : id' = id
    · subst e
      simp only [AV.upd, if_true]
      exact .box _ _ _ _ arr T hl hnew hs h1 hok hnr
    · simp only [AV.upd, if_neg e]
      refine .box _ _ _ _ arr' T' hl' ?_ (by rw [updL_length]; exact hs') h1' hok' fun i a v ha hv => ?_
      · rw [hother _ fun e' => e (hinj _ _ hl' e').2]; exact hh
      · rw [lget_updL] at ha
        obtain ⟨a', ha', rfl⟩ := Option.map_eq_some_iff.1 ha
        exact ih i a' v ha' hv hl hother hnew hok hinj hnr mc
  | eptr E cs b o cv hcl' hc hr ih => exact ((Rel.eptr E cs b o cv hcl' hc hr).closed rfl |>.mono mc).ofClosed rfl fun _ _ _ h => h
  | fn E f caps vs hs h ih =>
    refine .fn _ _ _ _ (by rw [updL_length]; exact hs) fun i a v ha hv => ?_
    rw [lget_updL] at ha
    obtain ⟨a', ha', rfl⟩ := Option.map_eq_some_iff.1 ha
    exact ih i a' v ha' hv hl hother hnew hok hinj hnr mc
  | rowN E id' e t =>
    simp only [AV.upd]
    split
    · exact .bot _ _
    · exact .rowN _ _ _ _
  | row E id' e t xs cap arr2 hl' hh hn hm hs' h1' hok' hr ih =>
    simp only [AV.upd]
    split
    · exact .bot _ _
    · rename_i hne
      refine .row _ _ _ _ _ cap arr2 hl' ?_ hn hm hs' h1' hok' fun i x j c v hi hj hv => (hr i x j c v hi hj hv).mono mc
      rw [hother _ fun e' => hne (hinj _ _ hl' e').2]; exact hh
  | rel E id' e t xs n off cap h0 hl' h ih =>
    have ih := ih hl hother hnew hok hinj hnr mc
    simp only [AV.upd] at ih ⊢
    split
    · exact .bot _ _
    · rename_i hne
      rw [if_neg hne] at ih
      exact .rel _ _ _ _ _ _ _ cap h0 hl' ih

/-! ### Data out of cells -/
/-- Whatever stands for `a` stands, closed, for `c`. -/
def Le (c a : AV) : Prop := ∀ w E v, Rel w E a v → Rel w E.closed c v ∧ v.oneCell' = true

theorem cast_eq {t u : Ty} {xs : List t.den} {ys : List u.den} (h : cast t u xs = some ys) : ∃ e : t = u, ys = e ▸ xs := by
  unfold cast at h
  split at h
  · rename_i e
    exact ⟨e, (Option.some.inj h).symm⟩
  · cases h

theorem Rel.slice_form {w : World} {E : Env} {t : Ty} {xs : List t.den} {v : Value} (h : Rel w E (.tl t xs) v) : ∃ a cap, v = .slice a xs.length cap ∧ xs.length ≤ cap := by
  cases h with
  | tl _ _ _ a b o cap cv hcap ha hc hr => exact ⟨a, cap, rfl, hcap⟩

theorem elems_le {a : AV} {u : Ty} {xs : List u.den} (h : a.elems u = some xs) : Le (.tl u xs) a := by
  intro w E v hv
  cases a <;> simp only [AV.elems] at h <;> (try cases h)
  case snil =>
    cases hv
    exact ⟨.tl _ _ [] none 0 0 0 (fun _ _ => undef) (by simp) (by simp) (by simp) (by simp), rfl⟩
  case tl t ys =>
    obtain ⟨rfl, rfl⟩ := cast_eq h
    have := hv.slice_form
    obtain ⟨a, cap, rfl, _⟩ := this
    exact ⟨hv.closed rfl, rfl⟩
  case clip t ys =>
    obtain ⟨rfl, rfl⟩ := cast_eq h
    have h2 := hv.clip_tl
    obtain ⟨a, cap, rfl, _⟩ := h2.slice_form
    exact ⟨h2, rfl⟩
  case own id e t ys =>
    obtain ⟨rfl, rfl⟩ := cast_eq h
    have h2 := hv.own_tl
    obtain ⟨a, cap, rfl, _⟩ := h2.slice_form
    exact ⟨h2, rfl⟩

theorem decT_le : ∀ (t : Ty) {cs : List AV} {x : t.den} {r : List AV}, decT t cs = some (x, r) →
    ∃ pre, cs = pre ++ r ∧ pre.length = t.sz ∧ ∀ j c, lget (emb t x) j = some c → ∃ a, lget pre j = some a ∧ Le c a
  | .int k, cs, x, r, h => by
    rcases cs with _ | ⟨a, cs⟩ <;> (try cases a) <;> simp [decT] at h
    obtain ⟨rfl, rfl, rfl⟩ := h
    refine ⟨[_], rfl, rfl, fun j c hj => ?_⟩
    rcases j with _ | j <;> simp [emb, lget] at hj
    exact ⟨_, rfl, by subst hj; intro w E v hv; cases hv; exact ⟨.int _ _ _, rfl⟩⟩
  | .bool, cs, x, r, h => by
    rcases cs with _ | ⟨a, cs⟩ <;> (try cases a) <;> simp [decT] at h
    obtain ⟨rfl, rfl⟩ := h
    refine ⟨[_], rfl, rfl, fun j c hj => ?_⟩
    rcases j with _ | j <;> simp [emb, lget] at hj
    exact ⟨_, rfl, by subst hj; intro w E v hv; cases hv; exact ⟨.bool _ _, rfl⟩⟩
  | .str, cs, x, r, h => by
    rcases cs with _ | ⟨a, cs⟩ <;> (try cases a) <;> simp [decT] at h
    obtain ⟨rfl, rfl⟩ := h
    refine ⟨[_], rfl, rfl, fun j c hj => ?_⟩
    rcases j with _ | j <;> simp [emb, lget] at hj
    exact ⟨_, rfl, by subst hj; intro w E v hv; cases hv; exact ⟨.str _ _, rfl⟩⟩
  | .list u, cs, x, r, h => by
    rcases cs with _ | ⟨a, cs⟩
    · simp [decT] at h
    · simp only [decT, Option.bind_eq_some_iff] at h
      obtain ⟨xs, hx, h⟩ := h
      cases h
      refine ⟨[a], rfl, rfl, fun j c hj => ?_⟩
      rcases j with _ | j <;> simp [emb, lget] at hj
      subst hj
      exact ⟨a, rfl, elems_le hx⟩
  | .prod a b, cs, x, r, h => by
    simp only [decT, Option.bind_eq_some_iff] at h
    obtain ⟨⟨x1, r1⟩, h1, ⟨x2, r2⟩, h2, h⟩ := h
    cases h
    obtain ⟨p1, rfl, l1, g1⟩ := decT_le a h1
    obtain ⟨p2, e2, l2, g2⟩ := decT_le b h2
    simp only at e2
    subst e2
    refine ⟨p1 ++ p2, by simp, by simp [l1, l2, Ty.sz], fun j c hj => ?_⟩
    replace hj : lget (emb a x1 ++ emb b x2) j = some c := hj
    rw [lget_append, emb_length] at hj
    rw [lget_append, l1]
    split at hj
    · rename_i hlt; rw [if_pos hlt]; exact g1 j c hj
    · rename_i hlt; rw [if_neg hlt]; exact g2 _ c hj

theorem dec_le {t : Ty} {cs : List AV} {x : t.den} (h : dec t cs = some x) : cs.length = t.sz ∧ ∀ j c, lget (emb t x) j = some c → ∃ a, lget cs j = some a ∧ Le c a := by
  simp only [dec, Option.bind_eq_some_iff] at h
  obtain ⟨⟨y, r⟩, h1, h⟩ := h
  cases r with
  | nil =>
    cases h
    obtain ⟨p, rfl, l, g⟩ := decT_le t h1
    simp only [List.append_nil]
    exact ⟨l, g⟩
  | cons _ _ => cases h

/-! ### The table of types -/
mutual
def zeq : AV → Value → Bool
  | .int k n, .int k' m => k == k' && n == m
  | .bool b, .bool c => b == c
  | .str s, .string t => decide (s = t)
  | .snil, .slice a l c => a.isNone && l == 0 && c == 0
  | .agg cs, .agg vs => zeqL cs vs.toList
  | .bot, v => v.oneCell'
  | _, _ => false
def zeqL : List AV → List Value → Bool
  | [], [] => true
  | a :: l, v :: m => zeq a v && v.oneCell' && zeqL l m
  | _, _ => false
end

def fieldOK (P : Program) (f : Field) (g : Nat × Nat × Bool) : Bool :=
  f.offset == g.1 && (match P.info? f.type with | some i => i.size == g.2.1 | none => false) &&
  (match P.underlying f.type with | some (.struct _) => g.2.2 | some (.array _ _) => g.2.2 | some _ => !g.2.2 | none => false)

def fieldsOK (P : Program) : List Field → List (Nat × Nat × Bool) → Bool
  | [], [] => true
  | f :: l, g :: m => fieldOK P f g && fieldsOK P l m
  | _, _ => false

def kindOK (P : Program) (t : TypeId) (k : TK) : Bool :=
  match k, P.underlying t with
  | .struct fs, some (.struct fields) => fieldsOK P fields.toList fs
  | .slice e, some (.slice e') => e == e'
  | .str, some .string => true
  | .int k, some (.int k') => k == k'
  | .bool, some .bool => true
  | _, _ => false

def tiOK (P : Program) (t : TypeId) (i : TI) : Bool :=
  (match P.info? t with
   | some inf => inf.size == i.sz && inf.bytes == i.bytes && (match inf.zero with | some z => zeqL i.zero.cells z.cells.toList && i.zero.cells.length == i.sz | none => false)
   | none => false) &&
  i.ty.sz == i.sz && ocells i.zero.cells && kindOK P t i.kind

def TOK (P : Program) (T : Nat → Option TI) : Prop := ∀ t i, T t = some i → tiOK P t i = true

theorem zeqL_get : ∀ {l : List AV} {m : List Value}, zeqL l m = true → l.length = m.length ∧ ∀ i a v, lget l i = some a → m[i]? = some v → zeq a v = true ∧ v.oneCell' = true
  | [], [], _ => ⟨rfl, fun i a v h => by simp [lget] at h⟩
  | [], _ :: _, h => by simp [zeqL] at h
  | _ :: _, [], h => by simp [zeqL] at h
  | a :: l, v :: m, h => by
    simp only [zeqL, Bool.and_eq_true] at h
    obtain ⟨h1, h2⟩ := zeqL_get h.2
    refine ⟨by simp [h1], fun i a' v' ha hv => ?_⟩
    cases i with
    | zero => simp [lget] at ha hv; subst ha; subst hv; exact ⟨h.1.1, h.1.2⟩
    | succ n => exact h2 n a' v' (by simpa [lget] using ha) (by simpa using hv)

theorem zeq_rel (w : World) (E : Env) : ∀ {a : AV} {v : Value}, zeq a v = true → a.ocell = true → Rel w E a v := by
  intro a v h ho
  cases a <;> cases v <;> simp [zeq, AV.ocell] at h ho
  case int.int => obtain ⟨rfl, rfl⟩ := h; exact .int _ _ _
  case bool.bool => subst h; exact .bool _ _
  case str.string s t => subst h; exact .str _ _
  case snil.slice a l c =>
    obtain ⟨⟨rfl, rfl⟩, rfl⟩ := h
    exact .snil _

theorem ocells_get : ∀ {l : List AV} {i : Nat} {a : AV}, ocells l = true → lget l i = some a → a.ocell = true
  | [], _, _, _, h => by simp [lget] at h
  | x :: l, 0, a, hc, h => by simp [lget] at h; subst h; simp [ocells] at hc; exact hc.1
  | x :: l, n + 1, a, hc, h => by simp [ocells] at hc; exact ocells_get hc.2 (by simpa [lget] using h)

structure TIF (P : Program) (t : TypeId) (i : TI) where
  info : ∃ inf z, P.info? t = some inf ∧ inf.size = i.sz ∧ inf.bytes = i.bytes ∧ inf.zero = some z ∧ z.cells.size = i.sz ∧ i.zero.cells.length = i.sz ∧
    ∀ j a v, lget i.zero.cells j = some a → z.cells[j]? = some v → v.oneCell' = true ∧ ∀ w E, Rel w E a v
  tysz : i.ty.sz = i.sz
  zoc : ocells i.zero.cells = true
  kind : kindOK P t i.kind = true

theorem TOK.facts {P : Program} {T : Nat → Option TI} (h : TOK P T) {t : TypeId} {i : TI} (ht : T t = some i) : TIF P t i := by
  have h := h t i ht
  simp only [tiOK, Bool.and_eq_true] at h
  obtain ⟨⟨⟨h1, h2⟩, h3⟩, h4⟩ := h
  refine ⟨?_, by simpa using h2, h3, h4⟩
  cases hi : P.info? t with
  | none => simp [hi] at h1
  | some inf =>
    simp only [hi, Bool.and_eq_true] at h1
    cases hz : inf.zero with
    | none => simp [hz] at h1
    | some z =>
      simp only [hz, Bool.and_eq_true, beq_iff_eq] at h1
      obtain ⟨⟨a, b⟩, c, d⟩ := h1
      obtain ⟨l, g⟩ := zeqL_get c
      refine ⟨inf, z, rfl, a, b, hz, by simpa [d] using l.symm, d, fun j x v hx hv => ?_⟩
      obtain ⟨g1, g2⟩ := g j x v hx (by simpa using hv)
      exact ⟨g2, fun w E => zeq_rel w E g1 (ocells_get h3 hx)⟩
end Go.Ai

set_option linter.unusedSimpArgs false
set_option linter.unusedVariables false
namespace Go.Ai
open Go Go.RowKit

/-- What holds of the program's variables, however what is new is written. -/
def Glo (GL : World → Prop) (B : Nat) (w : World) : Prop := ∀ w', Below B w w' → GL w'

theorem Glo.later {GL : World → Prop} {B : Nat} {w w' : World} (h : Glo GL B w) (hb : Below B w w') (hs : B ≤ w'.heap.size) : Glo GL w'.heap.size w' :=
  fun w'' h'' => h w'' (hb.trans (h''.mono hs))

structure Inv (GL : World → Prop) (B0 : Nat) (ok0 : Bool → Nat → Nat → Prop) (w0 w : World) (E : Env) (used : Nat → Prop) : Prop where
  below : Below B0 w0 w
  base : B0 ≤ w.heap.size
  okB : ∀ k b o, E.ok k b o → b < w.heap.size
  okm : ∀ b o, E.ok true b o → E.ok false b o
  lvu : ∀ k i, E.lv k i → used i
  lvb : ∀ k i, E.lv k i → B0 ≤ E.σ i ∧ E.σ i < w.heap.size
  inj : ∀ k i k' i', E.lv k i → E.lv k' i' → E.σ i = E.σ i' → k = k' ∧ i = i'
  box : ∀ i, E.lv true i → ∀ k o, ¬ E.ok k (E.σ i) o
  oke : ∀ k b o, ok0 k b o → E.ok k b o
  okN : ∀ k b o, E.ok k b o → ok0 k b o ∨ B0 ≤ b
  glo : Glo GL B0 w0

theorem Inv.mono {GL : World → Prop} {B0 : Nat} {ok0 : Bool → Nat → Nat → Prop} {w0 w : World} {E : Env} {used used' : Nat → Prop} (h : Inv GL B0 ok0 w0 w E used) (hu : ∀ i, used i → used' i) : Inv GL B0 ok0 w0 w E used' :=
  { h with lvu := fun k i hl => hu _ (h.lvu k i hl) }

section
variable (P : Program) (GL : World → Prop) (B0 : Nat) (ok0 : Bool → Nat → Nat → Prop) (w0 : World)

/-- The operation gives `r`. -/
def Good (w : World) (E : Env) (used : Nat → Prop) (id : Nat) (o : Oper) (a : Act) (r : AV) (dead' : Nat → Bool) : Prop :=
  ∀ (K : Act → World → Prop) (Q : Exit → Act → World → Prop),
    (∀ v w' E', E'.dead = dead' → Mono w E w' E' → Inv GL B0 ok0 w0 w' E' (fun i => used i ∨ i = id) → Rel w' E' r v → K (a.put o.dst v) w') → o.wp P a w K Q
end

section
variable {P : Program} {GL : World → Prop} {B0 : Nat} {ok0 : Bool → Nat → Nat → Prop} {w0 w : World} {E : Env} {used : Nat → Prop} {id : Nat} {o : Oper} {a : Act} {r : AV} {dead' : Nat → Bool}

theorem Good.pure {v : Value} (hr : (execOp a.eval o).run P w = .ok (.value v) w) (hv : Rel w E r v) (hi : Inv GL B0 ok0 w0 w E used) : Good P GL B0 ok0 w0 w E used id o a r E.dead := by
  intro K Q hK
  unfold Oper.wp
  rw [hr]
  exact hK v w E rfl (Mono.refl w E) (hi.mono fun i h => .inl h) hv

theorem aget_rel {fr : List AV} {x : Operand} {av : AV} (hf : RelL w E fr a.tmps) (h : aget fr x = some av) : Rel w E av (a.eval x) := by
  cases x with
  | tmp t =>
    simp only [aget] at h
    have hlt : t < a.tmps.size := by rw [hf.1]; rw [lget_eq] at h; exact (List.getElem?_eq_some_iff.1 h).1
    have : a.tmps[t]? = some (a.eval (.tmp t)) := by simp [Act.eval, hlt]
    exact hf.2 t av _ h this
  | const v =>
    simp only [aget] at h
    simp only [Act.eval]
    unfold aconst at h
    split at h <;> (try cases h) <;> constructor
  | global g => simp [aget] at h
  | func f =>
    simp only [aget, Option.some.injEq] at h
    subst h
    exact .fn _ _ _ _ rfl fun i a v h => by simp [lget] at h

theorem RelL.cons {as : List AV} {vs : List Value} {x : AV} {v : Value} (hx : Rel w E x v) (h : RelL w E as vs.toArray) : RelL w E (x :: as) (v :: vs).toArray := by
  refine ⟨by have := h.1; simp at this ⊢; exact this, fun i a u ha hu => ?_⟩
  cases i with
  | zero => simp [lget] at ha hu; subst ha; subst hu; exact hx
  | succ n => exact h.2 n a u (by simpa [lget] using ha) (by simpa using hu)

theorem agets_rel {fr : List AV} (hf : RelL w E fr a.tmps) : ∀ {xs : List Operand} {as : List AV}, agets fr xs = some as → RelL w E as (xs.map a.eval).toArray
  | [], as, h => by simp [agets] at h; subst h; exact ⟨rfl, fun i a v h => by simp [lget] at h⟩
  | x :: l, as, h => by
    simp only [agets, Option.bind_eq_some_iff] at h
    obtain ⟨y, hy, ys, hys, h⟩ := h
    cases h
    exact .cons (aget_rel hf hy) (agets_rel hf hys)

/-- Cells in memory, as they read. -/
def CellsAt (w : World) (E : Env) (cs : List AV) (b o : Nat) : Prop := ∀ j c, lget cs j = some c → ∃ u, w.cell? ⟨b, o + j, none⟩ = some u ∧ u.oneCell' = true ∧ Rel w E c u

theorem place_cells {p : AV} {v : Value} (h : Rel w E p v) : (∀ id off cs, p = .box id off cs → ∃ b, v = .pointer (some ⟨b, off, none⟩) ∧ CellsAt w E cs b 0) ∧
    (∀ cs, p = .eptr cs → ∃ b o, v = .pointer (some ⟨b, o, none⟩) ∧ CellsAt w E cs b o) := by
  constructor
  · rintro id off cs rfl
    cases h with
    | box _ _ _ _ arr T hl hh hs h1 hok h =>
      refine ⟨_, rfl, fun j c hj => ?_⟩
      have hlt : j < arr.size := by rw [hs]; rw [lget_eq] at hj; exact (List.getElem?_eq_some_iff.1 hj).1
      exact ⟨arr[j], by simp [World.cell?, hh, hlt], h1 j _ (by simp [hlt]), h j c _ hj (by simp [hlt])⟩
  · rintro cs rfl
    cases h with
    | eptr _ _ b o cv hcl hc hr => exact ⟨b, o, rfl, fun j c hj => ⟨cv j, (hc j c hj).1, (hc j c hj).2.1, (hr j c hj).ofClosed (clL_get hcl hj) fun _ _ _ h => h⟩⟩

theorem listAt_some {β : Type} {xs : List β} {n : Int} {z : β} (h : listAt xs n = some z) : 0 ≤ n ∧ xs[n.toNat]? = some z := by
  unfold listAt at h
  split at h
  · cases h
  · exact ⟨by omega, h⟩

theorem row_cells {q e : Nat} {u : Ty} {xs : List u.den} {cap k : Nat} {z : u.den} (h : Rel w E (.row q e u xs) (.slice (some ⟨E.σ q, 0, none⟩) xs.length cap)) (hz : xs[k]? = some z) : CellsAt w E (emb u z) (E.σ q) (k * u.sz) := by
  intro j c hj
  generalize hv : Value.slice (some ⟨E.σ q, 0, none⟩) xs.length cap = v at h
  cases h with
  | rowN => simp at hz
  | row _ _ _ _ _ cap' arr hl hh hn hm hs h1 hok hr =>
    have hlt := row_in hn hs hz hj
    exact ⟨arr[k * u.sz + j], by simp [World.cell?, hh, hlt], h1 _ _ (row_in (Nat.le_refl _) rfl hz hj) (Array.getElem?_eq_getElem hlt), (hr k z j c _ hz hj (Array.getElem?_eq_getElem hlt)).ofClosed (clL_get (emb_cl u z) hj) fun _ _ _ h => h⟩

theorem Addr.add_eq (b o n : Nat) : (⟨b, o, none⟩ : Addr).add n = ⟨b, o + n, none⟩ := by
  unfold Addr.add
  split
  · subst_vars; rfl
  · rfl

theorem run_isAgg {t : TypeId} {k : TK} (h : kindOK P t k = true) (w : World) : (isAgg t).run P w = .ok k.isAgg w := by
  unfold kindOK at h
  unfold isAgg
  cases hu : P.underlying t with
  | none => cases k <;> simp [hu] at h
  | some d =>
    rw [Sem.run_bind, run_underlying hu w]
    cases k <;> cases d <;> simp [hu] at h <;> rfl

theorem run_sizeOf {t : TypeId} {i : TI} (h : TIF P t i) (w : World) : (sizeOf t).run P w = .ok i.sz w := by
  obtain ⟨inf, z, h1, h2, _⟩ := h.info
  simp [sizeOf, typeInfo, h1, h2]

theorem lget_drop {α : Type} (l : List α) (n j : Nat) : lget (l.drop n) j = lget l (n + j) := by simp [lget_eq]
theorem lget_take {α : Type} (l : List α) (n j : Nat) : lget (l.take n) j = if j < n then lget l j else none := by simp [lget_eq, List.getElem?_take]

/-- A load. -/
theorem run_load_part {t : TypeId} {i : TI} (h : TIF P t i) {cs : List AV} {b o off : Nat} {r : AV} (hc : CellsAt w E cs b o) (hp : apart i.kind.isAgg i.sz off cs = some r) :
    ∃ v, (loadVar t ⟨b, o + off, none⟩).run P w = .ok v w ∧ Rel w E r v := by
  unfold apart at hp
  unfold loadVar
  rw [Sem.run_bind, run_isAgg h.kind w]
  cases ha : i.kind.isAgg with
  | true =>
    simp only [ha] at hp
    split at hp
    · rename_i hle
      cases hp
      have hcell : ∀ j, j < i.sz → ∃ u c, lget cs (off + j) = some c ∧ w.cell? ⟨b, o + off + j, none⟩ = some u ∧ u.oneCell' = true ∧ Rel w E c u := by
        intro j hj
        have hlt : off + j < cs.length := by omega
        obtain ⟨u, h1, h2, h3⟩ := hc (off + j) cs[off + j] (by simp [lget_eq, hlt])
        exact ⟨u, _, by simp [lget_eq, hlt], by rw [Nat.add_assoc]; exact h1, h2, h3⟩
      have hf : ∃ f : Nat → Value, ∀ j, j < i.sz → w.cell? ⟨b, o + off + j, none⟩ = some (f j) :=
        ⟨fun j => (w.cell? ⟨b, o + off + j, none⟩).getD undef, fun j hj => by obtain ⟨u, c, _, h2, _⟩ := hcell j hj; simp [h2]⟩
      obtain ⟨f, hf⟩ := hf
      have hl := run_loadCells (P := P) w ⟨b, o + off, none⟩ i.sz f (fun j hj => by rw [Addr.add_eq]; exact hf j hj)
      refine ⟨.agg ((List.range i.sz).map f).toArray, ?_, ?_⟩
      · simp [run_sizeOf h w, hl]
      · refine .agg _ _ _ (by simp; omega) (fun j v hv => ?_) fun j c v hj hv => ?_
        · have hlt : j < i.sz := by
            have := (Array.getElem?_eq_some_iff.1 hv).1; simpa using this
          obtain ⟨u, c, h1, h2, h3, h4⟩ := hcell j hlt
          have : v = u := by simp [hlt] at hv; rw [hf j hlt] at h2; cases h2; exact hv.symm
          subst this; exact h3
        · have hlt : j < i.sz := by
            have := (Array.getElem?_eq_some_iff.1 hv).1; simpa using this
          obtain ⟨u, c', h1, h2, h3, h4⟩ := hcell j hlt
          have : v = u := by simp [hlt] at hv; rw [hf j hlt] at h2; cases h2; exact hv.symm
          subst this
          rw [lget_take, if_pos hlt, lget_drop, h1] at hj
          cases hj
          exact h4
    · cases hp
  | false =>
    simp only [ha] at hp
    obtain ⟨u, h1, h2, h3⟩ := hc off r hp
    exact ⟨u, by simp [h1], h3⟩

theorem TIF.slice {t e : Nat} {i : TI} (h : TIF P t i) (hk : i.kind = .slice e) : P.underlying t = some (.slice e) := by
  have := h.kind
  unfold kindOK at this
  rw [hk] at this
  cases hu : P.underlying t with
  | none => simp [hu] at this
  | some d => cases d <;> simp [hu] at this; subst this; rfl
theorem TIF.str {t : Nat} {i : TI} (h : TIF P t i) (hk : i.kind = .str) : P.underlying t = some .string := by
  have := h.kind
  unfold kindOK at this
  rw [hk] at this
  cases hu : P.underlying t with
  | none => simp [hu] at this
  | some d => cases d <;> simp [hu] at this; rfl
theorem TIF.int {t : Nat} {i : TI} {k : IntKind} (h : TIF P t i) (hk : i.kind = .int k) : P.underlying t = some (.int k) := by
  have := h.kind
  unfold kindOK at this
  rw [hk] at this
  cases hu : P.underlying t with
  | none => simp [hu] at this
  | some d => cases d <;> simp [hu] at this; subst this; rfl
theorem fieldsOK_get {P : Program} : ∀ {fields : List Field} {fs : List (Nat × Nat × Bool)}, fieldsOK P fields fs = true → ∀ {f : Nat} {g : Nat × Nat × Bool}, lget fs f = some g → ∃ fd, fields[f]? = some fd ∧ fieldOK P fd g = true
  | [], [], _, f, g, h => by simp [lget] at h
  | [], _ :: _, h, _, _, _ => by simp [fieldsOK] at h
  | _ :: _, [], h, _, _, _ => by simp [fieldsOK] at h
  | fd :: l, g :: m, h, f, g', hg => by
    simp only [fieldsOK, Bool.and_eq_true] at h
    cases f with
    | zero => simp [lget] at hg; subst hg; exact ⟨fd, rfl, h.1⟩
    | succ n =>
      obtain ⟨fd', h1, h2⟩ := fieldsOK_get h.2 (f := n) (g := g') (by simpa [lget] using hg)
      exact ⟨fd', by simpa using h1, h2⟩
theorem TIF.struct {t : Nat} {i : TI} {fs : List (Nat × Nat × Bool)} (h : TIF P t i) (hk : i.kind = .struct fs) : ∃ fields : Array Field, P.underlying t = some (.struct fields) ∧ fieldsOK P fields.toList fs = true := by
  have := h.kind
  unfold kindOK at this
  rw [hk] at this
  cases hu : P.underlying t with
  | none => simp [hu] at this
  | some d => cases d <;> simp [hu] at this; exact ⟨_, rfl, this⟩
theorem fieldOK_parts {fd : Field} {g : Nat × Nat × Bool} (h : fieldOK P fd g = true) : fd.offset = g.1 ∧ (∃ inf, P.info? fd.type = some inf ∧ inf.size = g.2.1) ∧ ∀ w, (isAgg fd.type).run P w = .ok g.2.2 w := by
  simp only [fieldOK, Bool.and_eq_true, beq_iff_eq] at h
  obtain ⟨⟨h1, h2⟩, h3⟩ := h
  refine ⟨h1, ?_, fun w => ?_⟩
  · cases hi : P.info? fd.type with
    | none => simp [hi] at h2
    | some inf => exact ⟨inf, rfl, by simpa [hi] using h2⟩
  · unfold isAgg
    cases hu : P.underlying fd.type with
    | none => simp [hu] at h3
    | some d =>
      rw [Sem.run_bind, run_underlying hu w]
      cases d <;> simp [hu] at h3 <;> simp [h3]
end
end Go.Ai

set_option linter.unusedSimpArgs false
set_option linter.unusedVariables false
namespace Go.Ai
open Go Go.RowKit
section
variable {P : Program} {GL : World → Prop} {B0 : Nat} {ok0 : Bool → Nat → Nat → Prop} {w0 w : World} {E : Env} {used : Nat → Prop} {id : Nat} {o : Oper} {a : Act} {r : AV} {dead' : Nat → Bool}

theorem bytes_eq (a b : ByteArray) : (a.toList == b.toList) = decide (a = b) := by
  have h : a.toList = b.toList ↔ a = b := by
    constructor
    · intro h
      apply ByteArray.ext
      apply Array.ext'
      rwa [ByteArray.toList_eq, ByteArray.toList_eq] at h
    · rintro rfl; rfl
  rw [Bool.eq_iff_iff]
  simp [h]

theorem run_abin {op : BinOp} {t : TypeId} {ox oy : Operand} {x y : AV} {vx vy : Value} (h : abin op x y = some r) (hx : Rel w E x vx) (hy : Rel w E y vy) :
    ∃ v, (do eqGuard op t ox oy vx vy; binOp op t vx vy : Sem Value).run P w = .ok v w ∧ Rel w E r v := by
  unfold abin at h
  split at h
  · cases hx; cases hy
    rename_i k a k' b
    split at h
    · split at h <;> cases h
      rename_i hb
      exact ⟨_, by simp [eqGuard_at_int, binOp, Op.shift, hb], .int _ _ _⟩
    · split at h <;> cases h
      rename_i hb
      exact ⟨_, by simp [eqGuard_at_int, binOp, Op.shift, hb], .int _ _ _⟩
    · rename_i h1 h2
      split at h
      · rename_i e
        subst e
        unfold aint at h
        cases op <;> simp at h1 h2 h
        case add => subst h; exact ⟨_, by simp [eqGuard_at_int, binOp, Op.intArith], .int _ _ _⟩
        case sub => subst h; exact ⟨_, by simp [eqGuard_at_int, binOp, Op.intArith], .int _ _ _⟩
        case mul => subst h; exact ⟨_, by simp [eqGuard_at_int, binOp, Op.intArith], .int _ _ _⟩
        case quo => obtain ⟨hb, rfl⟩ := h; exact ⟨_, by simp [eqGuard_at_int, binOp, Op.intDiv, hb], .int _ _ _⟩
        case rem => obtain ⟨hb, rfl⟩ := h; exact ⟨_, by simp [eqGuard_at_int, binOp, Op.intDiv, hb], .int _ _ _⟩
        case and => subst h; exact ⟨_, by simp [eqGuard_at_int, binOp, Op.intBits], .int _ _ _⟩
        case or => subst h; exact ⟨_, by simp [eqGuard_at_int, binOp, Op.intBits], .int _ _ _⟩
        case xor => subst h; exact ⟨_, by simp [eqGuard_at_int, binOp, Op.intBits], .int _ _ _⟩
        case andNot => subst h; exact ⟨_, by simp [eqGuard_at_int, binOp, Op.intBits], .int _ _ _⟩
        case eql => subst h; exact ⟨.bool (decide (a = b)), by simp [eqGuard_at_int, binOp, Op.intCmp]; rw [Bool.eq_iff_iff]; simp, .bool _ _⟩
        case neq => subst h; exact ⟨.bool (!decide (a = b)), by simp [eqGuard_at_int, binOp, Op.intCmp]; rw [Bool.eq_iff_iff]; simp, .bool _ _⟩
        case lss => subst h; exact ⟨_, by simp [eqGuard_at_int, binOp, Op.intCmp], .bool _ _⟩
        case leq => subst h; exact ⟨_, by simp [eqGuard_at_int, binOp, Op.intCmp], .bool _ _⟩
        case gtr => subst h; exact ⟨_, by simp [eqGuard_at_int, binOp, Op.intCmp], .bool _ _⟩
        case geq => subst h; exact ⟨_, by simp [eqGuard_at_int, binOp, Op.intCmp], .bool _ _⟩
      · cases h
  · cases hx; cases hy
    rename_i s t
    cases op <;> simp at h
    case add =>
      obtain ⟨hle, rfl⟩ := h
      refine ⟨_, ?_, .str _ _⟩
      have : ¬ ((s.size + t.size : Nat) : Int) > IntKind.i64.max := by rw [IntKind.max_i64]; omega
      simp only [eqGuard_at_string, binOp, Op.stringOp, if_neg this]
      simp
    case eql => subst h; exact ⟨_, by simp [eqGuard_at_string, binOp, Op.stringOp, bytes_eq], .bool _ _⟩
    case neq => subst h; exact ⟨_, by simp [eqGuard_at_string, binOp, Op.stringOp, bytes_eq], .bool _ _⟩
    case lss => subst h; exact ⟨_, by simp [eqGuard_at_string, binOp, Op.stringOp], .bool _ _⟩
    case leq => subst h; exact ⟨_, by simp [eqGuard_at_string, binOp, Op.stringOp, bytes_eq], .bool _ _⟩
    case gtr => subst h; exact ⟨_, by simp [eqGuard_at_string, binOp, Op.stringOp, bytes_eq], .bool _ _⟩
    case geq => subst h; exact ⟨_, by simp [eqGuard_at_string, binOp, Op.stringOp], .bool _ _⟩
  · cases h

theorem Rel.tl_parts {t : Ty} {xs : List t.den} {v : Value} (h : Rel w E (.tl t xs) v) : ∃ a b o cap, v = .slice a xs.length cap ∧ xs.length ≤ cap ∧ (xs ≠ [] → a = some ⟨b, o, none⟩) ∧
    ∃ cv : Nat → Nat → Value, (∀ i x j c, xs[i]? = some x → lget (emb t x) j = some c → w.cell? ⟨b, o + (i * t.sz + j), none⟩ = some (cv i j) ∧ (cv i j).oneCell' = true ∧ E.ok true b (o + (i * t.sz + j))) ∧
      (∀ i x j c, xs[i]? = some x → lget (emb t x) j = some c → Rel w E.closed c (cv i j)) := by
  cases h with
  | tl _ _ _ a b o cap cv hcap ha hc hr => exact ⟨a, b, o, cap, rfl, hcap, ha, cv, hc, hr⟩

theorem run_aindex {T : Nat → Option TI} (hT : TOK P T) {t : Nat} {x n : AV} {vx vn : Value} (h : aindex T t x n = some r) (hx : Rel w E x vx) (hn : Rel w E n vn) (hi : Inv GL B0 ok0 w0 w E used) :
    ∃ v, (Instr.indexAt t vx vn).run P w = .ok v w ∧ Rel w E r v := by
  simp only [aindex, Option.bind_eq_some_iff] at h
  obtain ⟨i, ht, h⟩ := h
  split at h
  · rename_i e n hk
    cases hn
    simp only [Option.bind_eq_some_iff] at h
    obtain ⟨j, he, h⟩ := h
    split at h
    · rename_i q e' u xs
      split at h
      case isFalse => cases h
      rename_i hc
      obtain ⟨rfl, rfl⟩ := hc
      split at h
      case isTrue => cases h
      rename_i hneg
      simp only [Option.bind_eq_some_iff] at h
      obtain ⟨y, hy, h⟩ := h
      cases h
      have hlt : n.toNat < xs.length := (List.getElem?_eq_some_iff.1 hy).1
      cases hx with
      | rowN => simp at hlt
      | row _ _ _ _ _ cap arr hl hh hn hm hs h1 hok hr =>
      have hrow := Rel.row (w := w) E q _ _ xs cap arr hl hh hn hm hs h1 hok hr
      have hu := (hT.facts ht).slice hk
      have hsz := run_sizeOf (hT.facts he) w
      have hty := (hT.facts he).tysz
      have hb : 0 ≤ n ∧ n < (xs.length : Int) := by omega
      refine ⟨.pointer (some ⟨E.σ q, 0 + n.toNat * j.sz, none⟩), ?_, ?_⟩
      · simp [Instr.indexAt, asIntOf, run_underlying hu, hb, hsz, Addr.add_eq]
      · rw [Nat.zero_add, ← hty]
        exact .rel _ _ _ _ _ n 0 cap (by omega) hl hrow
    rename_i x hnr
    simp only [Option.bind_eq_some_iff] at h
    obtain ⟨xs, hxs, h⟩ := h
    split at h
    · cases h
    · rename_i hneg
      simp only [Option.bind_eq_some_iff] at h
      obtain ⟨y, hy, h⟩ := h
      cases h
      obtain ⟨htl, _⟩ := elems_le hxs w E vx hx
      obtain ⟨a', b, o', cap, rfl, hcap, ha, cv, hc, hr⟩ := htl.tl_parts
      have hlt : n.toNat < xs.length := (List.getElem?_eq_some_iff.1 hy).1
      have ha' : a' = some ⟨b, o', none⟩ := ha (by rintro rfl; simp at hlt)
      subst ha'
      have hu := (hT.facts ht).slice hk
      have hsz := run_sizeOf (hT.facts he) w
      have hty := (hT.facts he).tysz
      have hb : 0 ≤ n ∧ n < (xs.length : Int) := by omega
      refine ⟨.pointer (some ⟨b, o' + n.toNat * j.sz, none⟩), ?_, ?_⟩
      · simp [Instr.indexAt, asIntOf, run_underlying hu, hb, hsz, Addr.add_eq]
      · refine .eptr _ _ _ _ (fun q => cv n.toNat q) (emb_cl _ _) (fun q c hq => ?_) fun q c hq => ?_
        · obtain ⟨h1, h2, h3⟩ := hc n.toNat y q c hy hq
          rw [hty] at h1 h3
          refine ⟨by rw [Nat.add_assoc]; exact h1, h2, ?_⟩
          rw [Nat.add_assoc]
          exact hi.okm _ _ h3
        · exact hr n.toNat y q c hy hq
  · cases h

theorem run_alen {T : Nat → Option TI} (hT : TOK P T) {t ty : Nat} {x : AV} {vx : Value} (h : alen T t x = some r) (hx : Rel w E x vx) :
    ∃ v, (Builtin.len_ #[t] ty #[vx]).run P w = .ok v w ∧ Rel w E r v := by
  simp only [alen, Option.bind_eq_some_iff] at h
  obtain ⟨i, ht, h⟩ := h
  split at h <;> (try cases h)
  · rename_i s hk
    cases hx
    exact ⟨.int .i64 s.size, by simp [Builtin.len_, run_underlying ((hT.facts ht).str hk), goInt], .int _ _ _⟩
  · rename_i hk
    cases hx
    exact ⟨.int .i64 0, by simp [Builtin.len_, run_underlying ((hT.facts ht).slice hk), goInt], .int _ _ _⟩
  · rename_i e u xs hk
    obtain ⟨a, cap, rfl, _⟩ := hx.slice_form
    exact ⟨.int .i64 xs.length, by simp [Builtin.len_, run_underlying ((hT.facts ht).slice hk), goInt], .int _ _ _⟩
  · rename_i e u xs hk
    obtain ⟨a, cap, rfl, _⟩ := hx.clip_tl.slice_form
    exact ⟨.int .i64 xs.length, by simp [Builtin.len_, run_underlying ((hT.facts ht).slice hk), goInt], .int _ _ _⟩
  · rename_i e d e' u xs hk
    obtain ⟨a, cap, rfl, _⟩ := hx.own_tl.slice_form
    exact ⟨.int .i64 xs.length, by simp [Builtin.len_, run_underlying ((hT.facts ht).slice hk), goInt], .int _ _ _⟩
  · rename_i e d e' u xs hk
    cases hx with
    | rowN => exact ⟨.int .i64 0, by simp [Builtin.len_, run_underlying ((hT.facts ht).slice hk), goInt], .int _ _ _⟩
    | row => exact ⟨.int .i64 xs.length, by simp [Builtin.len_, run_underlying ((hT.facts ht).slice hk), goInt], .int _ _ _⟩

theorem Rel.tl_cut {t : Ty} {xs : List t.den} {aa : Option Addr} {cap : Nat} (h : Rel w E (.tl t xs) (.slice aa xs.length cap)) (l h' m : Nat) (h1 : l ≤ h') (h2 : h' ≤ xs.length) (h3 : h' ≤ m) :
    Rel w E (.tl t ((xs.take h').drop l)) (.slice (if m = l then aa else aa.map (·.add (l * t.sz))) (h' - l) (m - l)) := by
  obtain ⟨a', b, o', cap', e, hcap, ha, cv, hc, hr⟩ := h.tl_parts
  cases e
  have hlen : ((xs.take h').drop l).length = h' - l := by simp; omega
  rw [← hlen]
  have hget : ∀ i x, ((xs.take h').drop l)[i]? = some x → xs[l + i]? = some x := by
    intro i x hx
    rw [List.getElem?_drop, List.getElem?_take] at hx
    split at hx
    · exact hx
    · cases hx
  refine .tl _ _ _ _ b (o' + l * t.sz) _ (fun i j => cv (l + i) j) (by rw [hlen]; omega) (fun hne => ?_) (fun i x j c hx hj => ?_) fun i x j c hx hj => hr (l + i) x j c (hget i x hx) hj
  · have : h' - l ≠ 0 := by rw [← hlen]; intro e; exact hne (List.eq_nil_of_length_eq_zero e)
    have hx : xs ≠ [] := by rintro rfl; simp at h2; omega
    rw [if_neg (by omega), ha hx]
    simp [Addr.add_eq]
  · have := hc (l + i) x j c (hget i x hx) hj
    have e : o' + ((l + i) * t.sz + j) = o' + l * t.sz + (i * t.sz + j) := by rw [Nat.add_mul]; omega
    rw [e] at this
    exact this

def RelO (w : World) (E : Env) : Option AV → Option Value → Prop
  | none, none => True
  | some x, some v => Rel w E x v
  | _, _ => False

theorem bound_val {x : Option AV} {d l : Int} {ov : Option Value} (h : abound x d = some l) (hv : RelO w E x ov) :
    (x = none ∧ ov = none ∧ l = d) ∨ (∃ k, ov = some (.int k l) ∧ x = some (.int k l)) := by
  cases x with
  | none => cases ov with
    | none => simp [abound] at h; exact .inl ⟨rfl, rfl, h.symm⟩
    | some _ => exact hv.elim
  | some x => cases ov with
    | none => exact hv.elim
    | some v =>
      cases x <;> simp [abound] at h
      subst h
      cases hv
      exact .inr ⟨_, rfl, rfl⟩

theorem agetO_rel {fr : List AV} {x : Option Operand} {av : Option AV} (hf : RelL w E fr a.tmps) (h : agetO fr x = some av) : RelO w E av (x.map a.eval) := by
  cases x with
  | none => simp [agetO] at h; subst h; trivial
  | some x =>
    simp only [agetO, Option.bind_eq_some_iff] at h
    obtain ⟨y, hy, h⟩ := h
    cases h
    exact aget_rel hf hy

theorem run_sliceBound (k : IntKind) (i : Int) (y : Nat) (code : BoundsCode) (h0 : 0 ≤ i) (h1 : i ≤ y) : (Instr.sliceBound (.int k i) y code).run P w = .ok i.toNat w := by
  simp [Instr.sliceBound, asIntOf, h0, h1]

def BoundIs (ov : Option Value) (d i : Int) : Prop := (ov = none ∧ i = d) ∨ ∃ k, ov = some (.int k i)

theorem bound_is {x : Option AV} {d l : Int} {ov : Option Value} (h : abound x d = some l) (hv : RelO w E x ov) : BoundIs ov d l := by
  rcases bound_val h hv with ⟨rfl, rfl, rfl⟩ | ⟨k, rfl, rfl⟩
  · exact .inl ⟨rfl, rfl⟩
  · exact .inr ⟨k, rfl⟩

theorem run_sliceBounds {b : Bool} {len cap : Nat} {vl vh : Option Value} {l h : Int} (hl : BoundIs vl 0 l) (hh : BoundIs vh len h) (h0 : 0 ≤ l) (h1 : l ≤ h) (h2 : h ≤ cap) :
    (Instr.sliceBounds b len cap vl vh none).run P w = .ok (l.toNat, h.toNat, cap) w := by
  have e : ((h.toNat : Nat) : Int) = h := by omega
  rcases hl with ⟨rfl, rfl⟩ | ⟨k, rfl⟩ <;> rcases hh with ⟨rfl, rfl⟩ | ⟨k', rfl⟩
  · simp [Instr.sliceBounds]
  · simp [Instr.sliceBounds, run_sliceBound k' h cap _ (by omega) h2]
  · have := run_sliceBound (P := P) (w := w) k l len .sliceB h0 h1
    simp [Instr.sliceBounds, this]
  · have := run_sliceBound (P := P) (w := w) k l h.toNat .sliceB h0 (by omega)
    simp [Instr.sliceBounds, run_sliceBound k' h cap _ (by omega) h2, this]

theorem run_sliceBounds3 {len cap : Nat} {k k' : IntKind} {h : Int} (h0 : 0 ≤ h) (h2 : h ≤ cap) :
    (Instr.sliceBounds true len cap none (some (.int k h)) (some (.int k' h))).run P w = .ok (0, h.toNat, h.toNat) w := by
  have := run_sliceBound (P := P) (w := w) k h h.toNat .slice3B h0 (by omega)
  simp [Instr.sliceBounds, run_sliceBound k' h cap _ h0 h2, this]

theorem run_aslice {T : Nat → Option TI} (hT : TOK P T) {t : Nat} {x : AV} {l h m : Option AV} {vx : Value} {vl vh vm : Option Value} (hs : aslice T t x l h m = some r)
    (hx : Rel w E x vx) (hl : RelO w E l vl) (hh : RelO w E h vh) (hm : RelO w E m vm) : ∃ v, (Instr.sliceAt t vx vl vh vm).run P w = .ok v w ∧ Rel w E r v := by
  simp only [aslice, Option.bind_eq_some_iff] at hs
  obtain ⟨i, ht, hs⟩ := hs
  split at hs
  · rename_i s hk
    cases vm with
    | some _ => exact hm.elim
    | none =>
    cases hx
    simp only [Option.bind_eq_some_iff] at hs
    obtain ⟨l', hl', h', hh', hs⟩ := hs
    split at hs
    · rename_i hb
      cases hs
      have hu := (hT.facts ht).str hk
      refine ⟨.string (s.extract l'.toNat h'.toNat), ?_, .str _ _⟩
      have hbd := run_sliceBounds (P := P) (w := w) (b := false) (len := s.size) (cap := s.size) (bound_is hl' hl) (bound_is hh' hh) hb.1 hb.2.1 hb.2.2
      simp [Instr.sliceAt, Instr.slice, run_underlying hu, hbd]
    · cases hs
  · rename_i e hk
    cases vm with
    | some _ => exact hm.elim
    | none =>
    simp only [Option.bind_eq_some_iff] at hs
    obtain ⟨j, he, xs, hxs, l', hl', h', hh', hs⟩ := hs
    split at hs
    · rename_i hb
      cases hs
      have hu := (hT.facts ht).slice hk
      have hsz := run_sizeOf (hT.facts he) w
      have hty := (hT.facts he).tysz
      obtain ⟨htl, _⟩ := elems_le hxs w E vx hx
      obtain ⟨aa, cap, rfl, hcap⟩ := htl.slice_form
      have hcut := htl.tl_cut l'.toNat h'.toNat cap (by omega) (by omega) (by omega)
      rw [hty] at hcut
      refine ⟨_, ?_, hcut.ofClosed rfl fun _ _ _ h => h⟩
      have hbd := run_sliceBounds (P := P) (w := w) (b := true) (len := xs.length) (cap := cap) (bound_is hl' hl) (bound_is hh' hh) hb.1 hb.2.1 (by omega)
      simp [Instr.sliceAt, Instr.slice, run_underlying hu, hsz, hbd]
    · cases hs
  · rename_i e k m' hk
    cases vm with
    | none => exact hm.elim
    | some vm =>
    cases hm
    simp only [Option.bind_eq_some_iff] at hs
    obtain ⟨j, he, xs, hxs, h', hh', hs⟩ := hs
    split at hs
    · rename_i hb
      cases hs
      obtain ⟨hb0, hb1, hb2, hb3, rfl⟩ := hb
      have hu := (hT.facts ht).slice hk
      have hsz := run_sizeOf (hT.facts he) w
      have hty := (hT.facts he).tysz
      obtain ⟨htl, _⟩ := elems_le hxs w E vx hx
      obtain ⟨aa, cap, rfl, hcap⟩ := htl.slice_form
      have hcut := htl.tl_cut 0 h'.toNat h'.toNat (by omega) (by omega) (by omega)
      rw [hty] at hcut
      simp only [List.drop_zero] at hcut
      have hln : (xs.take h'.toNat).length = h'.toNat := by simp; omega
      cases l with
      | some _ => simp at hb1
      | none =>
      cases vl with
      | some _ => exact hl.elim
      | none =>
      refine ⟨_, ?_, .clip _ _ _ (if h'.toNat = 0 then aa else aa.map (·.add (0 * j.sz))) (by rw [hln]; simpa [hln] using hcut)⟩
      rw [hln]
      rcases bound_val hh' hh with ⟨rfl, rfl, rfl⟩ | ⟨k', rfl, rfl⟩
      · simp at hb0
      · have hbd := run_sliceBounds3 (P := P) (w := w) (len := xs.length) (cap := cap) (k := k') (k' := k) hb2 (show h' ≤ (cap : Int) by omega)
        simp [Instr.sliceAt, Instr.slice, run_underlying hu, hsz, hbd]
    · cases hs
  · cases hs
end
end Go.Ai

set_option linter.unusedSimpArgs false
set_option linter.unusedVariables false
namespace Go.Ai
open Go Go.RowKit
section
variable {P : Program} {GL : World → Prop} {B0 : Nat} {ok0 : Bool → Nat → Nat → Prop} {w0 w : World} {E : Env} {used : Nat → Prop} {id : Nat} {o : Oper} {a : Act} {r : AV} {dead' : Nat → Bool}

theorem clL_lget_drop {cs : List AV} {n : Nat} (h : clL cs = true) : clL (cs.drop n) = true := clL_drop _ _ h

/-- A field's place. -/
theorem run_fieldAt {t : TypeId} {i : TI} (h : TIF P t i) {fs : List (Nat × Nat × Bool)} (hk : i.kind = .struct fs) {f : Nat} {g : Nat × Nat × Bool} (hg : lget fs f = some g) (hz : g.2.1 ≠ 0) (b off : Nat) :
    (Instr.fieldAt t (.pointer (some ⟨b, off, none⟩)) f).run P w = .ok (.pointer (some ⟨b, off + g.1, none⟩)) w := by
  obtain ⟨fields, hu, hf⟩ := h.struct hk
  obtain ⟨fd, h1, h2⟩ := fieldsOK_get hf hg
  obtain ⟨ho, ⟨inf, hi, hs⟩, _⟩ := fieldOK_parts h2
  have h1' : fields[f]? = some fd := by simpa using h1
  have hsz : (sizeOf fd.type).run P w = .ok g.2.1 w := by simp [sizeOf, typeInfo, hi, hs]
  simp [Instr.fieldAt, run_underlying hu, h1', Instr.sureAddr, fieldPlace, hsz, hz, Addr.add_eq, ho]

theorem Rel.agg_parts {cs : List AV} {v : Value} (h : Rel w E (.agg cs) v) : ∃ vs : Array Value, v = .agg vs ∧ vs.size = cs.length ∧ (∀ (i : Nat) (v : Value), vs[i]? = some v → v.oneCell' = true) ∧ ∀ i a v, lget cs i = some a → vs[i]? = some v → Rel w E a v := by
  cases h with
  | agg _ _ vs hs h1 h => exact ⟨vs, rfl, hs, h1, h⟩

/-- A field of a value. -/
theorem run_field {t : TypeId} {i : TI} (h : TIF P t i) {fs : List (Nat × Nat × Bool)} (hk : i.kind = .struct fs) {f : Nat} {g : Nat × Nat × Bool} (hg : lget fs f = some g) {cs : List AV} {v : Value}
    (hv : Rel w E (.agg cs) v) (hp : apart g.2.2 g.2.1 g.1 cs = some r) : ∃ u, (Instr.field t v f).run P w = .ok u w ∧ Rel w E r u := by
  obtain ⟨vs, rfl, hs, h1, hr⟩ := hv.agg_parts
  obtain ⟨fields, hu, hf⟩ := h.struct hk
  obtain ⟨fd, h3, h2⟩ := fieldsOK_get hf hg
  obtain ⟨ho, ⟨inf, hi, hsz⟩, hagg⟩ := fieldOK_parts h2
  have h3' : fields[f]? = some fd := by simpa using h3
  have hsz : (sizeOf fd.type).run P w = .ok g.2.1 w := by simp [sizeOf, typeInfo, hi, hsz]
  unfold apart at hp
  cases hb : g.2.2 with
  | true =>
    simp only [hb] at hp
    split at hp
    · rename_i hle
      cases hp
      refine ⟨.agg (vs.extract g.1 (g.1 + g.2.1)), ?_, ?_⟩
      · simp [Instr.field, run_underlying hu, h3', asAgg, part, hagg w, hb, hsz, ho]
      · have hget : ∀ j u, (vs.extract g.1 (g.1 + g.2.1))[j]? = some u → vs[g.1 + j]? = some u ∧ j < g.2.1 := by
          intro j u hj
          rw [Array.getElem?_extract] at hj
          split at hj
          · exact ⟨hj, by omega⟩
          · cases hj
        refine .agg _ _ _ (by simp; omega) (fun j u hj => h1 _ _ (hget j u hj).1) fun j c u hc hj => ?_
        obtain ⟨h4, h5⟩ := hget j u hj
        rw [lget_take, if_pos h5, lget_drop] at hc
        exact hr _ _ _ hc h4
    · cases hp
  | false =>
    simp only [hb] at hp
    have hlt : g.1 < vs.size := by rw [hs]; rw [lget_eq] at hp; exact (List.getElem?_eq_some_iff.1 hp).1
    refine ⟨vs[g.1], ?_, hr _ _ _ hp (by simp [hlt])⟩
    simp [Instr.field, run_underlying hu, h3', asAgg, part, hagg w, hb, ho, hlt]

theorem aparts_rel {fr : List AV} (hf : RelL w E fr a.tmps) : ∀ {ps : List (Nat × Operand)} {l : List (Nat × AV)}, aparts fr ps = some l →
    ∃ vs : List (Nat × Value), ps.map (fun p => (p.1, a.eval p.2)) = vs ∧ vs.length = l.length ∧ ∀ (k : Nat) (i : Nat) (x : AV), l[k]? = some (i, x) → ∃ v, vs[k]? = some (i, v) ∧ Rel w E x v
  | [], l, h => by simp [aparts] at h; subst h; exact ⟨[], rfl, rfl, by simp⟩
  | (i, x) :: ps, l, h => by
    simp only [aparts, Option.bind_eq_some_iff] at h
    obtain ⟨y, hy, ys, hys, h⟩ := h
    cases h
    obtain ⟨vs, h1, h2, h3⟩ := aparts_rel hf hys
    refine ⟨(i, a.eval x) :: vs, by simp [h1], by simp [h2], fun k j z hz => ?_⟩
    cases k with
    | zero => simp at hz; obtain ⟨rfl, rfl⟩ := hz; exact ⟨_, rfl, aget_rel hf hy⟩
    | succ n => obtain ⟨v, hv, hr⟩ := h3 n j z (by simpa using hz); exact ⟨v, by simpa using hv, hr⟩

/-- The cells of a value that may lie in memory. -/
theorem cells_rel {x : AV} {v : Value} (h : Rel w E x v) (ho : ocells x.cells = true) : v.cells.size = x.cells.length ∧ (∀ (j : Nat) (u : Value), v.cells[j]? = some u → u.oneCell' = true) ∧
    ∀ j c u, lget x.cells j = some c → v.cells[j]? = some u → Rel w E c u := by
  have one : ∀ (x : AV) (v : Value), Rel w E x v → x.cells = [x] → v.oneCell' = true → v.cells.size = x.cells.length ∧ (∀ (j : Nat) (u : Value), v.cells[j]? = some u → u.oneCell' = true) ∧ ∀ j c u, lget x.cells j = some c → v.cells[j]? = some u → Rel w E c u := by
    intro x v hx hc hv
    have hvc : v.cells = #[v] := by cases v <;> first | rfl | simp [Value.oneCell'] at hv
    rw [hvc, hc]
    refine ⟨rfl, fun j u hu => ?_, fun j c u hj hu => ?_⟩
    · cases j with
      | zero => simp at hu; subst hu; exact hv
      | succ n => simp at hu
    · cases j with
      | zero => simp [lget] at hj hu; subst hj; subst hu; exact hx
      | succ n => simp [lget] at hj
  cases h with
  | bot => simp [AV.cells, ocells, AV.ocell] at ho
  | agg _ cs vs hs h1 h => exact ⟨hs, h1, h⟩
  | tup => simp [AV.cells, ocells, AV.ocell] at ho
  | box => simp [AV.cells, ocells, AV.ocell] at ho
  | rowN => simp [AV.cells, ocells, AV.ocell] at ho
  | row => simp [AV.cells, ocells, AV.ocell] at ho
  | rel => simp [AV.cells, ocells, AV.ocell] at ho
  | int => exact one _ _ (.int _ _ _) rfl rfl
  | bool => exact one _ _ (.bool _ _) rfl rfl
  | str => exact one _ _ (.str _ _) rfl rfl
  | snil => exact one _ _ (.snil _) rfl rfl
  | tl _ t xs a b o cap cv hcap ha hc hr => exact one _ _ (.tl _ t xs a b o cap cv hcap ha hc hr) rfl rfl
  | clip _ t xs a h => exact one _ _ (.clip _ t xs a h) rfl rfl
  | own _ id e t xs v h ho' =>
    obtain ⟨a, cap, rfl, _⟩ := h.slice_form
    exact one _ _ (.own _ id e t xs _ h ho') rfl rfl
  | eptr _ cs b o cv hcl hc hr => exact one _ _ (.eptr _ cs b o cv hcl hc hr) rfl rfl
  | fn _ f caps vs hs h => exact one _ _ (.fn _ f caps vs hs h) rfl rfl

/-- Abstract cells and cells. -/
def CellsRel (w : World) (E : Env) (cs : List AV) (vs : List Value) : Prop := vs.length = cs.length ∧ (∀ (j : Nat) (u : Value), vs[j]? = some u → u.oneCell' = true) ∧ ∀ j c u, lget cs j = some c → vs[j]? = some u → Rel w E c u

theorem CellsRel.app {cs cs' : List AV} {vs vs' : List Value} (h : CellsRel w E cs vs) (h' : CellsRel w E cs' vs') : CellsRel w E (cs ++ cs') (vs ++ vs') := by
  refine ⟨by simp [h.1, h'.1], fun j u hu => ?_, fun j c u hc hu => ?_⟩
  · rw [List.getElem?_append] at hu
    split at hu
    · exact h.2.1 _ _ hu
    · exact h'.2.1 _ _ hu
  · rw [lget_append] at hc
    rw [List.getElem?_append, h.1] at hu
    split at hc
    · rename_i hlt; rw [if_pos hlt] at hu; exact h.2.2 _ _ _ hc hu
    · rename_i hlt; rw [if_neg hlt] at hu; exact h'.2.2 _ _ _ hc hu
theorem CellsRel.take {cs : List AV} {vs : List Value} (h : CellsRel w E cs vs) (n : Nat) : CellsRel w E (cs.take n) (vs.take n) := by
  refine ⟨by simp [h.1], fun j u hu => ?_, fun j c u hc hu => ?_⟩
  · rw [List.getElem?_take] at hu; split at hu; exact h.2.1 _ _ hu; cases hu
  · rw [List.getElem?_take] at hu; rw [lget_take] at hc; split at hu
    · rename_i hlt; rw [if_pos hlt] at hc; exact h.2.2 _ _ _ hc hu
    · cases hu
theorem CellsRel.drop {cs : List AV} {vs : List Value} (h : CellsRel w E cs vs) (n : Nat) : CellsRel w E (cs.drop n) (vs.drop n) := by
  refine ⟨by simp [h.1], fun j u hu => ?_, fun j c u hc hu => ?_⟩
  · rw [List.getElem?_drop] at hu; exact h.2.1 _ _ hu
  · rw [List.getElem?_drop] at hu; rw [lget_drop] at hc; exact h.2.2 _ _ _ hc hu
theorem CellsRel.of_cells {x : AV} {v : Value} (h : Rel w E x v) (ho : ocells x.cells = true) : CellsRel w E x.cells v.cells.toList := by
  obtain ⟨h1, h2, h3⟩ := cells_rel h ho
  exact ⟨by simpa using h1, fun j u hu => h2 j u (by simpa using hu), fun j c u hc hu => h3 j c u hc (by simpa using hu)⟩

theorem fill_one (off : Nat) : ∀ (vs : List Value) (k : Nat) (cur : Array Value), off + k + vs.length ≤ cur.size →
    ((vs.zipIdx k).foldl (fun cs (p : Value × Nat) => cs.setIfInBounds (off + p.2) p.1) cur).toList = cur.toList.take (off + k) ++ vs ++ cur.toList.drop (off + k + vs.length)
  | [], k, cur, h => by simp
  | v :: vs, k, cur, h => by
    simp only [List.zipIdx_cons, List.foldl_cons]
    rw [fill_one off vs (k + 1) (cur.setIfInBounds (off + k) v) (by simp at h ⊢; omega)]
    simp only [List.length_cons] at h
    apply List.ext_getElem?
    intro j
    simp only [Array.toList_setIfInBounds, List.getElem?_append, List.length_append, List.length_take, List.length_set, Array.length_toList, List.getElem?_take, List.getElem?_drop, List.getElem?_set, List.length_cons, List.getElem?_cons]
    by_cases h1 : j < off + k
    · simp [show j < off + (k + 1) by omega, h1, show min (off + (k + 1)) cur.size = off + (k + 1) by omega, show min (off + k) cur.size = off + k by omega, show j < off + k + vs.length + 1 by omega, show j < off + k + 1 + vs.length by omega, show off + k ≠ j by omega, show j < off + (k + 1) + vs.length by omega, show j < off + k + (vs.length + 1) by omega]
    · by_cases h2 : j = off + k
      · subst h2
        simp [show off + k < off + (k + 1) by omega, show min (off + (k + 1)) cur.size = off + (k + 1) by omega, show min (off + k) cur.size = off + k by omega, show off + k < cur.size by omega, show off + k < off + (k + 1) + vs.length by omega]
      · by_cases h3 : j < off + k + (vs.length + 1)
        · simp [h1, show ¬ j < off + (k + 1) by omega, show min (off + (k + 1)) cur.size = off + (k + 1) by omega, show min (off + k) cur.size = off + k by omega, h3, show j < off + (k + 1) + vs.length by omega, show j - (off + k) ≠ 0 by omega, show j - (off + k) - 1 = j - (off + (k + 1)) by omega]
        · simp [h1, show ¬ j < off + (k + 1) by omega, show min (off + (k + 1)) cur.size = off + (k + 1) by omega, show min (off + k) cur.size = off + k by omega, h3, show ¬ j < off + (k + 1) + vs.length by omega]
          rw [if_neg (by omega)]
          congr 1
          omega
end
end Go.Ai

set_option linter.unusedSimpArgs false
set_option linter.unusedVariables false
namespace Go.Ai
open Go Go.RowKit
section
variable {P : Program} {GL : World → Prop} {B0 : Nat} {ok0 : Bool → Nat → Nat → Prop} {w0 w : World} {E : Env} {used : Nat → Prop} {id : Nat} {o : Oper} {a : Act} {r : AV} {dead' : Nat → Bool}

/-- Parts as they stand beside values. -/
def PartsRel (w : World) (E : Env) (l : List (Nat × AV)) (vs : List (Nat × Value)) : Prop := vs.length = l.length ∧ ∀ (k i : Nat) (x : AV), l[k]? = some (i, x) → ∃ v, vs[k]? = some (i, v) ∧ Rel w E x v

theorem PartsRel.tail {i : Nat} {x : AV} {l : List (Nat × AV)} {vs : List (Nat × Value)} (h : PartsRel w E ((i, x) :: l) vs) : ∃ v ws, vs = (i, v) :: ws ∧ Rel w E x v ∧ PartsRel w E l ws := by
  obtain ⟨h1, h2⟩ := h
  obtain ⟨v, hv, hr⟩ := h2 0 i x rfl
  cases vs with
  | nil => simp at h1
  | cons p ws =>
    simp at hv
    subst hv
    exact ⟨v, ws, rfl, hr, by simpa using h1, fun k j y hy => by simpa using h2 (k + 1) j y (by simpa using hy)⟩

theorem afill_rel {fs : List (Nat × Nat × Bool)} {place : Nat → Option (Nat × Nat)} (hp : ∀ i g, lget fs i = some g → place i = some (g.1, g.2.1)) : ∀ {l : List (Nat × AV)} {cells cells' : List AV} {vs : List (Nat × Value)} {cur : Array Value},
    afill fs cells l = some cells' → PartsRel w E l vs → CellsRel w E cells cur.toList → ∃ cur', Instr.fill place cur vs = some cur' ∧ CellsRel w E cells' cur'.toList
  | [], cells, cells', vs, cur, h, hv, hc => by
    simp [afill] at h
    subst h
    have : vs = [] := List.eq_nil_of_length_eq_zero (by simpa using hv.1)
    subst this
    exact ⟨cur, rfl, hc⟩
  | (i, x) :: l, cells, cells', vs, cur, h, hv, hc => by
    obtain ⟨v, ws, rfl, hx, hv⟩ := hv.tail
    simp only [afill, Option.bind_eq_some_iff] at h
    obtain ⟨g, hg, h⟩ := h
    split at h
    · cases h
    · rename_i hcond
      have hcond : x.cells.length = g.2.1 ∧ g.1 + g.2.1 ≤ cells.length ∧ ocells x.cells = true := by
        refine ⟨?_, ?_, ?_⟩
        · exact Decidable.byContradiction fun e => hcond (.inl e)
        · exact Decidable.byContradiction fun e => hcond (.inr (.inl (by omega)))
        · cases ho : ocells x.cells with
          | true => rfl
          | false => exact absurd (.inr (.inr ho)) hcond
      obtain ⟨h1, h2, h3⟩ := hcond
      have hcr := CellsRel.of_cells hx h3
      have hsz : v.cells.size = g.2.1 := by have := hcr.1; simp at this; omega
      have hcs : cur.size = cells.length := by have := hc.1; simpa using this
      have hfl := fill_one g.1 v.cells.toList 0 cur (by simp; omega)
      simp only [Nat.add_zero, Array.length_toList] at hfl
      have hnew : CellsRel w E (cells.take g.1 ++ x.cells ++ cells.drop (g.1 + g.2.1)) ((v.cells.toList.zipIdx 0).foldl (fun cs (p : Value × Nat) => cs.setIfInBounds (g.1 + p.2) p.1) cur).toList := by
        rw [hfl, hsz]
        exact ((hc.take g.1).app hcr).app (hc.drop _)
      obtain ⟨cur', hf, hr⟩ := afill_rel hp h hv hnew
      refine ⟨cur', ?_, hr⟩
      simp only [Instr.fill, hp i g hg]
      rw [if_neg (by simp [hsz]; omega)]
      rw [← hf]
      congr 1
      rw [← Array.foldl_toList]
      simp

theorem fields_places {P : Program} : ∀ {fields : List Field} {fs : List (Nat × Nat × Bool)}, fieldsOK P fields fs = true →
    ∃ places : List (Nat × Nat), fields.mapM (fun f => (P.info? f.type).map fun i => (f.offset, i.size)) = some places ∧ ∀ i g, lget fs i = some g → places[i]? = some (g.1, g.2.1)
  | [], [], _ => ⟨[], rfl, fun i g h => by simp [lget] at h⟩
  | [], _ :: _, h => by simp [fieldsOK] at h
  | _ :: _, [], h => by simp [fieldsOK] at h
  | fd :: l, g :: m, h => by
    simp only [fieldsOK, Bool.and_eq_true] at h
    obtain ⟨places, h1, h2⟩ := fields_places h.2
    obtain ⟨ho, ⟨inf, hi, hs⟩, _⟩ := fieldOK_parts h.1
    refine ⟨(g.1, g.2.1) :: places, by simp [List.mapM_cons, hi, h1, ho, hs], fun i g' hg => ?_⟩
    cases i with
    | zero => simp [lget] at hg; subst hg; rfl
    | succ n => simpa using h2 n g' (by simpa [lget] using hg)

theorem run_abuild {t : TypeId} {i : TI} (h : TIF P t i) {fs : List (Nat × Nat × Bool)} (hk : i.kind = .struct fs) {l : List (Nat × AV)} {cs : List AV} (hf : afill fs i.zero.cells l = some cs)
    {parts : Array (Nat × Value)} (hp : PartsRel w E l parts.toList) : ∃ v, (Instr.build t parts).run P w = .ok v w ∧ Rel w E (.agg cs) v := by
  obtain ⟨fields, hu, hfo⟩ := h.struct hk
  obtain ⟨places, hpl, hplg⟩ := fields_places hfo
  obtain ⟨inf, z, h1, h2, _, h3, h4, h5, h6⟩ := h.info
  have hz : CellsRel w E i.zero.cells z.cells.toList := by
    refine ⟨by simp [h4, h5], fun j u hu => ?_, fun j c u hc hu => ?_⟩
    · have hlt : j < i.zero.cells.length := by rw [h5, ← h4]; have := (List.getElem?_eq_some_iff.1 hu).1; simpa using this
      exact (h6 j i.zero.cells[j] u (by simp [lget_eq, hlt]) (by simpa using hu)).1
    · exact (h6 j c u hc (by simpa using hu)).2 w E
  obtain ⟨cur', hfill, hr⟩ := afill_rel (place := fun i => places.toArray[i]?) (fun i g hg => by simpa using hplg i g hg) hf hp hz
  refine ⟨.agg cur', run_build w t parts cur' ?_, .agg _ _ _ (by have := hr.1; simpa using this) (fun j u hu => hr.2.1 j u (by simpa using hu)) fun j c u hc hu => hr.2.2 j c u hc (by simpa using hu)⟩
  unfold Program.built
  simp only [h1, hu, h3, hpl]
  exact hfill

theorem dec_cells {t : Ty} {x : AV} {d : t.den} {v : Value} (h : dec t x.cells = some d) (hv : Rel w E x v) :
    v.cells.size = t.sz ∧ ∀ j c, lget (emb t d) j = some c → ∃ u, v.cells[j]? = some u ∧ u.oneCell' = true ∧ Rel w E.closed c u := by
  obtain ⟨hl, hg⟩ := dec_le h
  have one : x.cells = [x] → v.cells.size = t.sz ∧ ∀ j c, lget (emb t d) j = some c → ∃ u, v.cells[j]? = some u ∧ u.oneCell' = true ∧ Rel w E.closed c u := by
    intro hc
    rw [hc] at hl hg
    have hlen : (emb t d).length = 1 := by rw [emb_length]; simpa using hl.symm
    have hone : v.oneCell' = true := by
      obtain ⟨a, ha, hle⟩ := hg 0 (emb t d)[0] (by simp [lget_eq])
      simp [lget] at ha
      subst ha
      exact (hle w E v hv).2
    have hvc : v.cells = #[v] := by cases v <;> first | rfl | simp [Value.oneCell'] at hone
    refine ⟨by rw [hvc]; simpa using hl, fun j c hj => ?_⟩
    obtain ⟨a, ha, hle⟩ := hg j c hj
    cases j with
    | zero => simp [lget] at ha; subst ha; exact ⟨v, by simp [hvc], hone, (hle w E v hv).1⟩
    | succ n => simp [lget] at ha
  cases x with
  | agg cs =>
    obtain ⟨vs, rfl, hs, h1, hr⟩ := hv.agg_parts
    refine ⟨hs.trans hl, fun j c hj => ?_⟩
    obtain ⟨a, ha, hle⟩ := hg j c hj
    have hlt : j < vs.size := by rw [hs]; replace ha : lget cs j = some a := ha; rw [lget_eq] at ha; exact (List.getElem?_eq_some_iff.1 ha).1
    exact ⟨vs[j], by simp [Value.cells, hlt], h1 j _ (by simp [hlt]), (hle w E _ (hr j a _ ha (by simp [hlt]))).1⟩
  | _ => exact one rfl

/-- A slice literal's cells. -/
theorem fill_seq {u : Ty} : ∀ {l : List (Nat × AV)} {xs : List u.den} {k : Nat} {vs : List (Nat × Value)} {cur : Array Value},
    aelems u k l = some xs → PartsRel w E l vs → (k + l.length) * u.sz ≤ cur.size →
    ∃ cur', Instr.fill (fun i => some (i * u.sz, u.sz)) cur vs = some cur' ∧ cur'.size = cur.size ∧ xs.length = l.length ∧ (∀ j, j < k * u.sz → cur'[j]? = cur[j]?) ∧
      ∀ (i : Nat) x j c, xs[i]? = some x → lget (emb u x) j = some c → ∃ v, cur'[(k + i) * u.sz + j]? = some v ∧ v.oneCell' = true ∧ Rel w E.closed c v
  | [], xs, k, vs, cur, h, hv, hc => by
    simp [aelems] at h
    subst h
    have : vs = [] := List.eq_nil_of_length_eq_zero (by simpa using hv.1)
    subst this
    exact ⟨cur, rfl, rfl, rfl, fun _ _ => rfl, by simp⟩
  | (i, x) :: l, xs, k, vs, cur, h, hv, hc => by
    obtain ⟨v, ws, rfl, hx, hv⟩ := hv.tail
    simp only [aelems] at h
    split at h
    · cases h
    · rename_i hik
      have hik : i = k := Decidable.byContradiction hik
      subst hik
      simp only [Option.bind_eq_some_iff] at h
      obtain ⟨d, hd, ds, hds, h⟩ := h
      cases h
      obtain ⟨hsz, hcell⟩ := dec_cells hd hx
      simp only [List.length_cons] at hc
      have hle : (i + 1 + l.length) * u.sz ≤ cur.size := by rw [Nat.add_assoc, Nat.add_comm 1]; exact hc
      have hle1 : i * u.sz + u.sz ≤ cur.size := by
        have : (i + 1) * u.sz ≤ (i + 1 + l.length) * u.sz := Nat.mul_le_mul_right _ (by omega)
        rw [Nat.add_mul, Nat.one_mul] at this
        omega
      have hfl := fill_one (i * u.sz) v.cells.toList 0 cur (by simp [hsz]; omega)
      simp only [Nat.add_zero, Array.length_toList, hsz] at hfl
      generalize hcur1 : (v.cells.toList.zipIdx 0).foldl (fun cs (p : Value × Nat) => cs.setIfInBounds (i * u.sz + p.2) p.1) cur = cur1 at hfl
      have hs1 : cur1.size = cur.size := by
        have := congrArg List.length hfl
        simp [hsz] at this
        omega
      obtain ⟨cur', hf, hs', hln, hlow, hget⟩ := fill_seq hds hv (by rw [hs1]; exact hle)
      refine ⟨cur', ?_, by rw [hs', hs1], by simp [hln], fun j hj => ?_, fun q y j c hy hj => ?_⟩
      · simp only [Instr.fill]
        rw [if_neg (by simp [hsz]; omega), ← hf]
        congr 1
        rw [← hcur1, ← Array.foldl_toList]
        simp
      · have hj' : j < (i + 1) * u.sz := by rw [Nat.add_mul]; omega
        rw [hlow j hj', ← Array.getElem?_toList, hfl, List.append_assoc, List.getElem?_append_left (by simp; omega), List.getElem?_take, if_pos hj, Array.getElem?_toList]
      · cases q with
        | zero =>
          simp at hy
          subst hy
          obtain ⟨z, hz, ho, hr⟩ := hcell j c hj
          have hjlt : j < u.sz := by have := (List.getElem?_eq_some_iff.1 (lget_eq _ _ ▸ hj)).1; rwa [emb_length] at this
          refine ⟨z, ?_, ho, hr⟩
          have hj' : (i + 0) * u.sz + j < (i + 1) * u.sz := by rw [Nat.add_zero, Nat.add_mul]; omega
          rw [hlow _ hj', ← Array.getElem?_toList, hfl, Nat.add_zero]
          rw [List.getElem?_append_left (by simp [hsz]; omega), List.getElem?_append_right (by simp; omega)]
          simp only [List.length_take, Array.length_toList]
          rw [show i * u.sz + j - min (i * u.sz) cur.size = j by omega, Array.getElem?_toList]
          exact hz
        | succ q =>
          obtain ⟨z, hz, ho, hr⟩ := hget q y j c (by simpa using hy) hj
          exact ⟨z, by rw [show i + (q + 1) = i + 1 + q by omega]; exact hz, ho, hr⟩
end
end Go.Ai

set_option linter.unusedSimpArgs false
set_option linter.unusedVariables false
namespace Go.Ai
open Go Go.RowKit
section
variable {P : Program} {GL : World → Prop} {B0 : Nat} {ok0 : Bool → Nat → Nat → Prop} {w0 w : World} {E : Env} {used : Nat → Prop} {id : Nat} {o : Oper} {a : Act} {r : AV} {dead' : Nat → Bool}

/-- A new block. -/
def Env.add (E : Env) (kind : Bool) (id b : Nat) (okx : Nat → Prop) : Env :=
  ⟨fun k b' o => E.ok k b' o ∨ (b' = b ∧ okx o), fun i => if i = id then b else E.σ i, fun k i => E.lv k i ∨ (k = kind ∧ i = id), E.dead⟩

theorem cell_alloc_old (w : World) (ob : Obj) {b : Nat} (h : b < w.heap.size) : (w.alloc ob).heap[b]? = w.heap[b]? := heap_alloc_old w ob b h

theorem Mono.add (hi : Inv GL B0 ok0 w0 w E used) (hid : ¬ used id) (ob : Obj) (kind : Bool) (okx : Nat → Prop) : Mono w E (w.alloc ob) (E.add kind id w.heap.size okx) := by
  have hne : ∀ k i, E.lv k i → i ≠ id := fun k i h e => hid (e ▸ hi.lvu k i h)
  have key : ∀ k i, E.lv k i → (E.add kind id w.heap.size okx).lv k i ∧ (E.add kind id w.heap.size okx).σ i = E.σ i ∧ (w.alloc ob).heap[E.σ i]? = w.heap[E.σ i]? ∧ ∀ q o, ¬ E.ok q (E.σ i) o → ¬ (E.add kind id w.heap.size okx).ok q (E.σ i) o := by
    intro k i h
    refine ⟨.inl h, by simp [Env.add, hne k i h], cell_alloc_old w ob (hi.lvb k i h).2, fun q o hq hq' => ?_⟩
    rcases hq' with hq' | ⟨e, _⟩
    · exact hq hq'
    · have := (hi.lvb k i h).2; omega
  exact ⟨fun _ _ _ h => .inl h, fun k b o h => cell_other (cell_alloc_old w ob (hi.okB k b o h)), fun _ h => h, fun i h => key true i h, fun i _ h => key false i h⟩

theorem Inv.add (hi : Inv GL B0 ok0 w0 w E used) (hid : ¬ used id) (ob : Obj) (kind : Bool) (okx : Nat → Prop) (hk : kind = true → ∀ o, ¬ okx o) : Inv GL B0 ok0 w0 (w.alloc ob) (E.add kind id w.heap.size okx) (fun i => used i ∨ i = id) := by
  have hne : ∀ k i, E.lv k i → i ≠ id := fun k i h e => hid (e ▸ hi.lvu k i h)
  have hsz : (w.alloc ob).heap.size = w.heap.size + 1 := by simp
  refine ⟨hi.below.alloc hi.base ob, by rw [hsz]; have := hi.base; omega, fun k b o h => ?_, fun b o h => ?_, fun k i h => ?_, fun k i h => ?_, fun k i k' i' h h' e => ?_, fun i h k o => ?_, fun k b o h => .inl (hi.oke k b o h), fun k b o h => ?_, hi.glo⟩
  · rw [hsz]
    rcases h with h | ⟨rfl, _⟩
    · have := hi.okB k b o h; omega
    · omega
  · rcases h with h | h
    · exact .inl (hi.okm b o h)
    · exact .inr h
  · rcases h with h | ⟨_, rfl⟩
    · exact .inl (hi.lvu k i h)
    · exact .inr rfl
  · rw [hsz]
    rcases h with h | ⟨_, rfl⟩
    · have := hi.lvb k i h
      simp only [Env.add, if_neg (hne k i h)]
      omega
    · simp only [Env.add, if_true]
      have := hi.base
      omega
  · rcases h with h | ⟨rfl, rfl⟩ <;> rcases h' with h' | ⟨rfl, rfl⟩
    · simp only [Env.add, if_neg (hne k i h), if_neg (hne k' i' h')] at e
      exact hi.inj k i k' i' h h' e
    · simp only [Env.add, if_neg (hne k i h), if_true] at e
      have := (hi.lvb k i h).2; omega
    · simp only [Env.add, if_neg (hne k' i' h'), if_true] at e
      have := (hi.lvb k' i' h').2; omega
    · exact ⟨rfl, rfl⟩
  · rcases h with h | ⟨e, rfl⟩
    · simp only [Env.add, if_neg (hne true i h)]
      rintro (h' | ⟨e, _⟩)
      · exact hi.box i h k o h'
      · have := (hi.lvb true i h).2; omega
    · simp only [Env.add, if_true]
      rintro (h' | ⟨_, h'⟩)
      · have := hi.okB _ _ _ h'; omega
      · exact hk e.symm o h'
  · rcases h with h | ⟨rfl, _⟩
    · exact hi.okN k b o h
    · exact .inr hi.base

/-- A new variable. -/
theorem box_new (hi : Inv GL B0 ok0 w0 w E used) (hid : ¬ used id) {cs : List AV} {arr : Array Value} (t : TypeId) (hc : CellsRel w E cs arr.toList) :
    Rel (w.alloc (.cells arr t)) (E.add true id w.heap.size fun _ => False) (.box id 0 cs) (.pointer (some ⟨w.heap.size, 0, none⟩)) := by
  have m := Mono.add hi hid (.cells arr t) true (fun _ => False)
  have := Rel.box (w := w.alloc (.cells arr t)) (E.add true id w.heap.size fun _ => False) id 0 cs arr t (.inr ⟨rfl, rfl⟩) (by simp only [Env.add, if_true]; exact heap_alloc_new w _) (by have := hc.1; simpa using this)
    (fun i v hv => hc.2.1 i v (by simpa using hv)) (fun k o => by
      simp only [Env.add, if_true]
      rintro (h | ⟨_, h⟩)
      · have := hi.okB _ _ _ h; omega
      · exact h) (fun i x v hx hv => (hc.2.2 i x v hx (by simpa using hv)).mono m)
  simpa [Env.add] using this

theorem good_alloc {t : TypeId} {i : TI} (ht : TIF P t i) (hop : o.op = .alloc t) (hi : Inv GL B0 ok0 w0 w E used) (hid : ¬ used id) : Good P GL B0 ok0 w0 w E used id o a (.box id 0 i.zero.cells) E.dead := by
  obtain ⟨inf, z, h1, h2, _, h3, h4, h5, h6⟩ := ht.info
  have hz : CellsRel w E i.zero.cells z.cells.toList := by
    refine ⟨by simp [h4, h5], fun j u hu => ?_, fun j c u hc hu => ?_⟩
    · have hlt : j < i.zero.cells.length := by rw [h5, ← h4]; have := (List.getElem?_eq_some_iff.1 hu).1; simpa using this
      exact (h6 j i.zero.cells[j] u (by simp [lget_eq, hlt]) (by simpa using hu)).1
    · exact (h6 j c u hc (by simpa using hu)).2 w E
  intro K Q hK
  have hr : (execOp a.eval o).run P w = .ok (.value (.pointer (some ⟨w.heap.size, 0, none⟩))) (w.alloc (.cells z.cells t)) := by
    simp [execOp, hop, Instr.alloc, zeroValue, typeInfo, h1, h3, newVar, newRow]
  unfold Oper.wp
  rw [hr]
  exact hK _ _ (E.add true id w.heap.size fun _ => False) rfl (Mono.add hi hid _ _ _) (Inv.add hi hid _ _ _ fun _ _ h => h) (box_new hi hid t (by simpa using hz))

theorem good_box {t : TypeId} {x : Operand} {y : AV} (hop : o.op = .box t x) (hy : Rel w E y (a.eval x)) (hc : ocells y.cells = true) (hi : Inv GL B0 ok0 w0 w E used) (hid : ¬ used id) :
    Good P GL B0 ok0 w0 w E used id o a (.box id 0 y.cells) E.dead := by
  intro K Q hK
  have hr : (execOp a.eval o).run P w = .ok (.value (.pointer (some ⟨w.heap.size, 0, none⟩))) (w.alloc (.cells (a.eval x).cells t)) := by
    simp [execOp, hop, Instr.box, newVar, newRow]
  unfold Oper.wp
  rw [hr]
  exact hK _ _ (E.add true id w.heap.size fun _ => False) rfl (Mono.add hi hid _ _ _) (Inv.add hi hid _ _ _ fun _ _ h => h) (box_new hi hid t (CellsRel.of_cells hy hc))

/-- A new row that holds `xs`, and what lies behind it. -/
theorem own_new (hi : Inv GL B0 ok0 w0 w E used) (hid : ¬ used id) {e : TypeId} {t : Ty} {xs : List t.den} {cur : Array Value} {cap : Nat} (hn : xs.length ≤ cap) (hm : cap ≤ maxLen) (hs : cur.size = cap * t.sz)
    (hc : ∀ (i : Nat) x j c, xs[i]? = some x → lget (emb t x) j = some c → ∃ v, cur[i * t.sz + j]? = some v ∧ v.oneCell' = true ∧ Rel w E.closed c v) :
    Rel (w.alloc (.cells cur e)) (E.add false id w.heap.size fun o => o < xs.length * t.sz) (.own id e t xs) (.slice (some ⟨w.heap.size, 0, none⟩) xs.length cap) := by
  have m := Mono.add hi hid (.cells cur e) false (fun o => o < xs.length * t.sz)
  have hlt : ∀ (i : Nat) x j c, xs[i]? = some x → lget (emb t x) j = some c → i * t.sz + j < xs.length * t.sz := by
    intro i x j c hx hj
    have h1 : i < xs.length := (List.getElem?_eq_some_iff.1 hx).1
    have h2 : j < t.sz := by have := (List.getElem?_eq_some_iff.1 (lget_eq _ _ ▸ hj)).1; rwa [emb_length] at this
    have : (i + 1) * t.sz ≤ xs.length * t.sz := Nat.mul_le_mul_right _ h1
    rw [Nat.add_mul] at this
    omega
  refine .own _ _ _ _ _ _ (.tl _ _ _ _ w.heap.size 0 _ (fun i j => (cur[i * t.sz + j]?).getD undef) hn (fun _ => rfl) (fun i x j c hx hj => ?_) fun i x j c hx hj => ?_) fun _ => ?_
  · obtain ⟨v, h1, h2, h3⟩ := hc i x j c hx hj
    refine ⟨?_, by simp [h1, h2], .inr ⟨rfl, by rw [Nat.zero_add]; exact hlt i x j c hx hj⟩⟩
    rw [Nat.zero_add, cell_of_row _ _ _ _ _ _ (heap_alloc_new w _), h1]
    simp
  · obtain ⟨v, h1, h2, h3⟩ := hc i x j c hx hj
    rw [h1]
    exact h3.mono m.closed
  · refine .inr ⟨.inr ⟨rfl, rfl⟩, ⟨(cur.toList.take (xs.length * t.sz)), ?_⟩, by simp [Env.add, Value.ownBlock], fun k o ho => ?_⟩
    · refine ⟨?_, .inr ⟨w.heap.size, cap, cur, rfl, Nat.zero_le _, heap_alloc_new w _, hn, hm, hs, rfl⟩⟩
      have : xs.length * t.sz ≤ cap * t.sz := Nat.mul_le_mul_right _ hn
      have e1 : cur.toList.length = cap * t.sz := by simpa using hs
      simp only [List.length_take, e1]
      exact Nat.min_eq_left this
    · simp only [Env.add, if_true]
      rintro (h | ⟨_, h⟩)
      · have := hi.okB _ _ _ h; omega
      · omega

theorem good_buildSlice {t e n : Nat} {i j : TI} (hti : TIF P t i) (hk : i.kind = .slice e) (htj : TIF P e j) {ps : Array (Nat × Operand)} (hop : o.op = .buildSlice t n ps) {l : List (Nat × AV)} {vs : List (Nat × Value)}
    (hvs : ps.toList.map (fun p => (p.1, a.eval p.2)) = vs) (hp : PartsRel w E l vs) (hn : l.length = n) (hb : n * j.sz ≤ 16777216) (hb2 : n ≤ 16777216) {xs : List j.ty.den} (hx : aelems j.ty 0 l = some xs)
    (hi : Inv GL B0 ok0 w0 w E used) (hid : ¬ used id) : Good P GL B0 ok0 w0 w E used id o a (.own id e j.ty xs) E.dead := by
  have hu := hti.slice hk
  have hty := htj.tysz
  obtain ⟨inf, z, h1, h2, _, h3, h4, h5, h6⟩ := htj.info
  have hsz := run_sizeOf htj w
  let cur0 : Array Value := (Array.range (n * j.sz)).map fun q => (if n * j.sz = 0 then (#[] : Array Value) else z.cells)[q % (if n * j.sz = 0 then (#[] : Array Value) else z.cells).size]!
  have hc0 : cur0.size = n * j.sz := by simp [cur0]
  obtain ⟨cur', hf, hs', hln, _, hget⟩ := fill_seq (u := j.ty) (cur := cur0) hx hp (by rw [hc0, hty, hn, Nat.zero_add]; exact Nat.le_refl _)
  have hr : (execOp a.eval o).run P w = .ok (.value (.slice (some ⟨w.heap.size, 0, none⟩) n n)) (w.alloc (.cells cur' e)) := by
    have hfill : Instr.fill (fun i => some (i * j.sz, j.sz)) cur0 (ps.toList.map fun p => (p.1, a.eval p.2)) = some cur' := by rw [hvs, ← hty]; exact hf
    simp only [execOp, hop]
    have hb' : ¬ (n * j.sz > 2 ^ 24) := by omega
    have hmap : (ps.map fun (i, x) => (i, a.eval x)).toList = ps.toList.map fun p => (p.1, a.eval p.2) := by simp
    have hz : (zeroValue e).run P w = .ok z w := by simp [zeroValue, typeInfo, h1, h3]
    by_cases h0 : n * j.sz = 0
    · simp only [cur0, if_pos h0] at hfill
      simp only [Instr.buildSlice, Sem.run_bind, run_underlying hu, Result.andThen_ok, hsz, if_neg hb', if_pos h0, Sem.run_pure, hmap, hfill]
      simp [newRow]
    · simp only [cur0, if_neg h0] at hfill
      simp only [Instr.buildSlice, Sem.run_bind, run_underlying hu, Result.andThen_ok, hsz, if_neg hb', if_neg h0, Sem.run_pure, hmap, hz, hfill]
      simp [newRow]
  intro K Q hK
  unfold Oper.wp
  rw [hr]
  have hlen : xs.length = n := by omega
  have hown := own_new (e := e) (t := j.ty) (xs := xs) (cur := cur') (cap := n) hi hid (by omega) (by unfold maxLen; omega) (by rw [hs', hc0, hty]) (fun i x q c h7 h8 => by
    obtain ⟨v, h9, h10, h11⟩ := hget i x q c h7 h8
    exact ⟨v, by simpa using h9, h10, h11⟩)
  rw [hlen] at hown
  exact hK _ _ (E.add false id w.heap.size fun o => o < n * j.ty.sz) rfl (Mono.add hi hid _ false _) (Inv.add hi hid _ false _ (fun h => nomatch h)) hown
end
end Go.Ai

set_option linter.unusedSimpArgs false
set_option linter.unusedVariables false
namespace Go.Ai
open Go Go.RowKit
section
variable {P : Program} {GL : World → Prop} {B0 : Nat} {ok0 : Bool → Nat → Nat → Prop} {w0 w : World} {E : Env} {used : Nat → Prop} {id : Nat} {o : Oper} {a : Act} {r : AV} {dead' : Nat → Bool}

/-- What an append leaves. -/
structure Appended (w w' : World) (e size n : Nat) (v v' : Value) (vals : List Value) (g : Nat) : Prop where
  own : w'.ownsRow 0 e size v' n vals
  blk : v'.ownBlock = some g
  src : v.ownBlock = some g ∨ g = w.heap.size
  lt : g < w'.heap.size
  size : w.heap.size ≤ w'.heap.size
  other : ∀ b, b < w.heap.size → b ≠ g → w'.heap[b]? = w.heap[b]?
  os : w'.os = w.os
  tape : w'.tape = w.tape
  output : w'.output = w.output

theorem run_append_more (t ty e : TypeId) (i : TypeInfo) (z : Value) (size bytes : Nat) (ht : P.underlying t = some (.slice e)) (hi : P.info? e = some i) (hz : i.zero = some z)
    (hsize : i.size = size) (hby : i.bytes = bytes) (hzs : z.cells.size = size) (hsz : 0 < size)
    (v : Value) (n : Nat) (xs : List Value) (hown : w.ownsRow 0 e size v n xs)
    (a : Addr) (m c : Nat) (news : List Value) (hl : news.length = m * size) (hnews : ∀ j u, news[j]? = some u → w.cell? (a.add j) = some u) (h1 : ∀ u ∈ news, u.oneCell' = true)
    (h63 : n + m ≤ 9223372036854775807) (hbytes : (n + m) * bytes ≤ 140737488355328) (hm : 0 < m) :
    ∃ v' w' g, (Builtin.append_ #[t, t] ty #[v, .slice (some a) m c]).run P w = .ok v' w' ∧ Appended w w' e size (n + m) v v' (xs ++ news) g ∧ (∀ b j u, v.ownBlock = some b → xs[j]? = some u → w'.cell? ⟨b, j, none⟩ = some u) ∧ (∃ aa cap, v' = .slice aa (n + m) cap ∧ n + m ≤ cap) := by
  obtain ⟨v', w', hr, hown', hg, hnil⟩ := run_append_own (P := P) w 0 t ty e i z size bytes ht hi hz hsize hby hzs hsz v n xs hown a m c news hl hnews h1 (by unfold maxLen; omega) hbytes (Nat.zero_le _)
  have hform : ∃ aa cap, v' = .slice aa (n + m) cap ∧ n + m ≤ cap := by
    rcases hown'.2 with ⟨rfl, h0⟩ | ⟨g, cap, cur, rfl, _, _, hc, _⟩
    · omega
    · exact ⟨_, cap, rfl, hc⟩
  subst hsize
  subst hby
  have new : ∀ (cap0 : Nat) (cs : Array Value), w' = w.drew.alloc (.cells cs e) → v' = .slice (some ⟨w.heap.size, 0, none⟩) (n + m) cap0 →
      Appended w w' e i.size (n + m) v v' (xs ++ news) w.heap.size ∧ (∀ b j u, v.ownBlock = some b → xs[j]? = some u → w'.cell? ⟨b, j, none⟩ = some u) := by
    intro cap0 cs hw hv
    subst hw
    subst hv
    refine ⟨⟨hown', rfl, .inr rfl, by simp, by simp, fun b hb _ => heap_alloc_old w.drew _ b hb, rfl, rfl, rfl⟩, fun b j u hb hu => ?_⟩
    have hlt := (hown.lt b hb).2
    rw [cell_other (heap_alloc_old w.drew _ b hlt)]
    have := hown.cells hb j u hu
    rwa [Addr.add_eq, Nat.zero_add] at this
  rcases hown.2 with ⟨rfl, rfl⟩ | ⟨g, cap, cur, rfl, hbg, hg', hnc, hcm, hcs, htake⟩
  · have hx : xs = [] := List.eq_nil_of_length_eq_zero (by simpa using hown.1)
    subst hx
    have hr2 := run_append_nil (P := P) w t ty e i z ht hi hz a m c news hl hnews hm (by omega) (by have hb := hbytes; simp only [Nat.zero_add] at hb; omega)
    rw [hr2] at hr
    injection hr with e1 e2
    obtain ⟨h2, h3⟩ := new _ _ e2.symm (by rw [Nat.zero_add]; exact e1.symm)
    exact ⟨v', w', _, hr2.trans (by rw [e1, e2]), h2, h3, hform⟩
  · by_cases hroom : n + m ≤ cap
    · have hfit : n * i.size + news.length ≤ cur.size := by rw [hl, hcs, ← Nat.add_mul]; exact Nat.mul_le_mul_right _ hroom
      have hr2 := run_append_room (P := P) w t ty e i ht hi g n cap cur hg' a m c news hl hnews h1 hroom hfit
      rw [hr2] at hr
      injection hr with e1 e2
      subst e1
      subst e2
      refine ⟨_, _, g, hr2, ⟨hown', rfl, .inl rfl, ?_, by simp, fun b _ hb => setRow_other w g b _ hb, rfl, rfl, rfl⟩, fun b j u hb hu => ?_, hform⟩
      · have := (Array.getElem?_eq_some_iff.1 hg').1; simpa using this
      · simp only [Value.ownBlock, Option.some.injEq] at hb
        subst hb
        have := hown'.cells (g := g) rfl j u (by rw [List.getElem?_append_left (List.getElem?_eq_some_iff.1 hu).1]; exact hu)
        rwa [Addr.add_eq, Nat.zero_add] at this
    · have holds : ∀ j u, xs[j]? = some u → w.cell? ((⟨g, 0, none⟩ : Addr).add j) = some u := hown.cells (g := g) rfl
      have hr2 := run_append_grow (P := P) w t ty e i z ht hi hz ⟨g, 0, none⟩ n cap xs hown.1 holds a m c news hl hnews (by omega) (by omega) (growslice_fits (by omega) hbytes)
      rw [hr2] at hr
      injection hr with e1 e2
      obtain ⟨h2, h3⟩ := new _ _ e2.symm e1.symm
      exact ⟨v', w', _, hr2.trans (by rw [e1, e2]), h2, h3, hform⟩

/-- Behind an append. -/
def Env.app (E : Env) (d : Option Nat) (id : Nat) (bo : Option Nat) (n : Nat) : Env :=
  ⟨fun k b o => E.ok k b o ∨ (bo = some b ∧ o < n), fun i => if i = id then bo.getD 0 else E.σ i,
   fun k i => (E.lv k i ∧ ¬ (k = false ∧ d = some i)) ∨ (k = false ∧ i = id ∧ bo.isSome = true), fun q => if d = some q then true else E.dead q⟩

/-- The data of a row, cell by cell. -/
def flat (sz m : Nat) (cv : Nat → Nat → Value) : List Value := (List.range (m * sz)).map fun q => cv (q / sz) (q % sz)

theorem flat_get {sz m : Nat} {cv : Nat → Nat → Value} (hsz : 0 < sz) {i j : Nat} (hi : i < m) (hj : j < sz) : (flat sz m cv)[i * sz + j]? = some (cv i j) := by
  have hlt : i * sz + j < m * sz := by
    have : (i + 1) * sz ≤ m * sz := Nat.mul_le_mul_right _ hi
    rw [Nat.add_mul] at this
    omega
  have h1 : (i * sz + j) / sz = i := by rw [Nat.mul_comm, Nat.mul_add_div hsz, Nat.div_eq_of_lt hj]; omega
  have h2 : (i * sz + j) % sz = j := by rw [Nat.mul_comm, Nat.mul_add_mod, Nat.mod_eq_of_lt hj]
  simp [flat, hlt, h1, h2]
theorem flat_length {sz m : Nat} {cv : Nat → Nat → Value} : (flat sz m cv).length = m * sz := by simp [flat]
theorem flat_all {sz m : Nat} {cv : Nat → Nat → Value} (hsz : 0 < sz) {q : Nat} {u : Value} (h : (flat sz m cv)[q]? = some u) : ∃ i j, i < m ∧ j < sz ∧ q = i * sz + j ∧ u = cv i j := by
  have hlt : q < m * sz := by have := (List.getElem?_eq_some_iff.1 h).1; rwa [flat_length] at this
  refine ⟨q / sz, q % sz, (Nat.div_lt_iff_lt_mul hsz).2 hlt, Nat.mod_lt _ hsz, by rw [Nat.mul_comm]; exact (Nat.div_add_mod _ _).symm, ?_⟩
  simp [flat, hlt] at h
  exact h.symm

theorem lget_emb {t : Ty} (x : t.den) {j : Nat} (hj : j < t.sz) : ∃ c, lget (emb t x) j = some c := by
  have : j < (emb t x).length := by rw [emb_length]; exact hj
  exact ⟨_, by rw [lget_eq]; exact List.getElem?_eq_getElem this⟩

/-- What appends to a row of the call's own, or to nothing, gives. -/
theorem good_append {t e : Nat} {i j : TI} (hti : TIF P t i) (hk : i.kind = .slice e) (htj : TIF P e j) (hsz : 0 < j.sz) {s x : Operand} (hop : o.op = .call { callee := .builtin .append, args := #[s, x], argTypes := #[t, t] })
    {ys zs : List j.ty.den} {vs : Value} {d : Option Nat} (hs : a.eval s = vs) (hys : Rel w E.closed (.tl j.ty ys) vs)
    (hown : vs = .slice none 0 0 ∨ ∃ d', d = some d' ∧ OwnC w E d' e j.ty.sz ys.length vs)
    (hx : Rel w E.closed (.tl j.ty zs) (a.eval x)) (hfit : fits ys.length zs.length j.bytes = true) (hi : Inv GL B0 ok0 w0 w E used) (hid : ¬ used id) :
    Good P GL B0 ok0 w0 w E used id o a (.own id e j.ty (ys ++ zs)) (fun q => if d = some q then true else E.dead q) := by
  have hu := hti.slice hk
  have hty := htj.tysz
  obtain ⟨inf, z, h1, h2, h2b, h3, h4, h5, h6⟩ := htj.info
  simp only [fits, Bool.and_eq_true, decide_eq_true_eq] at hfit
  obtain ⟨hf1, hf2⟩ := hfit
  obtain ⟨ax, bx, ox, capx, hxv, hcapx, hax, cvx, hcx, hrx⟩ := hx.tl_parts
  obtain ⟨ay, by', oy, capy, hyv, hcapy, hay, cvy, hcy, hry⟩ := hys.tl_parts
  have hne : ∀ k i, E.lv k i → i ≠ id := fun k i h e => hid (e ▸ hi.lvu k i h)
  have hrun0 : (execOp a.eval o).run P w = ((Builtin.append_ #[t, t] o.type #[vs, a.eval x]).run P w).andThen fun v w => .ok (.value v) w := by
    simp [execOp, hop, resolve, invoke, builtin, hs]
  intro K Q hK
  unfold Oper.wp
  rw [hrun0]
  by_cases hz0 : zs = []
  · -- nothing is appended
    subst hz0
    simp only [List.append_nil] at hK
    have hrun : (Builtin.append_ #[t, t] o.type #[vs, a.eval x]).run P w = .ok vs w := by
      rw [hxv]
      subst hyv
      have hst : ∀ b : Addr, (storeCells b ([] : List Value)).run P w = .ok () w := fun b => rfl
      have hszr : (sizeOf e).run P w = .ok j.sz w := run_sizeOf htj w
      have hfc : ∀ aa : Option Addr, (Builtin.firstCells j.sz 0 (.slice aa 0 capx)).run P w = .ok #[] w := by
        intro aa
        cases aa with
        | none => rfl
        | some b => simp [Builtin.firstCells, loadCells, loadCellsFrom]
      cases ay with
      | none => simp [Builtin.append_, run_underlying hu, hszr, Builtin.lenOf, hcapy, hfc]
      | some b => simp [Builtin.append_, run_underlying hu, hszr, Builtin.lenOf, hcapy, hfc, hst]
    rw [hrun]
    simp only [Result.andThen_ok, List.append_nil]
    rcases hown with hnil | ⟨d', rfl, hown⟩
    · -- nil stays nil
      have m : Mono w E w { E with dead := fun q => if d = some q then true else E.dead q } := by
        refine ⟨fun _ _ _ h => h, fun _ _ _ _ => rfl, fun q h => ?_, fun _ h => ⟨h, rfl, rfl, fun _ _ h => h⟩, fun q h hl => ⟨hl, rfl, rfl, fun _ _ h => h⟩⟩
        simp only at h
        split at h
        · cases h
        · exact h
      exact hK vs w _ rfl m ⟨hi.below, hi.base, hi.okB, hi.okm, fun k i h => .inl (hi.lvu k i h), hi.lvb, hi.inj, hi.box, hi.oke, hi.okN, hi.glo⟩ (.own _ _ _ _ _ _ (hys.mono m.closed) fun _ => .inl hnil)
    · rcases hown with hnil | ⟨hl, ⟨vals, hrow⟩, hb, hok⟩
      · have m : Mono w E w { E with dead := fun q => if some d' = some q then true else E.dead q } := by
          refine ⟨fun _ _ _ h => h, fun _ _ _ _ => rfl, fun q h => ?_, fun _ h => ⟨h, rfl, rfl, fun _ _ h => h⟩, fun q h hl => ⟨hl, rfl, rfl, fun _ _ h => h⟩⟩
          simp only at h
          split at h
          · cases h
          · exact h
        exact hK vs w _ rfl m ⟨hi.below, hi.base, hi.okB, hi.okm, fun k i h => .inl (hi.lvu k i h), hi.lvb, hi.inj, hi.box, hi.oke, hi.okN, hi.glo⟩ (.own _ _ _ _ _ _ (hys.mono m.closed) fun _ => .inl hnil)
      · -- the row goes over to the new name
        let E' : Env := ⟨E.ok, fun q => if q = id then E.σ d' else E.σ q, fun k q => (E.lv k q ∧ ¬ (k = false ∧ some d' = some q)) ∨ (k = false ∧ q = id), fun q => if some d' = some q then true else E.dead q⟩
        have m : Mono w E w E' := by
          refine ⟨fun _ _ _ h => h, fun _ _ _ _ => rfl, fun q h => ?_, fun q h => ⟨.inl ⟨h, by simp⟩, by simp [E', hne true q h], rfl, fun _ _ h => h⟩, fun q h hl' => ⟨.inl ⟨hl', ?_⟩, by simp [E', hne false q hl'], rfl, fun _ _ h => h⟩⟩
          · simp only [E'] at h
            split at h
            · cases h
            · exact h
          · rintro ⟨_, e⟩
            simp [E', e] at h
        have lvσ : ∀ k q, E'.lv k q → (q ≠ id ∧ E.lv k q ∧ E'.σ q = E.σ q ∧ ¬ (k = false ∧ q = d')) ∨ (k = false ∧ q = id ∧ E'.σ q = E.σ d') := by
          intro k q h
          rcases h with ⟨h, hn⟩ | ⟨h, rfl⟩
          · exact .inl ⟨hne k q h, h, by simp [E', hne k q h], fun ⟨h1, h2⟩ => hn ⟨h1, by rw [h2]⟩⟩
          · exact .inr ⟨h, rfl, by simp [E']⟩
        refine hK vs w E' rfl m ⟨hi.below, hi.base, hi.okB, hi.okm, fun k q h => ?_, fun k q h => ?_, fun k q k' q' h h' e => ?_, fun q h k o => ?_, hi.oke, hi.okN, hi.glo⟩ (.own _ _ _ _ _ _ (hys.mono m.closed) fun _ => .inr ⟨.inr ⟨rfl, rfl⟩, ⟨vals, hrow⟩, by simp [E', hb], fun k o h => by simp only [E', if_true]; exact hok k o h⟩)
        · rcases lvσ k q h with ⟨_, h, _⟩ | ⟨_, rfl, _⟩
          · exact .inl (hi.lvu k q h)
          · exact .inr rfl
        · rcases lvσ k q h with ⟨_, h, e, _⟩ | ⟨_, _, e⟩
          · rw [e]; exact hi.lvb k q h
          · rw [e]; exact hi.lvb false d' hl
        · rcases lvσ k q h with ⟨_, h1, e1, n1⟩ | ⟨rfl, rfl, e1⟩ <;> rcases lvσ k' q' h' with ⟨_, h2, e2, n2⟩ | ⟨rfl, rfl, e2⟩
          · rw [e1, e2] at e; exact hi.inj _ _ _ _ h1 h2 e
          · rw [e1, e2] at e; exact absurd (hi.inj _ _ _ _ h1 hl e) n1
          · rw [e1, e2] at e; exact absurd (hi.inj _ _ _ _ h2 hl e.symm) n2
          · exact ⟨rfl, rfl⟩
        · rcases lvσ true q h with ⟨_, h, e, _⟩ | ⟨h, _, _⟩
          · rw [e]; exact hi.box q h k o
          · cases h
  · -- something is appended
    have hm : 0 < zs.length := List.length_pos_iff.2 hz0
    have hax' := hax hz0
    subst hax'
    rw [hxv]
    have hrow : ∃ vals, w.ownsRow 0 e j.ty.sz vs ys.length vals := by
      rcases hown with rfl | ⟨d', _, hown⟩
      · have hy0 : ys.length = 0 := by injection hyv with _ h _; exact h.symm
        exact ⟨[], by rw [hy0]; exact World.ownsRow_nil w 0 e _⟩
      · rcases hown with rfl | ⟨_, h, _, _⟩
        · have hy0 : ys.length = 0 := by injection hyv with _ h _; exact h.symm
          exact ⟨[], by rw [hy0]; exact World.ownsRow_nil w 0 e _⟩
        · exact h
    obtain ⟨vals, hrow⟩ := hrow
    have htsz : 0 < j.ty.sz := by rw [hty]; exact hsz
    have hnews : ∀ q u, (flat j.ty.sz zs.length cvx)[q]? = some u → w.cell? ((⟨bx, ox, none⟩ : Addr).add q) = some u := by
      intro q u hq
      obtain ⟨i', j', hi', hj', rfl, rfl⟩ := flat_all htsz hq
      obtain ⟨c, hc⟩ := lget_emb (t := j.ty) zs[i'] hj'
      rw [Addr.add_eq]
      exact (hcx i' zs[i'] j' c (by simp [hi']) hc).1
    have hone : ∀ u ∈ flat j.ty.sz zs.length cvx, u.oneCell' = true := by
      intro u hu
      obtain ⟨q, hq⟩ := List.getElem?_of_mem hu
      obtain ⟨i', j', hi', hj', rfl, rfl⟩ := flat_all htsz hq
      obtain ⟨c, hc⟩ := lget_emb (t := j.ty) zs[i'] hj'
      exact (hcx i' zs[i'] j' c (by simp [hi']) hc).2.1
    obtain ⟨v', w', g, hr, hA, hkeep, aa, cap', hv', hcap'⟩ := run_append_more (P := P) t o.type e inf z j.ty.sz j.bytes hu h1 h3 (by rw [h2, hty]) h2b (by rw [h4, hty]) htsz vs ys.length vals hrow ⟨bx, ox, none⟩ zs.length capx
      (flat j.ty.sz zs.length cvx) flat_length hnews hone hf2 hf1 hm
    rw [hr]
    simp only [Result.andThen_ok]
    have hsrc : (∃ d', d = some d' ∧ E.lv false d' ∧ E.σ d' = g ∧ (∀ k o, ys.length * j.ty.sz ≤ o → ¬ E.ok k g o) ∧ vs.ownBlock = some g) ∨ g = w.heap.size := by
      rcases hA.src with hs' | hs'
      · rcases hown with rfl | ⟨d', hd, hown⟩
        · simp [Value.ownBlock] at hs'
        · rcases hown with rfl | ⟨hl, _, hb, hok⟩
          · simp [Value.ownBlock] at hs'
          · rw [hs'] at hb
            injection hb with hb
            exact .inl ⟨d', hd, hl, hb.symm, fun k o h => by rw [hb]; exact hok k o h, hs'⟩
      · exact .inr hs'
    have hgB : B0 ≤ g := by
      rcases hsrc with ⟨d', _, hl, e, _⟩ | e
      · rw [← e]; exact (hi.lvb _ _ hl).1
      · rw [e]; exact hi.base
    have hσg : ∀ k q, E.lv k q → ¬ (k = false ∧ d = some q) → E.σ q ≠ g := by
      intro k q hl hn e
      rcases hsrc with ⟨d', hd, hl', e', _⟩ | e'
      · obtain ⟨h1, h2⟩ := hi.inj k q false d' hl hl' (by rw [e, e'])
        exact hn ⟨h1, by rw [hd, h2]⟩
      · have := (hi.lvb k q hl).2; omega
    have hheap : ∀ k q, E.lv k q → ¬ (k = false ∧ d = some q) → w'.heap[E.σ q]? = w.heap[E.σ q]? := fun k q hl hn => hA.other _ (hi.lvb k q hl).2 (hσg k q hl hn)
    have hval : ∀ b q, vs.ownBlock = some b → q < ys.length * j.ty.sz → ∃ u, vals[q]? = some u ∧ w.cell? ⟨b, q, none⟩ = some u := by
      intro b q hb hq
      have hlen : q < vals.length := by rw [hrow.1]; exact hq
      refine ⟨vals[q], by simp [hlen], ?_⟩
      have := hrow.cells hb q vals[q] (by simp [hlen])
      rwa [Addr.add_eq, Nat.zero_add] at this
    let E' : Env := E.app d id (some g) ((ys.length + zs.length) * j.ty.sz)
    have hσ' : ∀ k q, E.lv k q → E'.σ q = E.σ q := fun k q hl => by simp [E', Env.app, hne k q hl]
    have m : Mono w E w' E' := by
      refine ⟨fun _ _ _ h => .inl h, fun k b o' h => ?_, fun q h => ?_, fun q h => ⟨.inl ⟨h, by simp⟩, hσ' true q h, hheap true q h (by simp), fun k o' h' => ?_⟩, fun q h hl => ?_⟩
      · have hb := hi.okB k b o' h
        by_cases hbg : b = g
        · subst hbg
          rcases hsrc with ⟨d', _, _, _, hok, hvb⟩ | e
          · have hlt : o' < ys.length * j.ty.sz := Decidable.byContradiction fun hge => hok k o' (by omega) h
            obtain ⟨u, hu1, hu2⟩ := hval _ _ hvb hlt
            rw [hkeep _ _ u hvb hu1, hu2]
          · omega
        · exact cell_other (hA.other b hb hbg)
      · simp only [E', Env.app] at h
        split at h
        · cases h
        · exact h
      · rintro (h'' | ⟨e, _⟩)
        · exact h' h''
        · injection e with e; exact hσg true q h (by simp) e.symm
      · have hdq : d ≠ some q := by
          intro e
          simp [E', Env.app, e] at h
        refine ⟨.inl ⟨hl, fun hh => hdq hh.2⟩, hσ' false q hl, hheap false q hl fun hh => hdq hh.2, fun k o' h' => ?_⟩
        rintro (h'' | ⟨e, _⟩)
        · exact h' h''
        · injection e with e; exact hσg false q hl (fun hh => hdq hh.2) e.symm
    have lvσ : ∀ k q, E'.lv k q → (E.lv k q ∧ E'.σ q = E.σ q ∧ E.σ q ≠ g) ∨ (k = false ∧ q = id ∧ E'.σ q = g) := by
      intro k q h
      rcases h with ⟨h, hn⟩ | ⟨h, rfl, _⟩
      · exact .inl ⟨h, hσ' k q h, hσg k q h hn⟩
      · exact .inr ⟨h, rfl, by simp [E', Env.app]⟩
    have hinv : Inv GL B0 ok0 w0 w' E' (fun i => used i ∨ i = id) := by
      refine ⟨hi.below.trans ⟨hA.os, hA.tape, hA.output, hA.size, fun k hk => hA.other k (by have := hi.base; omega) (by omega)⟩, by have := hi.base; have := hA.size; omega, fun k b o' h => ?_, fun b o' h => ?_, fun k q h => ?_, fun k q h => ?_, fun k q k' q' h h' e => ?_, fun q h k o' => ?_, fun k b o' h => .inl (hi.oke k b o' h), fun k b o' h => ?_, hi.glo⟩
      · rcases h with h | ⟨e, _⟩
        · have := hi.okB k b o' h; have := hA.size; omega
        · injection e with e; subst e; exact hA.lt
      · rcases h with h | h
        · exact .inl (hi.okm b o' h)
        · exact .inr h
      · rcases lvσ k q h with ⟨h, _⟩ | ⟨_, rfl, _⟩
        · exact .inl (hi.lvu k q h)
        · exact .inr rfl
      · rcases lvσ k q h with ⟨h, e, _⟩ | ⟨_, _, e⟩
        · rw [e]; have := hi.lvb k q h; have := hA.size; omega
        · rw [e]; exact ⟨hgB, hA.lt⟩
      · rcases lvσ k q h with ⟨h1, e1, n1⟩ | ⟨rfl, rfl, e1⟩ <;> rcases lvσ k' q' h' with ⟨h2, e2, n2⟩ | ⟨rfl, rfl, e2⟩
        · rw [e1, e2] at e; exact hi.inj _ _ _ _ h1 h2 e
        · rw [e1, e2] at e; exact absurd e n1
        · rw [e1, e2] at e; exact absurd e.symm n2
        · exact ⟨rfl, rfl⟩
      · rcases lvσ true q h with ⟨h, e, n⟩ | ⟨h, _⟩
        · rw [e]
          rintro (h' | ⟨e', _⟩)
          · exact hi.box q h k o' h'
          · injection e' with e'; exact n e'.symm
        · cases h
      · rcases h with h | ⟨e, _⟩
        · exact hi.okN k b o' h
        · injection e with e; subst e; exact .inr hgB
    have hform : ∃ cap2, v' = .slice (some ⟨g, 0, none⟩) (ys.length + zs.length) cap2 ∧ ys.length + zs.length ≤ cap2 := by
      rcases hA.own.2 with ⟨rfl, h0⟩ | ⟨g2, cap2, cur, rfl, _, _, hc, _⟩
      · have := hA.blk; simp [Value.ownBlock] at this
      · have := hA.blk
        simp [Value.ownBlock] at this
        subst this
        exact ⟨cap2, rfl, hc⟩
    obtain ⟨cap2, rfl, hcap2⟩ := hform
    have hcellall : ∀ q u, (vals ++ flat j.ty.sz zs.length cvx)[q]? = some u → w'.cell? ⟨g, q, none⟩ = some u := by
      intro q u hq
      have := hA.own.cells (g := g) rfl q u hq
      rwa [Addr.add_eq, Nat.zero_add] at this
    have hlt2 : ∀ (i' : Nat) (x : j.ty.den) (j' : Nat) (c : AV), lget (emb j.ty x) j' = some c → j' < j.ty.sz := by
      intro i' x j' c hc
      have := (List.getElem?_eq_some_iff.1 (lget_eq _ _ ▸ hc)).1
      rwa [emb_length] at this
    have hvalcv : ∀ i' x j' c, ys[i']? = some x → lget (emb j.ty x) j' = some c → vals[i' * j.ty.sz + j']? = some (cvy i' j') := by
      intro i' x j' c hx' hc
      have hi' : i' < ys.length := (List.getElem?_eq_some_iff.1 hx').1
      have hj' := hlt2 i' x j' c hc
      have hq : i' * j.ty.sz + j' < ys.length * j.ty.sz := by
        have : (i' + 1) * j.ty.sz ≤ ys.length * j.ty.sz := Nat.mul_le_mul_right _ hi'
        rw [Nat.add_mul] at this
        omega
      have hay' := hay (by rintro rfl; simp at hi')
      rcases hrow.2 with ⟨e1, h0⟩ | ⟨g0, cap0, cur, e1, _⟩
      · omega
      · have hb0 : vs.ownBlock = some g0 := by rw [e1]; rfl
        obtain ⟨u, hu1, hu2⟩ := hval g0 _ hb0 hq
        rw [hyv, hay'] at e1
        injection e1 with e1 _ _
        injection e1 with e1
        injection e1 with e2 e3 _
        subst e2
        subst e3
        have := (hcy i' x j' c hx' hc).1
        rw [Nat.zero_add, hu2] at this
        rw [hu1]
        exact this
    refine hK _ w' E' rfl m hinv (.own _ _ _ _ _ _ ?_ fun _ => .inr ⟨.inr ⟨rfl, rfl, rfl⟩, ⟨_, by rw [List.length_append]; exact hA.own⟩, by simp [E', Env.app, Value.ownBlock], fun k o' ho' => ?_⟩)
    · have hlen : (ys ++ zs).length = ys.length + zs.length := by simp
      have := Rel.tl (w := w') E'.closed j.ty (ys ++ zs) (some ⟨g, 0, none⟩) g 0 cap2 (fun i' j' => if i' < ys.length then cvy i' j' else cvx (i' - ys.length) j') (by rw [hlen]; exact hcap2) (fun _ => rfl)
        (fun i' x j' c hx' hc => ?_) (fun i' x j' c hx' hc => ?_)
      · rw [hlen] at this; exact this
      · have hj' := hlt2 i' x j' c hc
        have hi' : i' < ys.length + zs.length := by rw [← hlen]; exact (List.getElem?_eq_some_iff.1 hx').1
        have hq : i' * j.ty.sz + j' < (ys.length + zs.length) * j.ty.sz := by
          have h1 : (i' + 1) * j.ty.sz ≤ (ys.length + zs.length) * j.ty.sz := Nat.mul_le_mul_right _ hi'
          have h2 : (i' + 1) * j.ty.sz = i' * j.ty.sz + j.ty.sz := by rw [Nat.add_mul, Nat.one_mul]
          omega
        rw [List.getElem?_append] at hx'
        refine ⟨?_, ?_, .inr ⟨rfl, by rw [Nat.zero_add]; exact hq⟩⟩
        · rw [Nat.zero_add]
          apply hcellall
          split at hx'
          · rename_i hlt
            rw [if_pos hlt, List.getElem?_append_left (by rw [hrow.1]; exact Nat.lt_of_lt_of_le (by rw [Nat.add_mul, Nat.one_mul]; exact Nat.add_lt_add_left hj' _ : i' * j.ty.sz + j' < (i' + 1) * j.ty.sz) (Nat.mul_le_mul_right _ hlt))]
            exact hvalcv i' x j' c hx' hc
          · rename_i hge
            rw [if_neg hge, List.getElem?_append_right (by rw [hrow.1]; exact Nat.le_trans (Nat.mul_le_mul_right _ (by omega : ys.length ≤ i')) (Nat.le_add_right _ _)), hrow.1]
            rw [show i' * j.ty.sz + j' - ys.length * j.ty.sz = (i' - ys.length) * j.ty.sz + j' by rw [Nat.sub_mul]; have : ys.length * j.ty.sz ≤ i' * j.ty.sz := Nat.mul_le_mul_right _ (by omega); omega]
            exact flat_get htsz (by omega) hj'
        · split at hx'
          · rename_i hlt; rw [if_pos hlt]; exact (hcy i' x j' c hx' hc).2.1
          · rename_i hge; rw [if_neg hge]; exact (hcx _ x j' c hx' hc).2.1
      · rw [List.getElem?_append] at hx'
        split at hx'
        · rename_i hlt; rw [if_pos hlt]; exact (hry i' x j' c hx' hc).mono m.closed
        · rename_i hge; rw [if_neg hge]; exact (hrx _ x j' c hx' hc).mono m.closed
    · rw [List.length_append] at ho'
      simp only [E', Env.app, if_true, Option.getD_some]
      rintro (h | ⟨_, h⟩)
      · rcases hsrc with ⟨d', _, _, _, hok, _⟩ | e
        · exact hok k o' (Nat.le_trans (Nat.mul_le_mul_right _ (Nat.le_add_right _ _)) ho') h
        · have := hi.okB _ _ _ h; omega
      · omega
end
end Go.Ai

set_option linter.unusedSimpArgs false
set_option linter.unusedVariables false
namespace Go.Ai
open Go Go.RowKit
section
variable {P : Program} {GL : World → Prop} {B0 : Nat} {ok0 : Bool → Nat → Nat → Prop} {w0 w : World} {E : Env} {used : Nat → Prop} {id : Nat} {o : Oper} {a : Act} {r : AV} {dead' : Nat → Bool}

/-- A new row that is only read. -/
theorem tl_new (hi : Inv GL B0 ok0 w0 w E used) (hid : ¬ used id) {e : TypeId} {t : Ty} {xs : List t.den} {cur : Array Value} {cap : Nat} (hn : xs.length ≤ cap)
    (hc : ∀ (i : Nat) x j c, xs[i]? = some x → lget (emb t x) j = some c → ∃ v, cur[i * t.sz + j]? = some v ∧ v.oneCell' = true ∧ Rel w E.closed c v) :
    Rel (w.alloc (.cells cur e)) (E.add false id w.heap.size fun o => o < xs.length * t.sz) (.tl t xs) (.slice (some ⟨w.heap.size, 0, none⟩) xs.length cap) := by
  have m := Mono.add hi hid (.cells cur e) false (fun o => o < xs.length * t.sz)
  have hlt : ∀ (i : Nat) x j c, xs[i]? = some x → lget (emb t x) j = some c → i * t.sz + j < xs.length * t.sz := by
    intro i x j c hx hj
    have h1 : i < xs.length := (List.getElem?_eq_some_iff.1 hx).1
    have h2 : j < t.sz := by have := (List.getElem?_eq_some_iff.1 (lget_eq _ _ ▸ hj)).1; rwa [emb_length] at this
    have : (i + 1) * t.sz ≤ xs.length * t.sz := Nat.mul_le_mul_right _ h1
    rw [Nat.add_mul] at this
    omega
  refine .tl _ _ _ _ w.heap.size 0 _ (fun i j => (cur[i * t.sz + j]?).getD undef) hn (fun _ => rfl) (fun i x j c hx hj => ?_) fun i x j c hx hj => ?_
  · obtain ⟨v, h1, h2, h3⟩ := hc i x j c hx hj
    refine ⟨?_, by simp [h1, h2], .inr ⟨rfl, by rw [Nat.zero_add]; exact hlt i x j c hx hj⟩⟩
    rw [Nat.zero_add, cell_of_row _ _ _ _ _ _ (heap_alloc_new w _), h1]
    simp
  · obtain ⟨v, h1, h2, h3⟩ := hc i x j c hx hj
    rw [h1]
    exact h3.mono m.closed

theorem Mono.drew (w : World) (E : Env) : Mono w E w.drew E :=
  ⟨fun _ _ _ h => h, fun _ _ _ _ => rfl, fun _ h => h, fun _ h => ⟨h, rfl, rfl, fun _ _ h => h⟩, fun _ _ h => ⟨h, rfl, rfl, fun _ _ h => h⟩⟩
theorem Inv.drew (hi : Inv GL B0 ok0 w0 w E used) : Inv GL B0 ok0 w0 w.drew E used :=
  { hi with below := hi.below.trans ⟨rfl, rfl, rfl, Nat.le_refl _, fun _ _ => rfl⟩ }
theorem Mono.trans {w1 w2 w3 : World} {E1 E2 E3 : Env} (h : Mono w1 E1 w2 E2) (k : Mono w2 E2 w3 E3) : Mono w1 E1 w3 E3 := by
  refine ⟨fun _ _ _ x => k.ok _ _ _ (h.ok _ _ _ x), fun q b o x => (k.cell _ _ _ (h.ok q _ _ x)).trans (h.cell _ _ _ x), fun i x => h.dead _ (k.dead _ x), fun i x => ?_, fun i hd x => ?_⟩
  · obtain ⟨a1, a2, a3, a4⟩ := h.box i x
    obtain ⟨b1, b2, b3, b4⟩ := k.box i a1
    refine ⟨b1, b2.trans a2, ?_, fun q o hq => ?_⟩
    · rw [← a3, ← a2]; exact b3
    · rw [← a2]; exact b4 q o (by rw [a2]; exact a4 q o hq)
  · obtain ⟨a1, a2, a3, a4⟩ := h.own i (k.dead _ hd) x
    obtain ⟨b1, b2, b3, b4⟩ := k.own i hd a1
    refine ⟨b1, b2.trans a2, ?_, fun q o hq => ?_⟩
    · rw [← a3, ← a2]; exact b3
    · rw [← a2]; exact b4 q o (by rw [a2]; exact a4 q o hq)

/-- What appends to a row that has no room gives. -/
theorem good_append_clip {t e : Nat} {i j : TI} (hti : TIF P t i) (hk : i.kind = .slice e) (htj : TIF P e j) (hsz : 0 < j.sz) {s x : Operand} (hop : o.op = .call { callee := .builtin .append, args := #[s, x], argTypes := #[t, t] })
    {ys zs : List j.ty.den} (hys : Rel w E (.clip j.ty ys) (a.eval s))
    (hx : Rel w E.closed (.tl j.ty zs) (a.eval x)) (hfit : fits ys.length zs.length j.bytes = true) (hi : Inv GL B0 ok0 w0 w E used) (hid : ¬ used id) :
    Good P GL B0 ok0 w0 w E used id o a (.tl j.ty (ys ++ zs)) E.dead := by
  have hu := hti.slice hk
  have hty := htj.tysz
  obtain ⟨inf, z, h1, h2, h2b, h3, h4, h5, h6⟩ := htj.info
  simp only [fits, Bool.and_eq_true, decide_eq_true_eq] at hfit
  obtain ⟨hf1, hf2⟩ := hfit
  obtain ⟨ax, bx, ox, capx, hxv, hcapx, hax, cvx, hcx, hrx⟩ := hx.tl_parts
  have hyt := hys.clip_tl
  have hyv : ∃ aa, a.eval s = .slice aa ys.length ys.length := by
    generalize a.eval s = v at hys
    cases hys with
    | clip _ _ _ aa h => exact ⟨aa, rfl⟩
  obtain ⟨aa, hyv⟩ := hyv
  obtain ⟨ay, by', oy, capy, hyv', hcapy, hay, cvy, hcy, hry⟩ := hyt.tl_parts
  rw [hyv] at hyv'
  injection hyv' with e1 e2 e3
  subst e1
  subst e3
  have htsz : 0 < j.ty.sz := by rw [hty]; exact hsz
  have hrun0 : (execOp a.eval o).run P w = ((Builtin.append_ #[t, t] o.type #[.slice aa ys.length ys.length, a.eval x]).run P w).andThen fun v w => .ok (.value v) w := by
    simp [execOp, hop, resolve, invoke, builtin, hyv]
  by_cases hz0 : zs = []
  · subst hz0
    have hrun : (Builtin.append_ #[t, t] o.type #[.slice aa ys.length ys.length, a.eval x]).run P w = .ok (.slice aa ys.length ys.length) w := by
      rw [hxv]
      have hst : ∀ b : Addr, (storeCells b ([] : List Value)).run P w = .ok () w := fun b => rfl
      have hszr : (sizeOf e).run P w = .ok j.sz w := run_sizeOf htj w
      have hfc : ∀ aa : Option Addr, (Builtin.firstCells j.sz 0 (.slice aa 0 capx)).run P w = .ok #[] w := by
        intro aa
        cases aa with
        | none => rfl
        | some b => simp [Builtin.firstCells, loadCells, loadCellsFrom]
      cases aa with
      | none => simp [Builtin.append_, run_underlying hu, hszr, Builtin.lenOf, hfc]
      | some b => simp [Builtin.append_, run_underlying hu, hszr, Builtin.lenOf, hfc, hst]
    rw [List.append_nil]
    refine Good.pure (v := .slice aa ys.length ys.length) (by rw [hrun0, hrun]; rfl) ?_ hi
    rw [hyv] at hyt
    exact hyt.ofClosed rfl fun _ _ _ h => h
  · have hm : 0 < zs.length := List.length_pos_iff.2 hz0
    have hax' := hax hz0
    subst hax'
    have hnews : ∀ (q : Nat) (u : Value), (flat j.ty.sz zs.length cvx)[q]? = some u → w.cell? ((⟨bx, ox, none⟩ : Addr).add q) = some u := by
      intro q u hq
      obtain ⟨i', j', hi', hj', rfl, rfl⟩ := flat_all htsz hq
      obtain ⟨c, hc⟩ := lget_emb (t := j.ty) zs[i'] hj'
      rw [Addr.add_eq]
      exact (hcx i' zs[i'] j' c (by simp [hi']) hc).1
    have holds : ∀ bb oo, aa = some ⟨bb, oo, none⟩ → (ys ≠ [] → bb = by' ∧ oo = oy) → ∀ (q : Nat) (u : Value), (flat j.ty.sz ys.length cvy)[q]? = some u → w.cell? ((⟨bb, oo, none⟩ : Addr).add q) = some u := by
      intro bb oo _ hb q u hq
      obtain ⟨i', j', hi', hj', rfl, rfl⟩ := flat_all htsz hq
      obtain ⟨rfl, rfl⟩ := hb (by rintro rfl; simp at hi')
      obtain ⟨c, hc⟩ := lget_emb (t := j.ty) ys[i'] hj'
      rw [Addr.add_eq]
      exact (hcy i' ys[i'] j' c (by simp [hi']) hc).1
    have hrun : ∃ (cap : Nat) (cur : Array Value), ys.length + zs.length ≤ cap ∧ (Builtin.append_ #[t, t] o.type #[.slice aa ys.length ys.length, a.eval x]).run P w = .ok (.slice (some ⟨w.heap.size, 0, none⟩) (ys.length + zs.length) cap) (w.drew.alloc (.cells cur e)) ∧
        ∀ (q : Nat) (u : Value), (flat j.ty.sz ys.length cvy ++ flat j.ty.sz zs.length cvx)[q]? = some u → cur[q]? = some u := by
      have hgrow : ∀ bb : Addr, aa = some bb → ∃ (cap : Nat) (cur : Array Value), ys.length + zs.length ≤ cap ∧ (Builtin.append_ #[t, t] o.type #[.slice aa ys.length ys.length, a.eval x]).run P w = .ok (.slice (some ⟨w.heap.size, 0, none⟩) (ys.length + zs.length) cap) (w.drew.alloc (.cells cur e)) ∧
        ∀ (q : Nat) (u : Value), (flat j.ty.sz ys.length cvy ++ flat j.ty.sz zs.length cvx)[q]? = some u → cur[q]? = some u := by
        intro bb hbb
        have hgr := run_append_grow (P := P) w t o.type e inf z hu h1 h3 bb ys.length ys.length (flat j.ty.sz ys.length cvy) (by rw [flat_length, h2, hty]) ?_ ⟨bx, ox, none⟩ zs.length capx (flat j.ty.sz zs.length cvx) (by rw [flat_length, h2, hty]) hnews (by omega) (by omega)
          (growslice_fits (by omega) (by rw [h2b]; exact hf1))
        · refine ⟨_, _, grownCap_ge w (ys.length + zs.length) ys.length e, by rw [hxv, hbb]; exact hgr, fun q u hq => ?_⟩
          have hlt := (List.getElem?_eq_some_iff.1 hq).1
          rw [Array.getElem?_append_left (by simpa using hlt), ← Array.getElem?_toList]
          simpa using hq
        · intro q u hq
          obtain ⟨i', j', hi', hj', _, _⟩ := flat_all htsz hq
          have hne : ys ≠ [] := by rintro rfl; simp at hi'
          have := hay hne
          rw [hbb] at this
          injection this with this
          subst this
          exact holds _ _ hbb (fun _ => ⟨rfl, rfl⟩) q u hq
      cases haa : aa with
      | some bb => rw [← haa]; exact hgrow bb haa
      | none =>
        have hy0 : ys = [] := by
          refine Decidable.byContradiction fun hne => ?_
          have := hay hne
          rw [haa] at this
          cases this
        subst hy0
        have hgr := run_append_nil (P := P) w t o.type e inf z hu h1 h3 ⟨bx, ox, none⟩ zs.length capx (flat j.ty.sz zs.length cvx) (by rw [flat_length, h2, hty]) hnews hm (by simp at hf2; omega) (by simp at hf1; rw [h2b]; omega)
        refine ⟨_, _, by simpa using grownCap_ge w zs.length 0 e, by rw [hxv]; simpa using hgr, fun q u hq => ?_⟩
        have hq' : (flat j.ty.sz zs.length cvx)[q]? = some u := by simpa [flat] using hq
        have hlt := (List.getElem?_eq_some_iff.1 hq').1
        rw [Array.getElem?_append_left (by simpa using hlt), ← Array.getElem?_toList]
        simpa using hq'
    obtain ⟨cap, cur, hcap, hrun, hcur⟩ := hrun
    intro K Q hK
    unfold Oper.wp
    rw [hrun0, hrun]
    simp only [Result.andThen_ok]
    have hlen : (ys ++ zs).length = ys.length + zs.length := by simp
    have hid' := hi.drew
    have hnew := tl_new (e := e) (t := j.ty) (xs := ys ++ zs) (cur := cur) (cap := cap) hid' hid (by rw [hlen]; exact hcap) (fun i' x' j' c hx' hc => by
      have hj' : j' < j.ty.sz := by have := (List.getElem?_eq_some_iff.1 (lget_eq _ _ ▸ hc)).1; rwa [emb_length] at this
      rw [List.getElem?_append] at hx'
      split at hx'
      · rename_i hlt
        refine ⟨cvy i' j', hcur _ _ ?_, (hcy i' x' j' c hx' hc).2.1, (hry i' x' j' c hx' hc).mono (Mono.drew w E).closed⟩
        have h := flat_get (cv := cvy) htsz hlt hj'
        rw [List.getElem?_append_left (List.getElem?_eq_some_iff.1 h).1]
        exact h
      · rename_i hge
        have hi' : i' - ys.length < zs.length := (List.getElem?_eq_some_iff.1 hx').1
        refine ⟨cvx (i' - ys.length) j', hcur _ _ ?_, (hcx _ x' j' c hx' hc).2.1, (hrx _ x' j' c hx' hc).mono (Mono.drew w E).closed⟩
        have h := flat_get (cv := cvx) htsz hi' hj'
        have hle : ys.length * j.ty.sz ≤ i' * j.ty.sz := Nat.mul_le_mul_right _ (by omega)
        rw [List.getElem?_append_right (by rw [flat_length]; omega), flat_length, show i' * j.ty.sz + j' - ys.length * j.ty.sz = (i' - ys.length) * j.ty.sz + j' by rw [Nat.sub_mul]; omega]
        exact h)
    rw [hlen] at hnew
    exact hK _ _ (E.add false id w.drew.heap.size fun o => o < (ys.length + zs.length) * j.ty.sz) rfl ((Mono.drew w E).trans (Mono.add hid' hid _ false _)) (Inv.add hid' hid _ false _ (fun h => nomatch h)) hnew
end
end Go.Ai

set_option linter.unusedSimpArgs false
set_option linter.unusedVariables false
namespace Go.Ai
open Go Go.RowKit

/-- What is known of a function: at these arguments it returns this, and what was readable stays as it was. -/
def Contract (P : Program) (GL : World → Prop) (g : FuncId) (args : List AV) (r : AV) : Prop :=
  ∀ (w : World) (ok : Bool → Nat → Nat → Prop) (vs : Array Value), Glo GL w.heap.size w → (∀ k b o, ok k b o → b < w.heap.size) → (∀ b o, ok true b o → ok false b o) →
    RelL w ⟨ok, fun i => i, fun _ _ => False, fun _ => true⟩ args vs →
    (∃ v, (callFunc g vs).run P w = .ok (.value v) w ∧ Rel w ⟨ok, fun i => i, fun _ _ => False, fun _ => true⟩ r v) ∨
    (callFunc g vs).run P w = .ok (.enter g vs) w ∧
    Calls P g vs w fun e w' => ∃ v ok', e = .returned v ∧ Below w.heap.size w w' ∧ (∀ k b o, ok k b o → ok' k b o) ∧ (∀ k b o, ok' k b o → b < w'.heap.size) ∧
      (∀ k b o, ok' k b o → ok k b o ∨ w.heap.size ≤ b) ∧ (∀ b o, ok' true b o → ok' false b o) ∧ Rel w' ⟨ok', fun i => i, fun _ _ => False, fun _ => true⟩ r v

/-- .. it gives a row that nobody else has. -/
def FreshC (P : Program) (GL : World → Prop) (g : FuncId) (args : List AV) (e : Nat) (t : Ty) (xs : List t.den) : Prop :=
  ∀ (w : World) (ok : Bool → Nat → Nat → Prop) (vs : Array Value), Glo GL w.heap.size w → (∀ k b o, ok k b o → b < w.heap.size) → (∀ b o, ok true b o → ok false b o) →
    RelL w ⟨ok, fun i => i, fun _ _ => False, fun _ => true⟩ args vs →
    (callFunc g vs).run P w = .ok (.enter g vs) w ∧ Calls P g vs w fun en w' => ∃ v, en = .returned v ∧ Below w.heap.size w w' ∧ ((v = .slice none 0 0 ∧ xs = []) ∨ ∃ b, w.heap.size ≤ b ∧ b < w'.heap.size ∧
      Rel w' ⟨fun k b' o => ok k b' o ∨ (b' = b ∧ o < xs.length * t.sz), fun i => i, fun _ _ => False, fun _ => true⟩ (.tl t xs) v ∧ (∃ vals, w'.ownsRow 0 e t.sz v xs.length vals) ∧ v.ownBlock = some b)

def CX (P : Program) (GL : World → Prop) (g : FuncId) (args : List AV) (r : AV) : Prop :=
  match r with
  | .own _ e t xs => FreshC P GL g args e t xs
  | r => Contract P GL g args r

theorem CX.contract {P : Program} {GL : World → Prop} {g : FuncId} {args : List AV} {r : AV} (h : CX P GL g args r) (hr : ∀ i e t xs, r ≠ .own i e t xs) : Contract P GL g args r := by
  cases r <;> first | exact h | exact absurd rfl (hr _ _ _ _)
theorem CX.of {P : Program} {GL : World → Prop} {g : FuncId} {args : List AV} {r : AV} (h : Contract P GL g args r) (hr : r.cl = true) : CX P GL g args r := by
  cases r <;> first | exact h | simp [AV.cl] at hr

def OOK (P : Program) (GL : World → Prop) (O : Nat → List AV → Option AV) : Prop := ∀ g as r, O g as = some r → CX P GL g as r

section
variable {P : Program} {GL : World → Prop} {B0 : Nat} {ok0 : Bool → Nat → Nat → Prop} {w0 w : World} {E : Env} {used : Nat → Prop} {id : Nat} {o : Oper} {a : Act} {r : AV} {dead' : Nat → Bool}

/-- What is closed asks nothing of the names. -/
theorem Rel.anyσ {a : AV} {v : Value} (h : Rel w E a v) (hcl : a.cl = true) {E' : Env} (hok : ∀ k b o, E.ok k b o → E'.ok k b o) : Rel w E' a v := h.ofClosed hcl hok

theorem nbL_get : ∀ {l : List AV} {i : Nat} {a : AV}, nbL l = true → lget l i = some a → a.nb = true
  | [], _, _, _, h => by simp [lget] at h
  | x :: l, 0, a, hc, h => by simp [lget] at h; subst h; simp [nbL] at hc; exact hc.1
  | x :: l, n + 1, a, hc, h => by simp [nbL] at hc; exact nbL_get hc.2 (by simpa [lget] using h)

theorem RelL.append {as bs : List AV} {vs us : Array Value} (h : RelL w E as vs) (h' : RelL w E bs us) : RelL w E (as ++ bs) (vs ++ us) := by
  refine ⟨by simp [h.1, h'.1], fun i a v ha hv => ?_⟩
  rw [lget_append] at ha
  rw [Array.getElem?_append] at hv
  rw [h.1] at hv
  split at ha
  · rename_i hlt
    rw [if_pos hlt] at hv
    exact h.2 i a v ha hv
  · rename_i hge
    rw [if_neg hge] at hv
    exact h'.2 _ a v ha hv

/-- A call that gives a row that nobody else has. -/
theorem good_fresh {q e : Nat} {t : Ty} {xs : List t.den} {all : List AV} {vs : Array Value} (hF : FreshC P GL q (escL all) e t xs) (hall : RelL w E all vs) (hnb : nbL all = true) (hr0 : (execOp a.eval o).run P w = (callFunc q vs).run P w) (hi : Inv GL B0 ok0 w0 w E used) (hid : ¬ used id) :
    Good P GL B0 ok0 w0 w E used id o a (.own id e t xs) E.dead := by
  have hargs : RelL w ⟨E.ok, fun i => i, fun _ _ => False, fun _ => true⟩ (escL all) vs := by
    refine ⟨by rw [escL_length]; exact hall.1, fun i x v hx hv => ?_⟩
    rw [lget_escL] at hx
    obtain ⟨y, hy, rfl⟩ := Option.map_eq_some_iff.1 hx
    exact ((hall.2 i y v hy hv).esc_nb (nbL_get hnb hy)).ofClosed (AV.esc_cl y) fun _ _ _ h => h
  obtain ⟨hent, hcalls⟩ := hF w E.ok vs (hi.glo.later hi.below hi.base) hi.okB hi.okm hargs
  intro K Q hK
  unfold Oper.wp
  rw [hr0, hent, Oper.upon_enter]
  refine hcalls.mono fun en w' hh => ?_
  obtain ⟨v, rfl, hb, hh⟩ := hh
  have hsz := hb.size
  have hbase := hi.base
  have hblk : ∀ k, k < w.heap.size → w'.heap[k]? = w.heap[k]? := hb.block
  rcases hh with ⟨rfl, rfl⟩ | ⟨b, hb1, hb2, hrel, ho, hbk⟩
  · have m : Mono w E w' E := ⟨fun _ _ _ h => h, fun k b' o h => cell_other (hblk _ (hi.okB _ _ _ h)), fun _ h => h, fun i h => ⟨h, rfl, hblk _ (hi.lvb _ _ h).2, fun _ _ h => h⟩, fun i _ h => ⟨h, rfl, hblk _ (hi.lvb _ _ h).2, fun _ _ h => h⟩⟩
    refine hK _ w' E rfl m ⟨hi.below.trans ⟨hb.os, hb.tape, hb.output, hsz, fun k hk => hblk k (by omega)⟩, by omega, fun k b o h => by have := hi.okB k b o h; omega, hi.okm, fun k i h => .inl (hi.lvu k i h), fun k i h => by have := hi.lvb k i h; omega, hi.inj, hi.box, hi.oke, hi.okN, hi.glo⟩ (.own _ _ _ _ _ _ ?_ fun _ => .inl rfl)
    exact .tl _ _ [] none 0 0 0 (fun _ _ => undef) (by simp) (fun h => absurd rfl h) (fun i x j c h => by simp at h) fun i x j c h => by simp at h
  have hne : ∀ k i, E.lv k i → i ≠ id := fun k i h e => hid (e ▸ hi.lvu k i h)
  let E' : Env := ⟨fun k b' o => E.ok k b' o ∨ (b' = b ∧ o < xs.length * t.sz), fun i => if i = id then b else E.σ i, fun k i => E.lv k i ∨ (k = false ∧ i = id), E.dead⟩
  have hσ : ∀ k i, E.lv k i → E'.σ i = E.σ i := fun k i h => by simp [E', hne k i h]
  have hno : ∀ k i, E.lv k i → ∀ q o, ¬ E.ok q (E.σ i) o → ¬ E'.ok q (E.σ i) o := by
    rintro k i hl q o hn (h | ⟨h, _⟩)
    · exact hn h
    · have := (hi.lvb k i hl).2; omega
  have m : Mono w E w' E' := by
    refine ⟨fun _ _ _ h => .inl h, fun k b' o h => cell_other (hblk _ (hi.okB _ _ _ h)), fun _ h => h, fun i h => ⟨.inl h, hσ true i h, hblk _ (hi.lvb _ _ h).2, fun q o hq => hno true i h q o hq⟩,
      fun i _ h => ⟨.inl h, hσ false i h, hblk _ (hi.lvb _ _ h).2, fun q o hq => hno false i h q o hq⟩⟩
  have lvσ : ∀ k i, E'.lv k i → (E.lv k i ∧ E'.σ i = E.σ i) ∨ (k = false ∧ i = id ∧ E'.σ i = b) := by
    intro k i h
    rcases h with h | ⟨h, rfl⟩
    · exact .inl ⟨h, hσ k i h⟩
    · exact .inr ⟨h, rfl, by simp [E']⟩
  have hinv : Inv GL B0 ok0 w0 w' E' (fun i => used i ∨ i = id) := by
    refine ⟨hi.below.trans ⟨hb.os, hb.tape, hb.output, hsz, fun k hk => hblk k (by omega)⟩, by omega, fun k b' o h => ?_, fun b' o h => ?_, fun k i h => ?_, fun k i h => ?_, fun k i k' i' h h' e => ?_, fun i h k o => ?_, fun k b' o h => .inl (hi.oke k b' o h), fun k b' o h => ?_, hi.glo⟩
    · rcases h with h | ⟨rfl, _⟩
      · have := hi.okB k b' o h; omega
      · exact hb2
    · rcases h with h | h
      · exact .inl (hi.okm b' o h)
      · exact .inr h
    · rcases lvσ k i h with ⟨h, _⟩ | ⟨_, rfl, _⟩
      · exact .inl (hi.lvu k i h)
      · exact .inr rfl
    · rcases lvσ k i h with ⟨h, e⟩ | ⟨_, _, e⟩
      · rw [e]; have := hi.lvb k i h; omega
      · rw [e]; omega
    · rcases lvσ k i h with ⟨h1, e1⟩ | ⟨rfl, rfl, e1⟩ <;> rcases lvσ k' i' h' with ⟨h2, e2⟩ | ⟨rfl, rfl, e2⟩
      · rw [e1, e2] at e; exact hi.inj _ _ _ _ h1 h2 e
      · rw [e1, e2] at e; have := (hi.lvb _ _ h1).2; omega
      · rw [e1, e2] at e; have := (hi.lvb _ _ h2).2; omega
      · exact ⟨rfl, rfl⟩
    · rcases lvσ true i h with ⟨h, e⟩ | ⟨h, _⟩
      · rw [e]; exact hno true i h k o (hi.box i h k o)
      · cases h
    · rcases h with h | ⟨rfl, _⟩
      · exact hi.okN k b' o h
      · exact .inr (by omega)
  refine hK v w' E' rfl m hinv (.own _ _ _ _ _ _ (hrel.ofClosed rfl fun _ _ _ h => h) fun _ => ?_)
  refine .inr ⟨.inr ⟨rfl, rfl⟩, ho, by simp [E', hbk], fun k o ho' => ?_⟩
  simp only [E', if_true]
  rintro (h | ⟨_, h⟩)
  · have := hi.okB _ _ _ h; omega
  · omega

/-- A call of a known function. -/
theorem good_call {O : Nat → List AV → Option AV} (hO : OOK P GL O) {f : Operand} {xs : Array Operand} {ts : Array TypeId} (hop : o.op = .call { callee := .value f, args := xs, argTypes := ts }) {g : AV} {as : List AV}
    (hg : Rel w E g (a.eval f)) (has : RelL w E as (xs.toList.map a.eval).toArray) (h : acall O id g as = some r) (hi : Inv GL B0 ok0 w0 w E used) (hid : ¬ used id) :
    Good P GL B0 ok0 w0 w E used id o a r E.dead := by
  cases g <;> simp only [acall] at h <;> (try cases h)
  rename_i q caps
  simp only [Option.bind_eq_some_iff] at h
  obtain ⟨r', hr', h⟩ := h
  generalize hfv : a.eval f = fv at hg
  cases hg with
  | fn _ _ _ cvs hs hc =>
  have hcaps : RelL w E caps cvs := ⟨hs, hc⟩
  have hall := has.append hcaps
  let vs : Array Value := (xs.toList.map a.eval).toArray ++ cvs
  have hr0 : (execOp a.eval o).run P w = (callFunc q vs).run P w := by
    simp only [execOp, hop, resolve, hfv, Sem.run_bind]
    have : (Deferred.ofValue (.func (.func q) #[] cvs) (xs.map a.eval)).run P w = .ok { target := .fn (.func q) cvs, args := xs.map a.eval } w := by
      simp [Deferred.ofValue]
    rw [this]
    simp only [Result.andThen_ok, invoke]
    have e : xs.map a.eval ++ cvs = vs := by simp only [vs]; congr 1; apply Array.ext'; simp
    rw [e]
  split at h
  · rename_i i0 e0 t0 xs0
    split at h
    case isFalse => cases h
    rename_i hnb
    cases h
    exact good_fresh (hO _ _ _ hr') hall hnb hr0 hi hid
  rename_i hnown
  split at h
  case isFalse => cases h
  rename_i hcond
  cases h
  have hC : Contract P GL q (escL (as ++ caps)) r := (hO _ _ _ hr').contract fun i e t xs h => hnown i e t xs h
  simp only [Bool.and_eq_true, Bool.or_eq_true] at hcond
  obtain ⟨hcl, hor⟩ := hcond
  -- what the callee may read
  have key : ∃ okc : Bool → Nat → Nat → Prop, (∀ k b o, okc k b o → b < w.heap.size) ∧ (∀ b o, okc true b o → okc false b o) ∧ (∀ k b o, E.ok k b o → okc k b o) ∧ (∀ b o, okc true b o → E.ok true b o) ∧
      ((∀ k b o, okc k b o → E.ok k b o) ∨ r.np = true) ∧ RelL w ⟨okc, fun i => i, fun _ _ => False, fun _ => true⟩ (escL (as ++ caps)) vs := by
    by_cases hnb : nbL (as ++ caps) = true
    · refine ⟨E.ok, hi.okB, hi.okm, fun _ _ _ h => h, fun _ _ h => h, .inl fun _ _ _ h => h, by rw [escL_length]; exact hall.1, fun i x v hx hv => ?_⟩
      rw [lget_escL] at hx
      obtain ⟨y, hy, rfl⟩ := Option.map_eq_some_iff.1 hx
      exact ((hall.2 i y v hy hv).esc_nb (nbL_get hnb hy)).ofClosed (AV.esc_cl y) fun _ _ _ h => h
    · refine ⟨E.call.ok, fun k b o h => ?_, fun b o h => ?_, fun _ _ _ h => .inl h, fun b o h => ?_, .inr (hor.resolve_left hnb), by rw [escL_length]; exact hall.1, fun i x v hx hv => ?_⟩
      · rcases h with h | ⟨_, q, h, rfl⟩
        · exact hi.okB _ _ _ h
        · exact (hi.lvb _ _ h).2
      · rcases h with h | ⟨h, _⟩
        · exact .inl (hi.okm _ _ h)
        · cases h
      · rcases h with h | ⟨h, _⟩
        · exact h
        · cases h
      · rw [lget_escL] at hx
        obtain ⟨y, hy, rfl⟩ := Option.map_eq_some_iff.1 hx
        exact (hall.2 i y v hy hv).esc.ofClosed (AV.esc_cl y) fun _ _ _ h => h
  obtain ⟨okc, k1, k2, k3, k4, k5, k6⟩ := key
  rcases hC w okc vs (hi.glo.later hi.below hi.base) k1 k2 k6 with ⟨v, hval, hrel⟩ | ⟨hent, hcalls⟩
  · refine Good.pure (v := v) (hr0.trans hval) ?_ hi
    rcases k5 with k5 | k5
    · exact hrel.ofClosed hcl k5
    · exact hrel.np hcl k5 k4
  intro K Q hK
  have hr : (execOp a.eval o).run P w = .ok (.enter q vs) w := hr0.trans hent
  unfold Oper.wp
  rw [hr, Oper.upon_enter]
  refine hcalls.mono fun e w' h => ?_
  obtain ⟨v, ok', rfl, hb, h1, h2, h3, h4, h5⟩ := h
  let E' : Env := { E with ok := fun k b o => ok' k b o ∧ (E.ok k b o ∨ w.heap.size ≤ b) }
  have hblk : ∀ k, k < w.heap.size → w'.heap[k]? = w.heap[k]? := hb.block
  have hno : ∀ k i q o, E.lv k i → ¬ E.ok q (E.σ i) o → ¬ E'.ok q (E.σ i) o := by
    rintro k i q o hl hn ⟨_, h | h⟩
    · exact hn h
    · have := (hi.lvb k i hl).2; omega
  have m : Mono w E w' E' := by
    refine ⟨fun k b o h => ⟨h1 _ _ _ (k3 _ _ _ h), .inl h⟩, fun k b o h => cell_other (hblk _ (hi.okB _ _ _ h)), fun _ h => h, fun i h => ⟨h, rfl, hblk _ (hi.lvb _ _ h).2, fun q o hq => hno true i q o h hq⟩,
      fun i _ h => ⟨h, rfl, hblk _ (hi.lvb _ _ h).2, fun q o hq => hno false i q o h hq⟩⟩
  have hinv : Inv GL B0 ok0 w0 w' E' (fun i => used i ∨ i = id) := by
    have hbase := hi.base
    have hsz := hb.size
    refine ⟨hi.below.trans ⟨hb.os, hb.tape, hb.output, hsz, fun k hk => hblk k (by omega)⟩, by omega, fun k b o h => h2 _ _ _ h.1, fun b o h => ⟨h4 _ _ h.1, h.2.imp (hi.okm _ _) (fun h => h)⟩, fun k i h => .inl (hi.lvu k i h),
      fun k i h => ⟨(hi.lvb k i h).1, by have := (hi.lvb k i h).2; show E.σ i < _; omega⟩, hi.inj, fun i h k o => hno true i k o h (hi.box i h k o), fun k b o h => ⟨h1 _ _ _ (k3 _ _ _ (hi.oke _ _ _ h)), .inl (hi.oke _ _ _ h)⟩, fun k b o h => ?_, hi.glo⟩
    rcases h.2 with h | h
    · exact hi.okN k b o h
    · exact .inr (by omega)
  refine hK v w' E' rfl m hinv ?_
  rcases k5 with k5 | k5
  · refine h5.ofClosed hcl fun k b o h => ⟨h, ?_⟩
    exact (h3 _ _ _ h).imp (k5 _ _ _) (fun h => h)
  · refine h5.np hcl k5 fun b o h => ⟨h, ?_⟩
    exact (h3 _ _ _ h).imp (k4 _ _) (fun h => h)
end
end Go.Ai
