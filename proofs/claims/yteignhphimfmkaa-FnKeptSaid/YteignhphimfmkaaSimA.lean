/- An abstract machine for Go programs: values with canonical floats, blocks of cells that are never moved by an append (an append makes a new block and takes the old one out of use), operations in the order of the text. Definitions only; no condition. -/
import Derived.Calls
import Derived.Orders
import Derived.Laws.FloatArith
import Derived.Laws.Cover3
import Derived.Tactics2
import Derived.Below
namespace Go.Proofs.Yteignhphimfmkaa.Sim
open Go Go.RowKit

structure Blk where
  ty : TypeId
  cells : List Value
abbrev Heap := List Blk
abbrev Env := Nat → Value

def upd (e : Env) (d : Nat) (v : Value) : Env := fun i => if i = d then v else e i
def updO (e : Env) (d : Option Nat) (v : Value) : Env := match d with | some d => upd e d v | none => e

def nanOf : FloatKind → Nat
  | .f32 => 2143289344
  | .f64 => 9221120237041090560
/-- The canonical bits of a float. -/
def cf (k : FloatKind) (b : Nat) : Nat := if (k.decode b).isNaN then nanOf k else b
def farith (op : BinOp) (k : FloatKind) (x y : Nat) : Nat := cf k ((floatBits op k x y).getD (nanOf k))
def fcmp (op : BinOp) (k : FloatKind) (x y : Nat) : Bool :=
  match op with
  | .eql => k.format.order x y == some .eq
  | .neq => k.format.order x y != some .eq
  | .lss => k.format.order x y == some .lt
  | .leq => k.format.order x y == some .lt || k.format.order x y == some .eq
  | .gtr => k.format.order x y == some .gt
  | .geq => k.format.order x y == some .gt || k.format.order x y == some .eq
  | _ => false
def isArith : BinOp → Bool | .add | .sub | .mul | .quo => true | _ => false
def isCmp : BinOp → Bool | .eql | .neq | .lss | .leq | .gtr | .geq => true | _ => false
/-- A float of one kind as one of another; 'none': too great. -/
def fconv (s : FloatKind) (b : Nat) (k : FloatKind) : Option Nat :=
  if (s.decode b).isNaN then some (nanOf k) else (floatToFloatBits s b k).map (cf k)
def fmax (isMax : Bool) (k : FloatKind) (x y : Nat) : Nat :=
  match k.format.order x y with
  | none => nanOf k
  | some .lt => if isMax then y else x
  | some .gt => if isMax then x else y
  | some .eq => if isMax then (if (k.decode x).neg then y else x) else (if (k.decode x).neg then x else y)

/-- A value without memory and floats: it is the same in both machines. -/
def rigid : Value → Bool
  | .bool _ | .int _ _ | .string _ => true
  | _ => false
/-- A value that holds no address. -/
def flat : Value → Bool
  | .bool _ | .int _ _ | .string _ | .float _ _ | .complex _ _ _ => true
  | .tuple ⟨vs⟩ => vs.all fun v => match v with | .bool _ | .int _ _ | .string _ | .float _ _ | .complex _ _ _ => true | _ => false
  | .agg ⟨vs⟩ => vs.all fun v => match v with | .bool _ | .int _ _ | .string _ | .float _ _ | .complex _ _ _ => true | _ => false
  | _ => false
def one (v : Value) : Bool := v.oneCell'

def szT (P : Program) (t : TypeId) : Option Nat := if (P.underlying t).isSome then (P.info? t).map (·.size) else none
def byT (P : Program) (t : TypeId) : Option Nat := (P.info? t).map (·.bytes)
/-- A constant that is the same in both machines. -/
def plainC : Value → Bool
  | .bool _ | .int _ _ | .string _ | .pointer none | .nilFunc | .nilIface | .slice none 0 0 => true
  | .float k b => cf k b == b
  | .complex k a b => cf k a == a && cf k b == b
  | _ => false
def plainV : Value → Bool
  | .agg ⟨cs⟩ | .tuple ⟨cs⟩ => cs.all plainC
  | v => plainC v
def cellsOf (v : Value) : List Value := match v with | .agg ⟨cs⟩ => cs | v => [v]
/-- The zero value of a type. -/
def zeroT (P : Program) (t : TypeId) : Option Value := ((P.info? t).bind (·.zero)).bind fun z => if plainV z && (cellsOf z).all one && (szT P t == some (cellsOf z).length) then some z else none
def aggT (P : Program) (t : TypeId) : Bool := match P.underlying t with | some (.struct _) | some (.array _ _) => true | _ => false

/-- What lies at an address, as a value of a type. -/
def ld (P : Program) (h : Heap) (t : TypeId) (a : Value) : Option Value :=
  match a with
  | .pointer (some ⟨b, o, none⟩) =>
    (h[b]?).bind fun B => (szT P t).bind fun n =>
      if aggT P t then (if o + n ≤ B.cells.length then some (.agg ⟨(B.cells.drop o).take n⟩) else none) else B.cells[o]?
  | _ => none
def splice (cs : List Value) (o : Nat) (vs : List Value) : List Value := cs.take o ++ vs ++ cs.drop (o + vs.length)
/-- A store; blocks below 'ro' are read only. -/
def stv (P : Program) (ro : Nat) (h : Heap) (t : TypeId) (a v : Value) : Option Heap :=
  match a with
  | .pointer (some ⟨b, o, none⟩) =>
    if ro ≤ b then (h[b]?).bind fun B =>
      if szT P t = some (cellsOf v).length ∧ o + (cellsOf v).length ≤ B.cells.length ∧ (cellsOf v).all one = true then some (h.set b ⟨B.ty, splice B.cells o (cellsOf v)⟩) else none
    else none
  | _ => none
def fieldOf (P : Program) (s : TypeId) (f : Nat) : Option (Nat × TypeId × Nat) :=
  match P.underlying s with
  | some (.struct fs) => (fs[f]?).bind fun fl => (szT P fl.type).map fun n => (fl.offset, fl.type, n)
  | _ => none
def fadr (P : Program) (s : TypeId) (a : Value) (f : Nat) : Option Value :=
  match a with
  | .pointer (some ⟨b, o, none⟩) => (fieldOf P s f).bind fun q => if q.2.2 = 0 then none else some (.pointer (some ⟨b, o + q.1, none⟩))
  | _ => none
def part' (P : Program) (t : TypeId) (cs : List Value) (o n : Nat) : Option Value :=
  if aggT P t then some (.agg ⟨(cs.drop o).take n⟩) else cs[o]?
def fld (P : Program) (s : TypeId) (x : Value) (f : Nat) : Option Value :=
  match x with
  | .agg ⟨cs⟩ => (fieldOf P s f).bind fun q => part' P q.2.1 cs q.1 q.2.2
  | _ => none
def elemT (P : Program) (t : TypeId) : Option TypeId := match P.underlying t with | some (.slice e) => some e | _ => none
def iadr (P : Program) (t : TypeId) (x i : Value) : Option Value :=
  match i with
  | .int _ n =>
    (match P.underlying t, x with
    | some (.slice e), .slice (some ⟨b, o, none⟩) len _ =>
      if 0 ≤ n ∧ n < (len : Int) then (szT P e).map fun s => .pointer (some ⟨b, o + n.toNat * s, none⟩) else none
    | some (.array len e), .pointer (some ⟨b, o, none⟩) =>
      if 0 ≤ n ∧ n < (len : Int) then (szT P e).map fun s => .pointer (some ⟨b, o + n.toNat * s, none⟩) else none
    | _, _ => none)
  | _ => none
def idx (P : Program) (t : TypeId) (x i : Value) : Option Value :=
  match i with
  | .int _ n =>
    (match P.underlying t, x with
    | some (.array len e), .agg ⟨cs⟩ => if 0 ≤ n ∧ n < (len : Int) then (szT P e).bind fun s => part' P e cs (n.toNat * s) s else none
    | some .string, .string s => if 0 ≤ n then (s[n.toNat]?).map fun b => .int .u8 b.toNat else none
    | _, _ => none)
  | _ => none
/-- A bound of a slice expression. -/
def bnd (x : Option Value) (dflt : Int) : Option Int := match x with | none => some dflt | some (.int _ n) => some n | _ => none
/-- The capacity's mark: 'len' where it is known to be the length, 'len + 1' where it is not known. -/
def slc (P : Program) (ro : Nat) (hp : Heap) (t : TypeId) (x : Value) (lo hi mx : Option Value) : Option Value :=
  match P.underlying t, x with
  | some .string, .string s =>
    if mx.isNone then (bnd lo 0).bind fun l => (bnd hi s.size).bind fun h => if 0 ≤ l ∧ l ≤ h ∧ h ≤ (s.size : Int) then some (.string (s.extract l.toNat h.toNat)) else none
    else none
  | some (.slice e), .slice (some ⟨b, o, none⟩) len cap =>
    (bnd lo 0).bind fun l => (bnd hi len).bind fun h => (bnd mx len).bind fun m => (szT P e).bind fun s =>
      if 0 ≤ l ∧ l ≤ h ∧ h ≤ m ∧ m ≤ (len : Int) ∧ (ro ≤ b → (hp[b]?).map (·.ty) = some e) ∧ (mx.isSome → hi.isSome) then
        some (.slice (some ⟨b, o + l.toNat * s, none⟩) (h - l).toNat (if h = m ∧ (mx.isSome ∨ cap = len) then (h - l).toNat else (h - l).toNat + 1))
      else none
  | some (.slice e), .slice none 0 0 =>
    (bnd lo 0).bind fun l => (bnd hi 0).bind fun h => (szT P e).bind fun _ => if l = 0 ∧ h = 0 ∧ mx.isNone then some (.slice none 0 0) else none
  | _, _ => none

def rowOf (h : Heap) (x : Value) (s : Nat) : Option (List Value) :=
  match x with
  | .slice none 0 0 => some []
  | .slice (some ⟨b, o, none⟩) len _ => (h[b]?).bind fun B => if o + len * s ≤ B.cells.length then some ((B.cells.drop o).take (len * s)) else none
  | _ => none
def lenV (x : Value) : Nat := match x with | .slice _ n _ => n | .string s => s.size | _ => 0
def newsOf (h : Heap) (x : Value) (s : Nat) : Option (List Value) :=
  match x with
  | .string b => some (b.data.toList.map fun c => .int .u8 c.toNat)
  | x => rowOf h x s
/-- append: a new block, and the old one out of use (unless its capacity is known to be its length). -/
def app (P : Program) (ro : Nat) (h : Heap) (t : TypeId) (s x : Value) : Option (Value × Heap) :=
  (elemT P t).bind fun e => (szT P e).bind fun sz => (byT P e).bind fun by_ => (rowOf h s sz).bind fun old => (newsOf h x sz).bind fun new =>
    if sz = 0 ∨ ¬ (zeroT P e).isSome then none else
    if lenV x = 0 then some (s, h) else
    if ¬ ((lenV s + lenV x) * by_ ≤ 140737488355328 ∧ lenV s + lenV x ≤ 9223372036854775807 ∧ new.all one = true ∧ new.length = lenV x * sz) then none else
    match s with
    | .slice none 0 0 => some (.slice (some ⟨h.length, 0, none⟩) (lenV x) (lenV x + 1), h ++ [⟨e, new⟩])
    | .slice (some ⟨b, o, none⟩) len cap =>
      if cap = len then some (.slice (some ⟨h.length, 0, none⟩) (len + lenV x) (len + lenV x + 1), h ++ [⟨e, old ++ new⟩])
      else if ro ≤ b ∧ o = 0 ∧ 0 < len ∧ (h[b]?).map (fun B => (B.ty, B.cells.length)) = some (e, len * sz) then
        some (.slice (some ⟨h.length, 0, none⟩) (len + lenV x) (len + lenV x + 1), h.set b ⟨e, []⟩ ++ [⟨e, old ++ new⟩])
      else none
    | _ => none
def mk (P : Program) (h : Heap) (t : TypeId) (len cap : Value) : Option (Value × Heap) :=
  match len, cap with
  | .int _ l, .int _ c =>
    (elemT P t).bind fun e => (szT P e).bind fun sz => (byT P e).bind fun by_ => (zeroT P e).bind fun z =>
      if 0 ≤ l ∧ l = c ∧ by_ * l ≤ 140737488355328 ∧ l ≤ 9223372036854775807 ∧ sz ≠ 0 then
        some (.slice (some ⟨h.length, 0, none⟩) l.toNat l.toNat, h ++ [⟨e, (List.replicate l.toNat (cellsOf z)).flatten⟩])
      else none
  | _, _ => none
/-- The parts of a literal laid over cells. -/
def lay (place : Nat → Option (Nat × Nat)) : List Value → List (Nat × Value) → Option (List Value)
  | cs, [] => some cs
  | cs, (i, v) :: r =>
    match place i with
    | none => none
    | some (o, n) => if (cellsOf v).length ≠ n ∨ o + n > cs.length then none else lay place (splice cs o (cellsOf v)) r
/-- Where the fields of a struct lie. -/
def placesT (P : Program) (t : TypeId) : Option (List (Nat × Nat)) :=
  match P.underlying t with
  | some (.struct fs) => fs.toList.mapM fun f => (P.info? f.type).map fun i => (f.offset, i.size)
  | _ => none
/-- The size of an array's elements. -/
def arrT (P : Program) (t : TypeId) : Option Nat := match P.underlying t with | some (.array _ e) => (P.info? e).map (·.size) | _ => none
def bld (P : Program) (t : TypeId) (parts : List (Nat × Value)) : Option Value :=
  (zeroT P t).bind fun z =>
    match placesT P t, arrT P t with
    | some pl, _ => (lay (fun i => pl[i]?) (cellsOf z) parts).map fun cs => .agg ⟨cs⟩
    | none, some n => (lay (fun i => some (i * n, n)) (cellsOf z) parts).map fun cs => .agg ⟨cs⟩
    | none, none => none
def bldS (P : Program) (h : Heap) (t : TypeId) (len : Nat) (parts : List (Nat × Value)) : Option (Value × Heap) :=
  (elemT P t).bind fun e => (szT P e).bind fun s => (zeroT P e).bind fun z =>
    if len * s ≤ 16777216 ∧ (parts.all fun q => (cellsOf q.2).all one) = true then
      (lay (fun i => some (i * s, s)) (List.replicate len (cellsOf z)).flatten parts).map fun cs => (.slice (some ⟨h.length, 0, none⟩) len len, h ++ [⟨e, cs⟩])
    else none
def boxV (h : Heap) (t : TypeId) (v : Value) : Option (Value × Heap) :=
  if (cellsOf v).all one then some (.pointer (some ⟨h.length, 0, none⟩), h ++ [⟨t, cellsOf v⟩]) else none

/-- A run that doesn't look at the world. -/
def pure? (P : Program) (s : Sem Value) : Option Value := match s.run P default with | .ok v _ => if rigid v then some v else none | .halt _ _ => none

/-- Structs of numbers: field by field. -/
def eqFs (P : Program) (xs ys : List Value) : List Field → Option Bool
  | [] => some true
  | f :: fs =>
    if f.name ≠ "_" then
      (match P.underlying f.type, xs[f.offset]?, ys[f.offset]? with
      | some (.int _), some (.int k a), some (.int k' b) => if k = k' then (if a = b then eqFs P xs ys fs else some false) else none
      | _, _, _ => none)
    else none
def eqAgg (P : Program) (t : TypeId) (xs ys : List Value) : Option Bool :=
  match P.underlying t with
  | some (.struct fs) => if (!P.stoodInHeld t && !P.eqGuardType P.depth t && aggT P t) = true then eqFs P xs ys fs.toList else none
  | _ => none
def abin (P : Program) (op : BinOp) (t : TypeId) (x y : Value) : Option Value :=
  match x, y with
  | .float k a, .float k' b => if k = k' then (if isArith op then some (.float k (farith op k a b)) else if isCmp op then some (.bool (fcmp op k a b)) else none) else none
  | .complex k a b, .complex k' c d =>
    if k = k' then
      (match op with
      | .add | .sub => some (.complex k (farith op k a c) (farith op k b d))
      | .eql => some (.bool (fcmp .eql k a c && fcmp .eql k b d))
      | .neq => some (.bool !(fcmp .eql k a c && fcmp .eql k b d))
      | _ => none)
    else none
  | .agg ⟨xs⟩, .agg ⟨ys⟩ =>
    (match op with
    | .eql => (eqAgg P t xs ys).map .bool
    | .neq => (eqAgg P t xs ys).map fun b => .bool !b
    | _ => none)
  | x, y => if rigid x && rigid y then pure? P (binOp op t x y) else none
def aun (P : Program) (op : UnOp) (x : Value) : Option Value :=
  match op, x with
  | .neg, .float k a => some (.float k (cf k (Op.negFloat k a)))
  | .neg, .complex k a b => some (.complex k (cf k (Op.negFloat k a)) (cf k (Op.negFloat k b)))
  | op, x => if rigid x then pure? P (Op.unary op x) else none
def byteOf' : Value → Option UInt8 | .int .u8 n => some (UInt8.ofNat n.toNat) | _ => none
def bytesOf : List Value → Option (List UInt8)
  | [] => some []
  | v :: r => (byteOf' v).bind fun b => (bytesOf r).map (b :: ·)
def byteT (P : Program) (e : TypeId) : Bool := match P.underlying e with | some (.int .u8) => true | _ => false
def strT (P : Program) (e : TypeId) : Bool := match P.underlying e with | some .string => true | _ => false
def aconv (P : Program) (h : Heap) (src dst : TypeId) (x : Value) : Option Value :=
  match P.underlying src, P.underlying dst, x with
  | some _, some (.int k), .int _ n => some (.int k (k.wrap n))
  | some _, some (.float k), .int _ n => some (.float k (cf k (k.nearest n)))
  | some _, some (.int k), .float s b => (floatToIntVal s b k).map fun n => .int k n
  | some _, some (.float k), .float s b => (fconv s b k).map fun r => .float k r
  | some _, some (.complex k), .complex s a b => (fconv s a k).bind fun u => (fconv s b k).map fun v => .complex k u v
  | some _, some .string, .int _ n => some (.string (Utf8.encode n))
  | some _, some .string, .string s => some (.string s)
  | some (.slice e), some .string, x => if byteT P e then (rowOf h x 1).bind fun cs => (bytesOf cs).map fun l => .string ⟨⟨l⟩⟩ else none
  | _, _, _ => none
def fold2 (f : Value → Value → Option Value) : Value → List Value → Option Value
  | x, [] => some x
  | x, y :: r => (f x y).bind fun z => fold2 f z r
def mm (isMax : Bool) : Value → Value → Option Value
  | .int k x, .int _ y => some (.int k (if isMax then (if y > x then y else x) else (if y < x then y else x)))
  | .float k x, .float k' y => if k = k' then some (.float k (fmax isMax k x y)) else none
  | _, _ => none
/-- The builtins. -/
def ablt (P : Program) (ro : Nat) (b : Builtin) (ts : List TypeId) (args : List Value) (h : Heap) : Option (Value × Heap) :=
  match b, ts, args with
  | .append, [t, u], [s, x] => if u = t ∨ strT P u = true then app P ro h t s x else none
  | .len, [t], [x] =>
    (match P.underlying t, x with
    | some .string, .string s => some (.int .i64 s.size, h)
    | some (.slice _), .slice _ n _ => some (.int .i64 n, h)
    | some (.array n _), _ => some (.int .i64 n, h)
    | _, _ => none)
  | .real, _, [.complex k a _] => some (.float k a, h)
  | .imag, _, [.complex k _ b] => some (.float k b, h)
  | .complex, _, [.float k a, .float k' b] => if k = k' then some (.complex k a b, h) else none
  | .max, _, x :: r => (fold2 (mm true) x r).map fun v => (v, h)
  | .min, _, x :: r => (fold2 (mm false) x r).map fun v => (v, h)
  | _, _, _ => none

/-- What functions come to: arguments and heap to result and heap. -/
abbrev Fns := FuncId → List Value → Heap → Option (Value × Heap)

def ov (e : Env) : Operand → Value
  | .tmp t => e t
  | .const v => v
  | .global g => .pointer (some ⟨g, 0, none⟩)
  | .func f => .func (.func f) #[] #[]

def callV (C : Fns) (v : Value) (args : List Value) (h : Heap) : Option (Value × Heap) :=
  match v with
  | .func (.func f) ⟨first⟩ ⟨cap⟩ => C f (first ++ args ++ cap) h
  | _ => none

/-- An operation: its value ('undef' where it has none) and the heap behind it. -/
def aop (P : Program) (ro : Nat) (C : Fns) (op : Op) (e : Env) (h : Heap) : Option (Value × Heap) :=
  match op with
  | .move x | .assign x => some (ov e x, h)
  | .pick c a b => match ov e c with | .bool t => some (if t then ov e a else ov e b, h) | _ => none
  | .alloc t => (zeroT P t).bind fun z => boxV h t z
  | .box t x => boxV h t (ov e x)
  | .build t parts => (bld P t (parts.toList.map fun q => (q.1, ov e q.2))).map fun v => (v, h)
  | .buildSlice t len parts => bldS P h t len (parts.toList.map fun q => (q.1, ov e q.2))
  | .load t a => (ld P h t (ov e a)).map fun v => (v, h)
  | .store t a x => (stv P ro h t (ov e a) (ov e x)).map fun h' => (undef, h')
  | .nilCheck x => match ov e x with | .pointer (some a) => some (.pointer (some a), h) | .func (.func f) a b => some (.func (.func f) a b, h) | _ => none
  | .binOp op t x y _ => (abin P op t (ov e x) (ov e y)).map fun v => (v, h)
  | .unOp op _ x => (aun P op (ov e x)).map fun v => (v, h)
  | .convert s d x => (aconv P h s d (ov e x)).map fun v => (v, h)
  | .makeFunc fn first cap => some (.func fn (first.map (ov e)) (cap.map (ov e)), h)
  | .makeSlice t l c => mk P h t (ov e l) (ov e c)
  | .slice t x lo hi mx => (slc P ro h t (ov e x) (lo.map (ov e)) (hi.map (ov e)) (mx.map (ov e))).map fun v => (v, h)
  | .fieldAddr s x f => (fadr P s (ov e x) f).map fun v => (v, h)
  | .field s x f => (fld P s (ov e x) f).map fun v => (v, h)
  | .indexAddr t x i => (iadr P t (ov e x) (ov e i)).map fun v => (v, h)
  | .index t x i => (idx P t (ov e x) (ov e i)).map fun v => (v, h)
  | .extract x i => match ov e x with | .tuple ⟨vs⟩ => (vs[i]?).map fun v => (v, h) | _ => none
  | .call ⟨.builtin b, args, ts⟩ => ablt P ro b ts.toList (args.toList.map (ov e)) h
  | .call ⟨.value f, args, _⟩ => callV C (ov e f) (args.toList.map (ov e)) h
  | _ => none

def wants (ops : Array Oper) (e : Env) (o : Oper) : Bool :=
  match o.guard with
  | none => true
  | some (j, want) => match (ops[j]?).bind (·.dst) with | some d => (match e d with | .bool b => b == want | _ => false) | none => false

def aops (P : Program) (ro : Nat) (C : Fns) (ops : Array Oper) : List Oper → Env → Heap → Option (Env × Heap)
  | [], e, h => some (e, h)
  | o :: r, e, h =>
    if wants ops e o then (aop P ro C o.op e h).bind fun q => aops P ro C ops r (updO e o.dst q.1) q.2
    else aops P ro C ops r (updO e o.dst undef) h

open Classical in
/-- In a region that draws its order calls leave the heap alone. -/
noncomputable def keeps (C : Fns) : Fns := fun f args h => (C f args h).bind fun q => if q.2 = h then some q else none

inductive Ex where
  | normal
  | exit (id : Nat)
  | ret
  deriving DecidableEq

def loopF (body : Env → Heap → Option (Ex × Env × Heap)) : Nat → Env → Heap → Option (Ex × Env × Heap)
  | 0, _, _ => none
  | n + 1, e, h => (body e h).bind fun q => match q.1 with | .normal => loopF body n q.2.1 q.2.2 | x => some (x, q.2)

noncomputable def ev (P : Program) (ro : Nat) (C : Fns) (n : Nat) : Code → Env → Heap → Option (Ex × Env × Heap)
  | .skip, e, h => some (.normal, e, h)
  | .region _ ops draw, e, h => (aops P ro (if draw then keeps C else C) ops ops.toList e h).map fun q => (.normal, q)
  | .seq a b, e, h => (ev P ro C n a e h).bind fun q => match q.1 with | .normal => ev P ro C n b q.2.1 q.2.2 | x => some (x, q.2)
  | .cond c a b, e, h => match ov e c with | .bool true => ev P ro C n a e h | .bool false => ev P ro C n b e h | _ => none
  | .block id c, e, h => (ev P ro C n c e h).map fun q => (if q.1 = .exit id then .normal else q.1, q.2)
  | .loop c, e, h => loopF (ev P ro C n c) n e h
  | .exit id, e, h => some (.exit id, e, h)
  | .ret, e, h => some (.ret, e, h)
  | _, _, _ => none

def resV (P : Program) (e : Env) (h : Heap) : ResultVar → Option Value
  | .tmp t => some (e t)
  | .cell a t => ld P h t (e a)
def allSome : List (Option Value) → Option (List Value)
  | [] => some []
  | none :: _ => none
  | some v :: r => (allSome r).map (v :: ·)
def resT (vs : List Value) : Value := match vs with | [v] => v | vs => .tuple ⟨vs⟩
def entry (args : List Value) : Env := fun i => args.getD i undef
open Classical in
/-- The end of a call: the results; where they hold no address and all that was there is as it was, the callee's own blocks are dropped. -/
noncomputable def fin (P : Program) (fn : Func) (h0 : Heap) (e : Env) (h : Heap) : Option (Value × Heap) :=
  (allSome (fn.results.toList.map (resV P e h))).map fun vs => (resT vs, if flat (resT vs) = true ∧ h.take h0.length = h0 then h0 else h)

end Go.Proofs.Yteignhphimfmkaa.Sim
