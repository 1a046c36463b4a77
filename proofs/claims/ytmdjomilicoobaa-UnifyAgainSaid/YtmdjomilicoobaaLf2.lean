/- A small logic over the kit's calls. Part 2: the state of a call, what its operations come to. -/
import Derived.Test.YtmdjomilicoobaaLf1
import Derived.WalkKit
namespace Go.Lf
open Go

structure St where
  T : Nat → TV
  L : Nat → Option (List Cell)
  σ : Store
  π : Toks

def V.single : V → Bool
  | .any | .agg _ | .tup _ => false
  | .raw u => one u
  | _ => true

/-- A constant's cell. -/
def cellOf : Value → Cell
  | .slice none 0 0 => (.sl [], .nil)
  | v => (.raw v, .no)

def tvOf : Value → TV
  | .agg cs => if cs.toList.all one then .agg (cs.toList.map cellOf) else .val (.raw (.agg cs)) .no
  | .slice none 0 0 => .val (.sl []) .nil
  | v => .val (.raw v) .no

def V.ofValue : Value → V
  | .agg cs => if cs.toList.all one then .agg (cs.toList.map fun c => (cellOf c).1) else .raw (.agg cs)
  | .slice none 0 0 => .sl []
  | v => .raw v

def St.eval (X : St) : Operand → TV
  | .tmp t => X.T t
  | .const v => tvOf v
  | .global _ => .val .any .no
  | .func f => .val (.fn (.func f) [] []) .no

def TV.v? : TV → Option V
  | .val v _ => some v
  | .agg cs => some (.agg (cs.map (·.1)))
  | .lref _ _ => none

def TV.cells? : TV → Option (List Cell)
  | .val (.agg cs) _ => if cs.all V.single then some (cs.map fun c => (c, .no)) else none
  | .val v o => if v.single then some [(v, o)] else none
  | .agg cs => some cs
  | .lref _ _ => none

def TV.agg? : TV → Option (List Cell)
  | .agg cs => some cs
  | .val (.agg cs) _ => if cs.all V.single then some (cs.map fun c => (c, .no)) else none
  | _ => none

/-- The values of several operands. -/
def St.evals (X : St) : List Operand → Option (List V)
  | [] => some []
  | x :: xs => match (X.eval x).v?, X.evals xs with
    | some v, some vs => some (v :: vs)
    | _, _ => none

def upd {α : Type} (f : Nat → α) (k : Nat) (x : α) : Nat → α := fun n => bif Nat.beq n k then x else f n

def St.put (X : St) (d : Option Tmp) (r : TV) : St :=
  match d with
  | none => X
  | some d => { X with T := upd X.T d r }

def setAt (cs : List Cell) (off : Nat) (new : List Cell) : List Cell := cs.take off ++ new ++ cs.drop (off + new.length)

def peek {α : Type} (P : Program) : Sem α → Option α
  | .pure a => some a
  | .program k => peek P (k P)
  | _ => none

section
variable (P : Program)

def agg? (t : TypeId) : Option Bool := match P.underlying t with
  | some (.struct _) | some (.array _ _) => some true
  | some _ => some false
  | none => none

def sz? (t : TypeId) : Option Nat := (P.info? t).map (·.size)

/-- What is read at a place among cells. -/
def readC (t : TypeId) (cs : List Cell) (off : Nat) : Option TV :=
  match agg? P t with
  | some true => match sz? P t with
    | some n => if off + n ≤ cs.length then some (.agg ((cs.drop off).take n)) else none
    | none => none
  | some false => match cs[off]? with
    | some c => some (.val c.1 c.2)
    | none => none
  | none => none

def readV (t : TypeId) (cs : List V) (off : Nat) : Option V :=
  match agg? P t with
  | some true => match sz? P t with
    | some n => if off + n ≤ cs.length then some (.agg ((cs.drop off).take n)) else none
    | none => none
  | some false => cs[off]?
  | none => none

def fillA (place : Nat → Option (Nat × Nat)) (cells : List Cell) : List (Nat × List Cell) → Option (List Cell)
  | [] => some cells
  | (i, new) :: rest =>
    match place i with
    | none => none
    | some (off, size) => if new.length = size ∧ off + new.length ≤ cells.length then fillA place (setAt cells off new) rest else none

def partsOf (X : St) : List (Nat × Operand) → Option (List (Nat × List Cell))
  | [] => some []
  | (i, x) :: rest => match (X.eval x).cells?, partsOf X rest with
    | some cs, some r => some ((i, cs) :: r)
    | _, _ => none

def zeroC (t : TypeId) : Option (List Cell) := match P.info? t with
  | some i => match i.zero with
    | some z => if z.cells.toList.all one then some (z.cells.toList.map cellOf) else none
    | none => none
  | none => none

def chunks (agg : Bool) (size : Nat) : Nat → List Cell → List V
  | 0, _ => []
  | n + 1, cs => (if agg then .agg ((cs.take size).map (·.1)) else ((cs.head?).map (·.1)).getD .any) :: chunks agg size n (cs.drop size)

def repeatL {α : Type} : Nat → List α → List α
  | 0, _ => []
  | n + 1, l => l ++ repeatL n l

/-- What an operation that changes nothing yields. -/
inductive ER where
  | no
  | ok (r : TV)
  | box (cs : List Cell)
  | split (b : Bool) (x y : TV)
  | ex (p : V → Prop) (f : V → TV)
  | rd (l : Nat) (f : Obj → Option TV)

def ER.ofO : Option TV → ER
  | some r => .ok r
  | none => .no

def ER.raw (x : Option Value) : ER := match x with
  | some v => .ok (tvOf v)
  | none => .no

def isPtr : TV → Bool
  | .lref _ _ | .val (.ref _ _) _ | .val (.eptr _ _) _ => true
  | _ => false

def evBin (op : BinOp) (t : TypeId) (ox oy : Operand) (x y : TV) : ER :=
  match x, y with
  | .val (.raw a) _, .val (.raw b) _ => .raw (peek P (do eqGuard op t ox oy a b; binOp op t a b))
  | x, .val (.raw (.pointer none)) _ =>
    match P.underlying t with
    | some (.pointer _) => if isPtr x then (match op with | .eql => .ok (.val (.raw (.bool false)) .no) | .neq => .ok (.val (.raw (.bool true)) .no) | _ => .no) else .no
    | _ => .no
  | _, _ => .no

def evField (t : TypeId) (f : Nat) (cs : List Cell) : ER :=
  match P.underlying t with
  | some (.struct fields) => match fields[f]? with
    | some fd => .ofO (readC P fd.type cs fd.offset)
    | none => .no
  | _ => .no

def foff? (t : TypeId) (f : Nat) : Option Nat := match P.underlying t with
  | some (.struct fields) => match fields[f]? with
    | some fd => match sz? P fd.type with
      | some (_ + 1) => some fd.offset
      | _ => none
    | none => none
  | _ => none

def moveBy (x : TV) (n : Nat) : ER := match x with
  | .lref k off => .ok (.lref k (off + n))
  | .val (.ref l off) _ => .ok (.val (.ref l (off + n)) .no)
  | .val (.eptr v off) _ => .ok (.val (.eptr v (off + n)) .no)
  | _ => .no

def evLoad (X : St) (t : TypeId) (x : TV) : ER := match x with
  | .lref k off => match X.L k with
    | some cs => .ofO (readC P t cs off)
    | none => .no
  | .val (.ref l off) _ => .rd l fun
    | .var cs => readC P t cs off
    | _ => none
  | .val (.eptr v off) _ => match readV P t v.cells off with
    | some r => .ok (.val r .no)
    | none => .no
  | _ => .no

def lit? : TV → Option Int
  | .val (.raw (.int _ n)) _ => some n
  | _ => none

def evIndexAddr (t : TypeId) (x i : TV) : ER :=
  match lit? i with
  | none => .no
  | some i => match P.underlying t with
    | some (.slice el) => match x with
      | .val (.sl es) _ => .ex (fun e => 0 ≤ i ∧ es[i.toNat]? = some e ∧ sz? P el = some e.cells.length) (fun e => .val (.eptr e 0) .no)
      | _ => .no
    | some (.array n e) => match sz? P e with
      | some s => if 0 ≤ i ∧ i < n then moveBy x (i.toNat * s) else .no
      | none => .no
    | _ => .no

def evIndex (t : TypeId) (x i : TV) : ER :=
  match lit? i with
  | none => .no
  | some i => match P.underlying t, x with
    | some .string, .val (.raw (.string s)) _ => .ex (fun e => 0 ≤ i ∧ ∃ b : UInt8, s[i.toNat]? = some b ∧ e = .raw (.int .u8 b.toNat)) (fun e => .val e .no)
    | _, _ => .no

def evSlice (t : TypeId) (x : TV) (lo hi mx : Option TV) : ER :=
  let l : Option Int := match lo with | none => some 0 | some v => lit? v
  match P.underlying t, x with
  | some (.slice el), .val (.sl es) _ =>
    let h : Option Int := match hi with | none => some es.length | some v => lit? v
    match l, h, mx with
    | some l, some h, none => .ex (fun e => 0 ≤ l ∧ l ≤ h ∧ h ≤ es.length ∧ (∃ s, sz? P el = some s ∧ (l = 0 ∨ ∀ x ∈ es, x.cells.length = s)) ∧ e = .sl ((es.take h.toNat).drop l.toNat)) (fun e => .val e .no)
    | some l, some h, some m => match lit? m, hi with
      | some m, some _ => .ex (fun e => 0 ≤ l ∧ l ≤ h ∧ h = m ∧ h ≤ es.length ∧ (∃ s, sz? P el = some s ∧ (l = 0 ∨ ∀ x ∈ es, x.cells.length = s)) ∧ e = .sl ((es.take h.toNat).drop l.toNat)) (fun e => .val e .full)
      | _, _ => .no
    | _, _, _ => .no
  | some .string, .val (.raw (.string s)) _ =>
    let h : Option Int := match hi with | none => some s.size | some v => lit? v
    match l, h, mx with
    | some l, some h, none => .ex (fun e => 0 ≤ l ∧ l ≤ h ∧ h ≤ s.size ∧ e = .raw (.string (s.extract l.toNat h.toNat))) (fun e => .val e .no)
    | _, _, _ => .no
  | _, _ => .no

def zeroV (t : TypeId) : Option V := match P.info? t with
  | some i => match i.zero with
    | some z => some (V.ofValue z)
    | none => none
  | none => none

def evLookup (t : TypeId) (x k : TV) (ok : Bool) : ER :=
  match P.underlying t with
  | some (.map key elem) => match P.underlying key, zeroV P elem, x, k with
    | some (.int .i64), some z, .val (.mp l) _, .val (.raw (.int .i64 n)) _ => .rd l fun
      | .map m => some (if ok then .val (.tup [(m n).getD z, .raw (.bool (m n).isSome)]) .no else .val ((m n).getD z) .no)
      | _ => none
    | some (.int .i64), some z, .val (.raw (.map none)) _, .val (.raw (.int .i64 _)) _ => .ok (if ok then .val (.tup [z, .raw (.bool false)]) .no else .val z .no)
    | _, _, _, _ => .no
  | _ => .no

def evLen (t : TypeId) (x : TV) : ER :=
  match P.underlying t, x with
  | some (.slice _), .val (.sl es) _ => .ok (.val (.raw (.int .i64 es.length)) .no)
  | some .string, .val (.raw (.string s)) _ => .ok (.val (.raw (.int .i64 s.size)) .no)
  | _, _ => .no

def raws? : List V → Option (List Value)
  | [] => some []
  | .raw v :: r => (raws? r).map (v :: ·)
  | _ :: _ => none

def evCall (X : St) (c : Call) (type : TypeId) : ER :=
  match c.callee with
  | .builtin .len => match c.argTypes[0]?, c.args[0]? with
    | some t, some x => if c.args.size = 1 then evLen P t (X.eval x) else .no
    | _, _ => .no
  | .builtin .max => match X.evals c.args.toList with
    | some vs => match raws? vs with
      | some us => .raw (peek P (Builtin.max_ c.argTypes type us.toArray))
      | none => .no
    | none => .no
  | .builtin .min => match X.evals c.args.toList with
    | some vs => match raws? vs with
      | some us => .raw (peek P (Builtin.min_ c.argTypes type us.toArray))
      | none => .no
    | none => .no
  | _ => .no

def evBuildSlice (X : St) (t : TypeId) (len : Nat) (parts : List (Nat × Operand)) : ER :=
  match P.underlying t with
  | some (.slice e) => match sz? P e, agg? P e, zeroC P e, partsOf X parts with
    | some s, some a, some z, some ps =>
      if len * s ≤ 2 ^ 24 ∧ z.length = s ∧ 0 < s ∧ (a = true ∨ s = 1) then
        match fillA (fun i => some (i * s, s)) (repeatL len z) ps with
        | some cells => .ok (.val (.sl (chunks a s len cells)) .full)
        | none => .no
      else .no
    | _, _, _, _ => .no
  | _ => .no

def placesOf (fields : List Field) : Option (List (Nat × Nat)) := match fields with
  | [] => some []
  | f :: r => match sz? P f.type, placesOf r with
    | some s, some ps => some ((f.offset, s) :: ps)
    | _, _ => none

def evBuild (X : St) (t : TypeId) (parts : List (Nat × Operand)) : ER :=
  match zeroC P t, partsOf X parts with
  | some z, some ps => match P.underlying t with
    | some (.struct fields) => match placesOf P fields.toList with
      | some places => match fillA (fun i => places[i]?) z ps with
        | some cells => .ok (.agg cells)
        | none => .no
      | none => .no
    | some (.array _ e) => match sz? P e with
      | some s => match fillA (fun i => some (i * s, s)) z ps with
        | some cells => .ok (.agg cells)
        | none => .no
      | none => .no
    | _ => .no
  | _, _ => .no

/-- An operation that changes nothing; 'esc': which variables are shared. -/
def ev (esc : List Nat) (o : Oper) (X : St) : ER :=
  match o.op with
  | .move x | .assign x => .ok (X.eval x)
  | .pick c a b => match X.eval c with
    | .val (.raw (.bool t)) _ => .split t (X.eval a) (X.eval b)
    | _ => .no
  | .alloc t => match o.dst, zeroC P t with
    | some d, some cs => if d ∈ esc then .no else match X.L d with | none => .box cs | some _ => .no
    | _, _ => .no
  | .box _ x => match o.dst, (X.eval x).cells? with
    | some d, some cs => if d ∈ esc then .no else match X.L d with | none => .box cs | some _ => .no
    | _, _ => .no
  | .build t parts => evBuild P X t parts.toList
  | .buildSlice t len parts => evBuildSlice P X t len parts.toList
  | .load t a => evLoad P X t (X.eval a)
  | .nilCheck x => match X.eval x with
    | .lref k off => .ok (.lref k off)
    | .val (.ref l off) o => .ok (.val (.ref l off) o)
    | .val (.eptr v off) o => .ok (.val (.eptr v off) o)
    | .val (.fn (.func f) a b) o => .ok (.val (.fn (.func f) a b) o)
    | _ => .no
  | .binOp op t x y _ => evBin P op t x y (X.eval x) (X.eval y)
  | .unOp op _ x => match X.eval x with
    | .val (.raw a) _ => .raw (peek P (Op.unary op a))
    | _ => .no
  | .convert s d x => match X.eval x with
    | .val (.raw (.int k n)) _ => .raw (peek P (convert s d (.int k n)))
    | _ => .no
  | .makeInterface t x => match P.underlying t, (X.eval x).v? with
    | some (.interface _), _ => .no
    | some _, some v => .ok (.val (.iface t v) .no)
    | _, _ => .no
  | .makeFunc fn first captured => match X.evals first.toList, X.evals captured.toList with
    | some a, some b => .ok (.val (.fn fn a b) .no)
    | _, _ => .no
  | .slice t x lo hi mx => evSlice P t (X.eval x) (lo.map X.eval) (hi.map X.eval) (mx.map X.eval)
  | .fieldAddr t x f => match foff? P t f with
    | some n => moveBy (X.eval x) n
    | none => .no
  | .field t x f => match (X.eval x).agg? with
    | some cs => evField P t f cs
    | none => .no
  | .indexAddr t x i => evIndexAddr P t (X.eval x) (X.eval i)
  | .index t x i => evIndex P t (X.eval x) (X.eval i)
  | .lookup t x k ok => evLookup P t (X.eval x) (X.eval k) ok
  | .typeAssert x _ asserted ok => match X.eval x, P.underlying asserted with
    | _, some (.interface _) => .no
    | .val (.iface t v) _, some _ => if t = asserted then .ok (if ok then .val (.tup [v, .raw (.bool true)]) .no else .val v .no) else .no
    | _, _ => .no
  | .extract x i => match X.eval x with
    | .val (.tup vs) _ => match vs[i]? with
      | some v => .ok (.val v .no)
      | none => .no
    | _ => .no
  | .call c => evCall P X c o.type
  | _ => .no
end
end Go.Lf
