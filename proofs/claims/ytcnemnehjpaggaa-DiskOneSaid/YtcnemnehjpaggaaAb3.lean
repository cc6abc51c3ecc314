/- From the model's code to the abstract machine's: types looked up once. -/
import Derived.Test.YtcnemnehjpaggaaAb2
set_option linter.all false
namespace Go.Ab
open Go

def ofCell : Value → S
  | .bool b => .bool b
  | .int k n => .int k n
  | .string s => .str s.data.toList
  | .slice none 0 0 => .list 0 [] true
  | .func (.func f) ⟨[]⟩ ⟨[]⟩ => .fn f []
  | v => .raw v

def ofVal (v : Value) : V :=
  match v with
  | .agg cs => if cs.toList.all flat then .agg (cs.toList.map fun c => .s (ofCell c)) else .junk
  | .tuple _ => .junk
  | v => .c (.s (ofCell v))

def cO : Operand → O
  | .tmp t => .t t
  | .const v => .k (ofVal v)
  | .func f => .k (.c (.s (.fn f [])))
  | .global _ => .k .junk

def isAggT (P : Program) (t : TypeId) : Bool := match P.underlying t with
  | some (.struct _) | some (.array _ _) => true
  | _ => false

/-- The cells of a type's zero, if they are plain. -/
def zeroS (P : Program) (t : TypeId) : Option (List S) :=
  match P.info? t with
  | some i => match i.zero with
    | some z => if z.cells.toList.all flat then some (z.cells.toList.map ofCell) else none
    | none => none
  | none => none

def sizeT (P : Program) (t : TypeId) : Option Nat := (P.info? t).map (·.size)
def bytesT (P : Program) (t : TypeId) : Option Nat := (P.info? t).map (·.bytes)

/-- Fields that lie one behind the other; the tags of all their cells. -/
def tilesT (f : TypeId → Option (List Nat)) : List Field → List Nat → Option (List Nat)
  | [], acc => some acc
  | x :: r, acc => if x.name ≠ "_" ∧ x.offset = acc.length then match f x.type with
    | some ts => tilesT f r (acc ++ ts)
    | none => none
    else none

/-- A scalar type, or a struct of such: the tags of its cells. -/
def scalarT (P : Program) : Nat → TypeId → Option (List Nat)
  | 0, _ => none
  | d + 1, t => match P.underlying t, sizeT P t with
    | some .bool, some 1 => some [0]
    | some (.int _), some 1 => some [1]
    | some .string, some 1 => some [2]
    | some (.struct fs), some n => match tilesT (scalarT P d) fs.toList [] with
      | some ts => if P.stoodInHeld t = false ∧ ts.length = n then some ts else none
      | none => none
    | _, _ => none

def placesB (P : Program) (t : TypeId) (parts : List Nat) : Option (List (Nat × Nat)) :=
  match P.underlying t with
  | some (.struct fs) => if fs.toList.all (fun f => (sizeT P f.type).isSome) then parts.mapM fun i => match fs[i]? with
    | some f => (sizeT P f.type).map fun n => (f.offset, n)
    | none => none
    else none
  | some (.array _ e) => (sizeT P e).bind fun n => some (parts.map fun i => (i * n, n))
  | _ => none

def isNilK : Operand → Bool
  | .const (.slice none 0 0) => true
  | _ => false

def cBin (P : Program) (op : BinOp) (t : TypeId) (x y : Operand) : K × List O :=
  match op, P.underlying t with
  | .eql, some (.struct _) => match scalarT P 20 t with
    | some ts => if P.eqGuardType P.depth t = false then (.eqA false ts, [cO x, cO y]) else (.bad 1, [])
    | none => (.bad 1, [])
  | .neq, some (.struct _) => match scalarT P 20 t with
    | some ts => if P.eqGuardType P.depth t = false then (.eqA true ts, [cO x, cO y]) else (.bad 1, [])
    | none => (.bad 1, [])
  | .eql, some (.slice _) => if isNilK y then (.isNil false, [cO x]) else (.bad 2, [])
  | .neq, some (.slice _) => if isNilK y then (.isNil true, [cO x]) else (.bad 2, [])
  | .eql, some .bool => (.eqB false, [cO x, cO y])
  | .neq, some .bool => (.eqB true, [cO x, cO y])
  | op, some (.int _) | op, some .string => (.bin op, [cO x, cO y])
  | _, _ => (.bad 3, [])

/-- A builder's type, and its bytes' type. -/
def bldT (P : Program) (T : TypeId) : TypeId × TypeId := match P.underlying T with
  | some (.struct fs) => (match fs[1]? with
    | some f => (match P.underlying f.type with
      | some (.slice e) => (T, e)
      | _ => (T, 0))
    | none => (T, 0))
  | _ => (T, 0)
/-- The type that a method's receiver points to. -/
def ptrT (P : Program) (fn : Func) : TypeId × TypeId := match fn.params[0]?.bind P.underlying with
  | some (.pointer T) => bldT P T
  | _ => (0, 0)
/-- A type laid out as strings.Builder, and named so in its first field. -/
def isBld (P : Program) (T : TypeId) : Bool :=
  (match P.underlying T with
   | some (.struct fs) => (match fs[0]? with | some f => f.name == "addr" && f.pkgPath == "strings" | none => false)
   | _ => false) &&
  (match P.info? T with
   | some i => (match i.zero with
     | some (.agg z) => (match z.toList with | [.pointer none, .slice none 0 0] => true | _ => false)
     | _ => false)
   | none => false)

/-- The names of three methods of a builder, sign by sign. -/
def nmByte : String := String.ofList ([40, 42, 115, 116, 114, 105, 110, 103, 115, 46, 66, 117, 105, 108, 100, 101, 114, 41, 46, 87, 114, 105, 116, 101, 66, 121, 116, 101].map Char.ofNat)
def nmStr : String := String.ofList ([40, 42, 115, 116, 114, 105, 110, 103, 115, 46, 66, 117, 105, 108, 100, 101, 114, 41, 46, 87, 114, 105, 116, 101, 83, 116, 114, 105, 110, 103].map Char.ofNat)
def nmGet : String := String.ofList ([40, 42, 115, 116, 114, 105, 110, 103, 115, 46, 66, 117, 105, 108, 100, 101, 114, 41, 46, 83, 116, 114, 105, 110, 103].map Char.ofNat)

def cCall (P : Program) (c : Call) : K × List O :=
  match c.callee with
  | .value (.func f) => match P.funcs[f]? with
    | some fn =>
      if fn.name = nmByte then (.bldByte f (ptrT P fn), c.args.toList.map cO)
      else if fn.name = nmStr then (.bldStr f (ptrT P fn), c.args.toList.map cO)
      else if fn.name = nmGet then (.bldGet f (ptrT P fn), c.args.toList.map cO)
      else (.call f, c.args.toList.map cO)
    | none => (.bad 8, [])
  | .value x => (.callv, cO x :: c.args.toList.map cO)
  | .builtin .len => match c.argTypes[0]?.bind P.underlying, c.args.toList with
    | some .string, [x] => (.len true, [cO x])
    | some (.slice _), [x] => (.len false, [cO x])
    | _, _ => (.bad 4, [])
  | .builtin .min => match c.args.toList with
    | [x, y] => (.mnx false, [cO x, cO y])
    | _ => (.bad 5, [])
  | .builtin .max => match c.args.toList with
    | [x, y] => (.mnx true, [cO x, cO y])
    | _ => (.bad 5, [])
  | .builtin .append => match c.argTypes.toList, c.args.toList with
    | [t, u], [x, y] => match P.underlying t, P.underlying u with
      | some (.slice e), some (.slice _) => match sizeT P e, bytesT P e, zeroS P e with
        | some k, some n, some z => if 0 < k ∧ 0 < n ∧ z.length = k then (.append false k n, [cO x, cO y]) else (.bad 6, [])
        | _, _, _ => (.bad 6, [])
      | some (.slice e), some .string => match sizeT P e, bytesT P e, zeroS P e with
        | some k, some n, some z => if 0 < k ∧ 0 < n ∧ z.length = k then (.append true k n, [cO x, cO y]) else (.bad 6, [])
        | _, _, _ => (.bad 6, [])
      | _, _ => (.bad 6, [])
    | _, _ => (.bad 6, [])
  | _ => (.bad 7, [])

def cOp (P : Program) (o : Oper) : K × List O :=
  match o.op with
  | .move x | .assign x => (.mv, [cO x])
  | .pick c a b => (.pick, [cO c, cO a, cO b])
  | .alloc e => if isBld P e then (.allocB (bldT P e), []) else match zeroS P e with
    | some z => (.alloc z, [])
    | none => (.bad 10, [])
  | .box e x => match sizeT P e with
    | some n => (.box n, [cO x])
    | none => (.bad 11, [])
  | .build t parts => match zeroS P t, placesB P t (parts.toList.map (·.1)) with
    | some z, some at_ => (.build z at_, parts.toList.map fun p => cO p.2)
    | _, _ => (.bad 12, [])
  | .buildSlice t len parts => match P.underlying t with
    | some (.slice e) => match sizeT P e, zeroS P e with
      | some k, some z => if len * k ≤ 16777216 ∧ 0 < k ∧ z.length = k then (.bslice k len z (parts.toList.map (·.1)), parts.toList.map fun p => cO p.2) else (.bad 13, [])
      | _, _ => (.bad 13, [])
    | _ => (.bad 13, [])
  | .load t a => match P.underlying t, sizeT P t with
    | some _, some n => (.load n (isAggT P t), [cO a])
    | _, _ => (.bad 14, [])
  | .store t a x => match sizeT P t with
    | some n => (.store n (isAggT P t), [cO a, cO x])
    | none => (.bad 15, [])
  | .nilCheck x => (.nilchk, [cO x])
  | .binOp op t x y _ => cBin P op t x y
  | .unOp .not _ x => (.not, [cO x])
  | .convert s d x => match P.underlying s, P.underlying d with
    | some (.int _), some (.int k) => (.conv k, [cO x])
    | some .string, some .string => (.same, [cO x])
    | some (.slice e), some .string => match P.underlying e with
      | some (.int .u8) => if sizeT P e = some 1 then (.toStr, [cO x]) else (.bad 16, [])
      | _ => (.bad 16, [])
    | _, _ => (.bad 16, [])
  | .makeFunc (.func f) ⟨[]⟩ caps => (.mkfn f, caps.toList.map cO)
  | .slice t x lo hi mx => match P.underlying t with
    | some .string => if mx.isNone then (.slcS lo.isSome hi.isSome, cO x :: (lo.toList ++ hi.toList).map cO) else (.bad 17, [])
    | some (.slice e) => match sizeT P e with
      | some k => (.slcL k lo.isSome hi.isSome mx.isSome, cO x :: (lo.toList ++ hi.toList ++ mx.toList).map cO)
      | none => (.bad 17, [])
    | _ => (.bad 17, [])
  | .fieldAddr s x i => match P.underlying s with
    | some (.struct fs) => match fs[i]? with
      | some f => match sizeT P f.type with
        | some n => if n = 0 then (.bad 18, []) else (.fadr f.offset, [cO x])
        | none => (.bad 18, [])
      | none => (.bad 18, [])
    | _ => (.bad 18, [])
  | .field t x i => match P.underlying t with
    | some (.struct fs) => match fs[i]? with
      | some f => match P.underlying f.type, sizeT P f.type with
        | some _, some n => (.fld f.offset n (isAggT P f.type), [cO x])
        | _, _ => (.bad 19, [])
      | none => (.bad 19, [])
    | _ => (.bad 19, [])
  | .indexAddr t x i => match P.underlying t with
    | some (.slice e) => match sizeT P e with
      | some k => (.iadr k, [cO x, cO i])
      | none => (.bad 20, [])
    | some (.array n e) => match sizeT P e with
      | some k => (.iadrP n k, [cO x, cO i])
      | none => (.bad 20, [])
    | _ => (.bad 20, [])
  | .index t x i => match P.underlying t with
    | some .string => (.idx, [cO x, cO i])
    | _ => (.bad 21, [])
  | .extract x i => (.ext i, [cO x])
  | .call c => cCall P c
  | _ => (.bad 30, [])

def cGuard (ops : Array Oper) : Option (Nat × Bool) → Option (Option (Nat × Bool))
  | none => some none
  | some (j, b) => match (ops[j]?).bind (·.dst) with
    | some s => some (some (s, b))
    | none => none

def cOper (P : Program) (ops : Array Oper) (o : Oper) : Op1 :=
  match cGuard ops o.guard with
  | some g => { dst := o.dst, kind := (cOp P o).1, args := (cOp P o).2, guard := g }
  | none => { dst := o.dst, kind := .bad 40, args := [], guard := none }

/-- May the operation touch memory of the frame's own? may it write there? -/
def touches : K → Bool
  | .mv | .pick | .not | .bin _ | .eqA .. | .eqB _ | .isNil _ | .conv _ | .same | .idx | .fld .. | .ext _ | .slcS .. | .slcL .. | .iadrP .. | .build .. | .nilchk | .mnx _ | .bad _ => false
  | _ => true
def writes : K → Bool
  | .store .. | .alloc _ | .box _ | .bslice .. | .append .. | .mks .. | .call _ | .callv | .mkfn _ | .toBytes | .allocB _ | .bldByte .. | .bldStr .. | .bldGet .. => true
  | _ => false

/-- May the operation make a row, or a variable, that bears its slot's name? -/
def usesD : K → Bool
  | .alloc _ | .allocB _ | .box _ | .bslice .. | .append .. | .mks .. | .call _ | .callv => true
  | _ => false

def slotsOf (o : Op1) : List Nat := (o.args.filterMap fun | .t i => some i | _ => none) ++ (match o.guard with | some (s, _) => [s] | none => [])

/-- Do the two operations name one slot, and one of them writes it? -/
def slotClash (a b : Op1) : Bool :=
  (match a.dst with | some d => (slotsOf b).contains d || b.dst == some d | none => false) ||
  (match b.dst with | some d => (slotsOf a).contains d | none => false)

/-- All that i waits for, directly or not, as bits. -/
def ahead (ops : Array Oper) : Array Nat := Region.before ops

/-- The pairs of places below n, the lower one first. -/
def pairsTo (n : Nat) : List (Nat × Nat) := (List.range n).flatMap fun i => (List.range i).map fun j => (j, i)
def isOpen (b : Array Nat) (p : Nat × Nat) : Bool := !((b.getD p.2 0).testBit p.1)
def clash2 (l : List Op1) (p : Nat × Nat) : Bool := match l[p.1]?, l[p.2]? with
  | some x, some y => slotClash x y
  | _, _ => true
def mem2 (l : List Op1) (p : Nat × Nat) : Bool := match l[p.1]?, l[p.2]? with
  | some x, some y => touches x.kind && touches y.kind && (writes x.kind || writes y.kind)
  | _, _ => true
/-- Each waits for earlier ones alone; and the bits are no more than what is waited for. -/
def edgesOk (ops : Array Oper) (b : Array Nat) : Bool := (List.range ops.size).all fun i => match ops[i]? with
  | some o => (o.after.toList.all fun e => !Region.binds .any e || decide (e.on < i)) &&
      (List.range i).all fun j => !((b.getD i 0).testBit j) || o.after.toList.any fun e => Region.binds .any e && (e.on == j || (decide (j < e.on) && (b.getD e.on 0).testBit j))
  | none => true

/-- The pairs whose order is open, and that may touch one memory; none: some pair clashes. -/
def openPairs (ops : Array Oper) (l : List Op1) : Option (List (Nat × Nat)) :=
  if edgesOk ops (ahead ops) && ((pairsTo l.length).filter (isOpen (ahead ops))).all (fun p => !clash2 l p) then some (((pairsTo l.length).filter (isOpen (ahead ops))).filter (mem2 l)) else none

def cCode (P : Program) : Code → SC
  | .skip => .skip
  | .region _ ops draw =>
    let l := ops.toList.map (cOper P ops)
    if draw then (match openPairs ops l with
      | some ps => .regD l ps
      | none => .bad)
    else .reg l
  | .seq a b => .seq (cCode P a) (cCode P b)
  | .cond c t e => .cond (cO c) (cCode P t) (cCode P e)
  | .block id c => .block id (cCode P c)
  | .loop c => .loop (cCode P c)
  | .exit id => .exit id
  | .scope _ => .bad
  | .label _ => .skip
  | .ret => .ret
  | _ => .bad

end Go.Ab
