/- The abstract machine: values, state, operations; what a region, a body does. -/
import Derived.Test.YtniioedflegdkaaAb1
set_option linter.all false
namespace Go.Ab
open Go

/-- A cell: sealed data; or a reference into memory that the frame itself owns (named by the slot that made it). -/
inductive C where
  | s (x : S)
  | ptr (l o : Nat)
  | own (l n : Nat)
  | optr (l n i o : Nat)

inductive V where
  | junk
  | undef
  | tf
  | c (x : C)
  | agg (xs : List C)
  | tup (xs : List (C ⊕ List C))

/-- What the frame owns: a variable; a slice's row. 'sbox', 'srow': sealed. -/
inductive Obj where
  | box (cells : List C)
  | sbox (cells : List S)
  | row (k : Nat) (rows : List (List S))
  | srow (k : Nat) (rows : List (List S))
  | bld (T : TypeId × TypeId) (s : List UInt8)

/-- What a call hands back: a value; a slice whose row nobody else has. -/
inductive Res where
  | v (x : V)
  | fresh (k : Nat) (rows : List (List S))

abbrev Spec := List V → Option Res

structure AS where
  env : Nat → V
  mem : Nat → Option Obj

def upd {α : Type} (f : Nat → α) (i : Nat) (x : α) : Nat → α := fun j => if j = i then x else f j

inductive O where
  | t (i : Nat)
  | k (v : V)

def ev (env : Nat → V) : O → V
  | .t i => env i
  | .k v => v

inductive K where
  | mv | pick | not
  | bin (op : BinOp)
  | eqA (neg : Bool) (tags : List Nat) | eqB (neg : Bool)
  | len (str : Bool) | isNil (neg : Bool)
  | conv (k : IntKind) | same | toBytes | toStr
  | idx | idxA (k : Nat) (agg : Bool)
  | fld (off n : Nat) (agg : Bool)
  | ext (i : Nat)
  | slcS (lo hi : Bool)
  | slcL (k : Nat) (lo hi mx : Bool)
  | fadr (off : Nat)
  | iadr (k : Nat) | iadrP (n k : Nat)
  | load (n : Nat) (agg : Bool)
  | store (n : Nat) (agg : Bool)
  | alloc (zero : List S)
  | allocB (T : TypeId × TypeId)
  | box (n : Nat)
  | build (zero : List S) (at_ : List (Nat × Nat))
  | bslice (k len : Nat) (zero : List S) (at_ : List Nat)
  | append (str : Bool) (k bytes : Nat)
  | mks (k bytes : Nat) (zero : List S)
  | call (f : FuncId) | callv
  | mkfn (f : FuncId)
  | nilchk
  | mnx (isMax : Bool)
  | bldByte (f : FuncId) (T : TypeId × TypeId) | bldStr (f : FuncId) (T : TypeId × TypeId) | bldGet (f : FuncId) (T : TypeId × TypeId)
  | bad (why : Nat)

structure Op1 where
  dst : Option Nat
  kind : K
  args : List O
  guard : Option (Nat × Bool)

/-! ### Integers -/
def inK (k : IntKind) (n : Int) : Bool := decide (k.min ≤ n) && decide (n ≤ k.max)

def binI (op : BinOp) (k : IntKind) (a b : Int) : Option S :=
  match op with
  | .add => if inK k (a + b) then some (.int k (a + b)) else none
  | .sub => if inK k (a - b) then some (.int k (a - b)) else none
  | .mul => if inK k (a * b) then some (.int k (a * b)) else none
  | .quo => if 0 ≤ a ∧ 0 < b ∧ inK k a = true then some (.int k (a / b)) else none
  | .rem => if 0 ≤ a ∧ 0 < b then some (.int k (a % b)) else none
  | .and => if 0 ≤ a ∧ 0 ≤ b ∧ inK k a = true ∧ inK k b = true then some (.int k ((a.toNat &&& b.toNat : Nat) : Int)) else none
  | .or => if 0 ≤ a ∧ 0 ≤ b ∧ inK k a = true ∧ inK k b = true then some (.int k ((a.toNat ||| b.toNat : Nat) : Int)) else none
  | .eql => some (.bool (a == b))
  | .neq => some (.bool (a != b))
  | .lss => some (.bool (decide (a < b)))
  | .leq => some (.bool (decide (a ≤ b)))
  | .gtr => some (.bool (decide (b < a)))
  | .geq => some (.bool (decide (b ≤ a)))
  | _ => none

def maxInt : Int := 9223372036854775807

def binS : BinOp → S → S → Option S
  | .shl, .int k a, .int _ y => if 0 ≤ y ∧ y < k.bits ∧ inK k (a * 2 ^ y.toNat) = true then some (.int k (a * 2 ^ y.toNat)) else none
  | .shr, .int k a, .int _ y => if 0 ≤ y ∧ y < k.bits then some (.int k (a / 2 ^ y.toNat)) else none
  | op, .int k a, .int k' b => if k = k' then binI op k a b else none
  | .add, .str a, .str b => if ((a.length + b.length : Nat) : Int) ≤ maxInt then some (.str (a ++ b)) else none
  | .eql, .str a, .str b => some (.bool (a == b))
  | .neq, .str a, .str b => some (.bool (a != b))
  | .lss, .str a, .str b => some (.bool (Op.bytesLess a b))
  | .leq, .str a, .str b => some (.bool (Op.bytesLess a b || a == b))
  | .gtr, .str a, .str b => some (.bool (!(Op.bytesLess a b || a == b)))
  | .geq, .str a, .str b => some (.bool (!Op.bytesLess a b))
  | _, _, _ => none

/-- Are two scalars alike? (tags: 0 a bool, 1 an int, 2 a string) -/
def eqC : Nat → C → C → Option Bool
  | 0, .s (.bool a), .s (.bool b) => some (a == b)
  | 1, .s (.int k a), .s (.int k' b) => if k = k' then some (a == b) else none
  | 2, .s (.str a), .s (.str b) => some (a == b)
  | _, _, _ => none
def eqRow : List Nat → List C → List C → Option Bool
  | [], [], [] => some true
  | t :: ts, x :: xs, y :: ys => match eqC t x y, eqRow ts xs ys with
    | some q, some r => some (q && r)
    | _, _ => none
  | _, _, _ => none

/-! ### Cells -/
def cellsV : V → Option (List C)
  | .c x => some [x]
  | .agg xs => some xs
  | _ => none

/-- A value of n cells that stands at the head of a row. -/
def takeV (n : Nat) (agg : Bool) (xs : List C) : Option V :=
  if agg then (if n ≤ xs.length then some (.agg (xs.take n)) else none)
  else match xs with
    | x :: _ => some (.c x)
    | [] => none

def asS : List C → Option (List S)
  | [] => some []
  | .s x :: r => (asS r).map (x :: ·)
  | _ :: _ => none

/-- ys written over xs from the place o on. -/
def splice {α : Type} (xs : List α) (o : Nat) (ys : List α) : List α := xs.take o ++ ys ++ xs.drop (o + ys.length)

def S.refless : S → Bool
  | .bool _ | .int .. | .str _ | .raw _ => true
  | _ => false
def C.refless : C → Bool
  | .s x => x.refless
  | _ => false
def V.refless : V → Bool
  | .junk | .undef | .tf => true
  | .c x => x.refless
  | .agg xs => xs.all (·.refless)
  | .tup xs => xs.all fun | .inl x => x.refless | .inr xs => xs.all (·.refless)
def Res.refless : Res → Bool
  | .v x => x.refless
  | .fresh .. => false

/-- The rows of a slice of the frame's own, if the slice has all of them. -/
def ownRows (m : Nat → Option Obj) (l n : Nat) : Option (Nat × List (List S)) :=
  match m l with
  | some (.row k rows) => if n = rows.length then some (k, rows) else none
  | some (.srow k rows) => if n = rows.length then some (k, rows) else none
  | _ => none

/-- An argument as the callee sees it; the rows that it borrows. -/
def argC (m : Nat → Option Obj) : C → Option C
  | .s x => some (.s x)
  | .own l n => (ownRows m l n).map fun x => .s (.list x.1 x.2 false)
  | .ptr l o => match m l with
    | some (.sbox cells) => some (.s (.cref (cells.drop o)))
    | _ => none
  | .optr .. => none
def argCs (m : Nat → Option Obj) : List C → Option (List C)
  | [] => some []
  | x :: r => match argC m x, argCs m r with
    | some y, some ys => some (y :: ys)
    | _, _ => none
def argV (m : Nat → Option Obj) : V → Option V
  | .c x => (argC m x).map .c
  | .agg xs => (argCs m xs).map .agg
  | _ => none
def argVs (m : Nat → Option Obj) : List V → Option (List V)
  | [] => some []
  | x :: r => match argV m x, argVs m r with
    | some y, some ys => some (y :: ys)
    | _, _ => none

def locC : C → List Nat
  | .s _ => []
  | .ptr l _ | .own l _ | .optr l _ _ _ => [l]
def locV : V → List Nat
  | .c x => locC x
  | .agg xs => xs.flatMap locC
  | _ => []

/-- What an operation seals: every row of its own among its arguments. -/
def sealL (m : Nat → Option Obj) : List Nat → List (Nat × Obj)
  | [] => []
  | l :: r => match m l with
    | some (.row k rows) => (l, .srow k rows) :: sealL m r
    | _ => sealL m r

/-- The rows that an appended operand has. -/
def rowsOf (str : Bool) (m : Nat → Option Obj) (k : Nat) : V → Option (List (List S))
  | .c (.s (.list k' rows _)) => if str then none else if k' = k ∨ rows = [] then some rows else none
  | .c (.own l n) => if str then none else match ownRows m l n with
    | some (k', rows) => if k' = k then some rows else none
    | none => none
  | .c (.s (.str s)) => if str then (if k = 1 then some (s.map fun c => [.int .u8 c.toNat]) else none) else none
  | _ => none

def byteRows (s : List UInt8) : List (List S) := s.map fun c => [.int .u8 c.toNat]

/-- The call's outcome in the frame: a value, and (where it is a fresh slice) the new row. -/
def resV (d : Nat) (m : Nat → Option Obj) : Res → Option (V × List (Nat × Obj))
  | .v x => some (x, [])
  | .fresh k rows => match m d with
    | none => some (.c (.own d rows.length), [(d, .row k rows)])
    | some _ => none

/-- A call: where a row of the frame's own goes in and data come out, the row is sealed. -/
def callR (Γ : FuncId → Spec) (f : FuncId) (d : Nat) (m : Nat → Option Obj) (vals : List V) : Option (V × List (Nat × Obj)) :=
  match argVs m vals with
  | some vs => match Γ f vs with
    | some r => match resV d m r with
      | some (v, ups) => if (vals.flatMap locV).isEmpty || r.refless then some (v, ups) else some (v, sealL m (vals.flatMap locV) ++ ups)
      | none => none
    | none => none
  | none => none

def intV : V → Option Int
  | .c (.s (.int _ n)) => some n
  | _ => none
def optI (d : Int) : Option V → Option Int
  | none => some d
  | some v => intV v
/-- The bounds of a slice expression, within the length: low, high, max. -/
def slcBounds (len : Nat) (lo hi mx : Option V) : Option (Nat × Nat × Option Nat) :=
  match optI 0 lo, optI len hi, mx with
  | some l, some h, none => if 0 ≤ l ∧ l ≤ h ∧ h ≤ len then some (l.toNat, h.toNat, none) else none
  | some l, some h, some m => match intV m with
    | some m => if 0 ≤ l ∧ l ≤ h ∧ h ≤ m ∧ m ≤ len then some (l.toNat, h.toNat, some m.toNat) else none
    | none => none
  | _, _, _ => none

def split3 (lo hi mx : Bool) (vs : List V) : Option (Option V × Option V × Option V) :=
  match lo, hi, mx, vs with
  | false, false, false, [] => some (none, none, none)
  | true, false, false, [a] => some (some a, none, none)
  | false, true, false, [b] => some (none, some b, none)
  | true, true, false, [a, b] => some (some a, some b, none)
  | false, true, true, [b, c] => some (none, some b, some c)
  | true, true, true, [a, b, c] => some (some a, some b, some c)
  | _, _, _, _ => none

/-- Parts laid into a row of zeros: each at its offset, of its size. -/
def layParts (cells : List C) : List (Nat × Nat) → List V → Option (List C)
  | [], [] => some cells
  | (off, n) :: r, v :: vs => match cellsV v with
    | some ys => if ys.length = n ∧ off + n ≤ cells.length then layParts (splice cells off ys) r vs else none
    | none => none
  | _, _ => none

def chunks {α : Type} (k : Nat) : Nat → List α → List (List α)
  | 0, _ => []
  | n + 1, xs => xs.take k :: chunks k n (xs.drop k)

abbrev Out := Option (V × List (Nat × Obj))

def runMv : List V → Out
  | [x] => some (x, [])
  | _ => none
def runPick : List V → Out
  | [.c (.s (.bool t)), a, b] => if t then some (a, []) else some (b, [])
  | _ => none
def runNot : List V → Out
  | [.c (.s (.bool t))] => some (.c (.s (.bool (!t))), [])
  | _ => none
def runBin (op : BinOp) : List V → Out
  | [.c (.s x), .c (.s y)] => (binS op x y).map fun r => (.c (.s r), [])
  | _ => none
def runEqB (neg : Bool) : List V → Out
  | [.c (.s (.bool a)), .c (.s (.bool b))] => some (.c (.s (.bool ((a == b) != neg))), [])
  | _ => none
def runEqA (neg : Bool) (tags : List Nat) : List V → Out
  | [.agg xs, .agg ys] => (eqRow tags xs ys).map fun r => (.c (.s (.bool (r != neg))), [])
  | _ => none

def runLen (str : Bool) (m : Nat → Option Obj) : List V → Out
  | [.c (.s (.str s))] => if str then some (.c (.s (.int .i64 s.length)), []) else none
  | [.c (.s (.list _ rows _))] => if str then none else some (.c (.s (.int .i64 rows.length)), [])
  | [.c (.own l n)] => if str then none else (ownRows m l n).map fun x => (.c (.s (.int .i64 x.2.length)), [])
  | _ => none
def runNil (neg : Bool) : List V → Out
  | [.c (.s (.list _ rows _))] => if rows = [] then some (.tf, []) else some (.c (.s (.bool neg)), [])
  | _ => none
def runConv (k : IntKind) : List V → Out
  | [.c (.s (.int _ n))] => if inK k n then some (.c (.s (.int k n)), []) else some (.c (.s (.int k (k.wrap n))), [])
  | _ => none
def runSame : List V → Out
  | [.c (.s (.str s))] => some (.c (.s (.str s)), [])
  | _ => none
def asBytes : List (List S) → Option (List UInt8)
  | [] => some []
  | [.int .u8 c] :: r => if 0 ≤ c ∧ c < 256 then (asBytes r).map (UInt8.ofNat c.toNat :: ·) else none
  | _ => none
def runToStr (m : Nat → Option Obj) : List V → Out
  | [.c (.own l n)] => match ownRows m l n with
    | some (k, rows) => if k = 1 then (asBytes rows).map fun s => (.c (.s (.str s)), []) else none
    | none => none
  | _ => none
def runIdx : List V → Out
  | [.c (.s (.str s)), .c (.s (.int _ i))] => if 0 ≤ i ∧ i < s.length then some (.c (.s (.int .u8 ((s.getD i.toNat 0).toNat : Int))), []) else none
  | _ => none
def runFld (off n : Nat) (agg : Bool) : List V → Out
  | [.agg xs] => (takeV n agg (xs.drop off)).map fun v => (v, [])
  | _ => none
def runExt (i : Nat) : List V → Out
  | [.tup xs] => match xs[i]? with
    | some (.inl x) => some (.c x, [])
    | some (.inr xs) => some (.agg xs, [])
    | none => none
  | _ => none
def runSlcS (lo hi : Bool) : List V → Out
  | .c (.s (.str s)) :: r => match split3 lo hi false r with
    | some (a, b, _) => match slcBounds s.length a b none with
      | some (l, h, _) => some (.c (.s (.str ((s.take h).drop l))), [])
      | none => none
    | none => none
  | _ => none
def runSlcL (k : Nat) (lo hi mx : Bool) : List V → Out
  | .c (.s (.list k' rows full)) :: r => if k' = k ∨ rows = [] then match split3 lo hi mx r with
    | some (a, b, c) => match slcBounds rows.length a b c with
      | some (l, h, none) => some (.c (.s (.list k ((rows.take h).drop l) (full && h == rows.length))), [])
      | some (l, h, some x) => some (.c (.s (.list k ((rows.take h).drop l) (h == x))), [])
      | none => none
    | none => none
    else none
  | _ => none
def runFadr (off : Nat) (m : Nat → Option Obj) : List V → Out
  | [.c (.ptr l o)] => some (.c (.ptr l (o + off)), [])
  | [.c (.optr l n i o)] => match ownRows m l n with
    | some _ => some (.c (.optr l n i (o + off)), [])
    | none => none
  | [.c (.s (.cref cells))] => some (.c (.s (.cref (cells.drop off))), [])
  | _ => none
def runIadr (k : Nat) (m : Nat → Option Obj) : List V → Out
  | [.c (.s (.list k' rows _)), .c (.s (.int _ i))] => if k' = k ∧ 0 ≤ i ∧ i < rows.length then some (.c (.s (.cref (rows.getD i.toNat []))), []) else none
  | [.c (.own l n), .c (.s (.int _ i))] => match ownRows m l n with
    | some (k', rows) => if k' = k ∧ 0 ≤ i ∧ i < rows.length then some (.c (.optr l n i.toNat 0), []) else none
    | none => none
  | _ => none
def runIadrP (n k : Nat) : List V → Out
  | [.c (.ptr l o), .c (.s (.int _ i))] => if 0 ≤ i ∧ i < n then some (.c (.ptr l (o + i.toNat * k)), []) else none
  | [.c (.s (.cref cells)), .c (.s (.int _ i))] => if 0 ≤ i ∧ i < n then some (.c (.s (.cref (cells.drop (i.toNat * k)))), []) else none
  | _ => none
def runLoad (n : Nat) (agg : Bool) (m : Nat → Option Obj) : List V → Out
  | [.c (.ptr l o)] => match m l with
    | some (.box cells) => (takeV n agg (cells.drop o)).map fun v => (v, [])
    | some (.sbox cells) => (takeV n agg ((cells.drop o).map .s)).map fun v => (v, [])
    | _ => none
  | [.c (.optr l len i o)] => match ownRows m l len with
    | some (_, rows) => (takeV n agg (((rows.getD i []).drop o).map .s)).map fun v => (v, [])
    | none => none
  | [.c (.s (.cref cells))] => (takeV n agg (cells.map .s)).map fun v => (v, [])
  | _ => none
def runStore (n : Nat) (m : Nat → Option Obj) : List V → Out
  | [.c (.ptr l o), v] => match m l, cellsV v with
    | some (.box cells), some ys => if ys.length = n ∧ o + n ≤ cells.length then some (.undef, [(l, .box (splice cells o ys))]) else none
    | _, _ => none
  | [.c (.optr l len i o), v] => match m l, cellsV v with
    | some (.row k rows), some ys => match asS ys with
      | some zs => if zs.length = n ∧ len = rows.length ∧ i < rows.length ∧ o + n ≤ k then some (.undef, [(l, .row k (rows.set i (splice (rows.getD i []) o zs)))]) else none
      | none => none
    | _, _ => none
  | _ => none
def runAlloc (zero : List S) (d : Nat) (m : Nat → Option Obj) : List V → Out
  | [] => match m d with
    | none => some (.c (.ptr d 0), [(d, .box (zero.map .s))])
    | some _ => none
  | _ => none
def runBox (n d : Nat) (m : Nat → Option Obj) : List V → Out
  | [v] => match m d, cellsV v with
    | none, some ys => if ys.length = n then some (.c (.ptr d 0), [(d, .box ys)]) else none
    | _, _ => none
  | _ => none
def runBuild (zero : List S) (at_ : List (Nat × Nat)) (vals : List V) : Out := (layParts (zero.map .s) at_ vals).map fun xs => (.agg xs, [])
def runBslice (k len : Nat) (zero : List S) (at_ : List Nat) (d : Nat) (m : Nat → Option Obj) (vals : List V) : Out :=
  match layParts ((List.replicate len (zero.map C.s)).flatten) (at_.map fun i => (i * k, k)) vals with
  | some xs => match asS xs with
    | some ys => if len = 0 then some (.c (.s (.list k [] true)), []) else match m d with
      | none => some (.c (.own d len), [(d, .row k (chunks k len ys))])
      | some _ => none
    | none => none
  | none => none
def runAppend (str : Bool) (k bytes : Nat) (d : Nat) (m : Nat → Option Obj) : List V → Out
  | [.c (.s (.list _ [] true)), y] => match m d, rowsOf str m k y with
    | none, some ys => if ys.length * bytes ≤ 140737488355328 then some (.c (.own d ys.length), [(d, .row k ys)]) else none
    | _, _ => none
  | [.c (.own l n), y] => match m l, rowsOf str m k y with
    | some (.row k' rows), some ys => if k' = k ∧ n = rows.length ∧ (rows.length + ys.length) * bytes ≤ 140737488355328 then some (.c (.own l (rows ++ ys).length), [(l, .row k (rows ++ ys))]) else none
    | _, _ => none
  | _ => none
def runCallv (Γ : FuncId → Spec) (d : Nat) (m : Nat → Option Obj) : List V → Out
  | .c (.s (.fn f caps)) :: vals => callR Γ f d m (vals ++ caps.map fun x => .c (.s x))
  | _ => none
/-- What a closure captures: data, or a variable, which is sealed. -/
def capVs : (Nat → Option Obj) → List V → Option (List S × List (Nat × Obj))
  | _, [] => some ([], [])
  | m, .c (.s x) :: r => match capVs m r with
    | some p => some (x :: p.1, p.2)
    | none => none
  | m, .c (.ptr l 0) :: r => match m l with
    | some (.box cells) => match asS cells with
      | some ss => match capVs (upd m l (some (.sbox ss))) r with
        | some p => some (.cref ss :: p.1, (l, .sbox ss) :: p.2)
        | none => none
      | none => none
    | some (.sbox ss) => match capVs m r with
      | some p => some (.cref ss :: p.1, p.2)
      | none => none
    | _ => none
  | _, _ :: _ => none
def runMkfn (f : FuncId) (m : Nat → Option Obj) (vals : List V) : Out :=
  match capVs m vals with
  | some p => some (.c (.s (.fn f p.1)), p.2)
  | none => none
def runNilchk : List V → Out
  | [.c (.ptr l o)] => some (.c (.ptr l o), [])
  | [.c (.s (.cref cells))] => some (.c (.s (.cref cells)), [])
  | _ => none
def runMnx (isMax : Bool) : List V → Out
  | [.c (.s (.int k a)), .c (.s (.int _ b))] => some (.c (.s (.int k (if isMax then max a b else min a b))), [])
  | _ => none

/-- A strings.Builder of the frame's own, of type T. -/
def bldOf (T : TypeId × TypeId) : Option Obj → Option (List UInt8)
  | some (.bld T' s) => if T' = T then some s else none
  | _ => none
def runAllocB (T : TypeId × TypeId) (d : Nat) (m : Nat → Option Obj) : List V → Out
  | [] => match m d with
    | none => some (.c (.ptr d 0), [(d, .bld T [])])
    | some _ => none
  | _ => none
def runBldByte (T : TypeId × TypeId) (m : Nat → Option Obj) : List V → Out
  | [.c (.ptr l 0), .c (.s (.int .u8 c))] => match bldOf T (m l) with
    | some s => if 0 ≤ c ∧ c < 256 ∧ s.length < 35184372088832 then some (.c (.s (.raw .nilIface)), [(l, .bld T (s ++ [UInt8.ofNat c.toNat]))]) else none
    | none => none
  | _ => none
def runBldStr (T : TypeId × TypeId) (m : Nat → Option Obj) : List V → Out
  | [.c (.ptr l 0), .c (.s (.str t))] => match bldOf T (m l) with
    | some s => if s.length + t.length < 35184372088832 then some (.tup [.inl (.s (.int .i64 t.length)), .inl (.s (.raw .nilIface))], [(l, .bld T (s ++ t))]) else none
    | none => none
  | _ => none
def runBldGet (T : TypeId × TypeId) (m : Nat → Option Obj) : List V → Out
  | [.c (.ptr l 0)] => match bldOf T (m l) with
    | some s => if s.length < 35184372088832 then some (.c (.s (.str s)), [(l, .bld T s)]) else none
    | none => none
  | _ => none

/-- An operation: its value, and what turns in memory. d: the slot that it writes. -/
def run (Γ : FuncId → Spec) (d : Nat) (m : Nat → Option Obj) : K → List V → Out
  | .mv => runMv
  | .pick => runPick
  | .not => runNot
  | .bin op => runBin op
  | .eqA neg tags => runEqA neg tags
  | .eqB neg => runEqB neg
  | .len str => runLen str m
  | .isNil neg => runNil neg
  | .conv k => runConv k
  | .same => runSame
  | .toStr => runToStr m
  | .idx => runIdx
  | .fld off n agg => runFld off n agg
  | .ext i => runExt i
  | .slcS lo hi => runSlcS lo hi
  | .slcL k lo hi mx => runSlcL k lo hi mx
  | .fadr off => runFadr off m
  | .iadr k => runIadr k m
  | .iadrP n k => runIadrP n k
  | .load n agg => runLoad n agg m
  | .store n _ => runStore n m
  | .alloc zero => runAlloc zero d m
  | .box n => runBox n d m
  | .build zero at_ => runBuild zero at_
  | .bslice k len zero at_ => runBslice k len zero at_ d m
  | .append str k bytes => runAppend str k bytes d m
  | .call f => callR Γ f d m
  | .callv => runCallv Γ d m
  | .mkfn f => runMkfn f m
  | .nilchk => runNilchk
  | .mnx isMax => runMnx isMax
  | .allocB T => runAllocB T d m
  | .bldByte _ T => runBldByte T m
  | .bldStr _ T => runBldStr T m
  | .bldGet _ T => runBldGet T m
  | _ => fun _ => none

def setAll (m : Nat → Option Obj) : List (Nat × Obj) → Nat → Option Obj
  | [] => m
  | (l, o) :: r => setAll (upd m l (some o)) r

def want (env : Nat → V) : Option (Nat × Bool) → Option Bool
  | none => some true
  | some (s, b) => match env s with
    | .c (.s (.bool x)) => some (x == b)
    | .undef => some false
    | _ => none

def putD (env : Nat → V) (d : Option Nat) (v : V) : Nat → V := match d with
  | some i => upd env i v
  | none => env

def step1 (Γ : FuncId → Spec) (o : Op1) (st : AS) : Option AS :=
  match want st.env o.guard with
  | none => none
  | some false => some ⟨putD st.env o.dst .undef, st.mem⟩
  | some true => match run Γ (o.dst.getD 0) st.mem o.kind (o.args.map (ev st.env)) with
    | some (v, ups) => some ⟨putD st.env o.dst v, setAll st.mem ups⟩
    | none => none

def steps (Γ : FuncId → Spec) : List Op1 → AS → Option AS
  | [], st => some st
  | o :: r, st => match step1 Γ o st with
    | some st' => steps Γ r st'
    | none => none

/-! ### Code -/
inductive SC where
  | skip
  | reg (ops : List Op1)
  | regD (ops : List Op1) (pairs : List (Nat × Nat))
  | seq (a b : SC)
  | cond (c : O) (t e : SC)
  | block (id : Nat) (c : SC)
  | loop (c : SC)
  | exit (id : Nat)
  | ret
  | bad

end Go.Ab
