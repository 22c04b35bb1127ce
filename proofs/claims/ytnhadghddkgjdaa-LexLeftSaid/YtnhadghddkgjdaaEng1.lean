/-
  The engine, part 1: values, regions, states, and what each operation of the model's code does to them: plain functions that the kernel can run. Nothing is proved here.
-/
import Derived.WalkKit
namespace Go.Nx
open Go

/-- The kinds of a record's cells. -/
inductive CK where
  | i (k : IntKind)
  | b
  deriving DecidableEq

/-- A scalar. -/
inductive Sc where
  | i (n : Int)
  | b (x : Bool)
  deriving DecidableEq

def Sc.n : Sc → Int
  | .i n => n
  | .b _ => 0
def Sc.t : Sc → Bool
  | .b x => x
  | .i _ => false

/-- What one cell holds. A region's name is a small number. -/
inductive NC where
  | i (k : IntKind) (n : Int)
  | b (x : Bool)
  | s (x : ByteArray)
  | p (r i c : Nat)
  | pn
  | h (r off len : Nat)
  | l (k : IntKind) (xs : List Int)
  | lr (ks : List CK) (xs : List (List Sc))
  | pl (k : IntKind) (xs : List Int) (i : Nat)
  | pr (ks : List CK) (xs : List (List Sc)) (i c : Nat)
  | sn
  | g (x : Nat)
  | e (k : Nat)
  | en
  | cl (f : FuncId) (cap : List (Nat × Nat × Nat))

/-- A value: one cell, or a struct or array. -/
inductive NV where
  | c (x : NC)
  | ag (xs : List NC)

/-- What a slot holds. -/
inductive NS where
  | v (x : NV)
  | tu (xs : List NV)
  | dead

inductive Body where
  | cells (xs : List NC)
  | ints (k : IntKind) (xs : List Int)
  | recs (ks : List CK) (xs : List (List Sc))

/-- A region: one block of the call's own. 'st': how many cells an element has. -/
structure Reg where
  st : Nat
  e : TypeId
  body : Body

structure St where
  fr : List NS
  rg : List (Option Reg)

def NS.nc : NS → Option NC
  | .v (.c x) => some x
  | _ => none
def NS.nv : NS → Option NV
  | .v x => some x
  | _ => none
def NV.cells : NV → List NC
  | .c x => [x]
  | .ag xs => xs

def ckVal : CK → Sc → Value
  | .i k, s => .int k s.n
  | .b, s => .bool s.t
def ckNC : CK → Sc → NC
  | .i k, s => .i k s.n
  | .b, s => .b s.t
def rowFrom {α : Type} (f : CK → Sc → α) : List CK → List Sc → Nat → List α
  | [], _, _ => []
  | k :: ks, row, j => f k (row.getD j (.i 0)) :: rowFrom f ks row (j + 1)
def rowVals (ks : List CK) (row : List Sc) : List Value := rowFrom ckVal ks row 0
def rowCells (ks : List CK) (row : List Sc) : List NC := rowFrom ckNC ks row 0

def toSc : CK → NC → Option Sc
  | .i k, .i k' n => if k = k' then some (.i n) else none
  | .b, .b x => some (.b x)
  | _, _ => none
def toRow : List CK → List NC → Option (List Sc)
  | [], [] => some []
  | k :: ks, x :: xs =>
    match toSc k x, toRow ks xs with
    | some a, some l => some (a :: l)
    | _, _ => none
  | _, _ => none
def toRows (ks : List CK) : Nat → List NC → Option (List (List Sc))
  | 0, [] => some []
  | 0, _ :: _ => none
  | n + 1, xs =>
    match toRow ks (xs.take ks.length), toRows ks n (xs.drop ks.length) with
    | some a, some l => some (a :: l)
    | _, _ => none
def toInts (k : IntKind) : List NC → Option (List Int)
  | [] => some []
  | .i k' n :: xs =>
    if k = k' then
      match toInts k xs with
      | some l => some (n :: l)
      | none => none
    else none
  | _ :: _ => none

def putAt (l : List (Option Reg)) (n : Nat) (x : Option Reg) : List (Option Reg) :=
  if n < l.length then l.set n x else l ++ List.replicate (n - l.length) none ++ [x]
def St.reg (s : St) (n : Nat) : Option Reg :=
  match s.rg[n]? with
  | some (some r) => some r
  | _ => none
def St.put (s : St) (dst : Option Tmp) (v : NS) : St :=
  match dst with
  | some d => { s with fr := s.fr.set d v }
  | none => s
def St.setReg (s : St) (n : Nat) (r : Option Reg) : St := { s with rg := putAt s.rg n r }

/-! ### types -/
def isAggT (P : Program) (t : TypeId) : Bool :=
  match P.underlying t with
  | some (.struct _) | some (.array _ _) => true
  | _ => false
def sizeT (P : Program) (t : TypeId) : Nat :=
  match P.info? t with
  | some i => i.size
  | none => 0
def bytesT (P : Program) (t : TypeId) : Nat :=
  match P.info? t with
  | some i => i.bytes
  | none => 0
def scal : Value → Option NC
  | .int k n => some (.i k n)
  | .bool b => some (.b b)
  | .string s => some (.s s)
  | .pointer none => some .pn
  | .slice none 0 0 => some .sn
  | .nilIface => some .en
  | _ => none
def scals : List Value → Option (List NC)
  | [] => some []
  | v :: l =>
    match scal v, scals l with
    | some a, some r => some (a :: r)
    | _, _ => none
def zeroCells (P : Program) (t : TypeId) : Option (List NC) :=
  match P.info? t with
  | some i => match i.zero with
    | some z => if z.cells.size = i.size then scals z.cells.toList else none
    | none => none
  | none => none
def ksFrom : List NC → Option (List CK)
  | [] => some []
  | .i k _ :: l => (match ksFrom l with | some r => some (.i k :: r) | none => none)
  | .b _ :: l => (match ksFrom l with | some r => some (.b :: r) | none => none)
  | _ :: _ => none
def ksOf (P : Program) (t : TypeId) : Option (List CK) :=
  match zeroCells P t with
  | some z => ksFrom z
  | none => none

/-- The body of a row of n elements of type e, out of its cells. -/
def elemBody (P : Program) (e : TypeId) (n : Nat) (xs : List NC) : Nat × Body :=
  match ksOf P e with
  | some [.i k] =>
    (match toInts k xs with
     | some l => (1, .ints k l)
     | none => (1, .cells xs))
  | some ks =>
    if 0 < ks.length then
      (match toRows ks n xs with
       | some l => (ks.length, .recs ks l)
       | none => (sizeT P e, .cells xs))
    else (sizeT P e, .cells xs)
  | none => (sizeT P e, .cells xs)
/-- The region of a variable of type t. -/
def varReg (P : Program) (t : TypeId) (xs : List NC) : Reg :=
  match P.underlying t with
  | some (.array n e) => { st := (elemBody P e n xs).1, e := t, body := (elemBody P e n xs).2 }
  | _ => { st := sizeT P t, e := t, body := .cells xs }

def ofConst : Value → NS
  | .agg cs => match scals cs.toList with
    | some l => .v (.ag l)
    | none => .dead
  | v => match scal v with
    | some x => .v (.c x)
    | none => .dead
def St.ev (s : St) : Operand → NS
  | .tmp t => s.fr.getD t .dead
  | .const v => ofConst v
  | .global g => .v (.c (.g g))
  | .func f => .v (.c (.cl f []))

/-! ### numbers -/
def bitsv (op : BinOp) (k : IntKind) (x y : Int) : Int := bits op k x y
def shlv (k : IntKind) (x y : Int) : Int := k.wrap (x * 2 ^ min y.toNat k.bits)
def shrv (k : IntKind) (x y : Int) : Int := x.fdiv (2 ^ min y.toNat k.bits)

def nbinI (op : BinOp) (k : IntKind) (x y : Int) : Option (List Bool × NC) :=
  match op with
  | .add => some ([], .i k (k.wrap (x + y)))
  | .sub => some ([], .i k (k.wrap (x - y)))
  | .mul => some ([], .i k (k.wrap (x * y)))
  | .quo => some ([y != 0], .i k (k.wrap (x.tdiv y)))
  | .rem => some ([y != 0], .i k (x.tmod y))
  | .and => some ([], .i k (bits .and k x y))
  | .or => some ([], .i k (bits .or k x y))
  | .xor => some ([], .i k (bits .xor k x y))
  | .andNot => some ([], .i k (bits .andNot k x y))
  | .eql => some ([], .b (x == y))
  | .neq => some ([], .b (x != y))
  | .lss => some ([], .b (decide (x < y)))
  | .leq => some ([], .b (decide (x ≤ y)))
  | .gtr => some ([], .b (decide (x > y)))
  | .geq => some ([], .b (decide (x ≥ y)))
  | _ => none
def nbin (P : Program) (op : BinOp) (t : TypeId) (a b : NC) : Option (List Bool × NC) :=
  match a, b with
  | .i k x, .i k' y =>
    (match op with
     | .shl => some ([decide (0 ≤ y)], .i k (shlv k x y))
     | .shr => some ([decide (0 ≤ y)], .i k (shrv k x y))
     | op => if k = k' then nbinI op k x y else none)
  | .b x, .b y =>
    (match P.underlying t with
     | some .bool =>
       (match op with
        | .eql => some ([], .b (x == y))
        | .neq => some ([], .b (!(x == y)))
        | _ => none)
     | _ => none)
  | .s x, .s y =>
    (match op with
     | .add => some ([decide (((x.size + y.size : Nat) : Int) ≤ 9223372036854775807)], .s (x ++ y))
     | .eql => some ([], .b (x.toList == y.toList))
     | .neq => some ([], .b (!(x.toList == y.toList)))
     | _ => none)
  | .h _ _ _, .sn =>
    (match P.underlying t with
     | some (.slice _) =>
       (match op with
        | .eql => some ([], .b false)
        | .neq => some ([], .b true)
        | _ => none)
     | _ => none)
  | .l _ xs, .sn =>
    (match P.underlying t with
     | some (.slice _) =>
       (match op with
        | .eql => some ([!xs.isEmpty], .b false)
        | .neq => some ([!xs.isEmpty], .b true)
        | _ => none)
     | _ => none)
  | .lr _ xs, .sn =>
    (match P.underlying t with
     | some (.slice _) =>
       (match op with
        | .eql => some ([!xs.isEmpty], .b false)
        | .neq => some ([!xs.isEmpty], .b true)
        | _ => none)
     | _ => none)
  | .sn, .sn =>
    (match P.underlying t with
     | some (.slice _) =>
       (match op with
        | .eql => some ([], .b true)
        | .neq => some ([], .b false)
        | _ => none)
     | _ => none)
  | _, _ => none
/-- Errors: is the dynamic type of the listed ones one whose values are compared by their addresses? -/
def errTy (P : Program) (et : TypeId) : Bool :=
  match P.underlying et with
  | some (.pointer te) => (match P.info? et, P.info? te with
    | some i, some j => i.comparable && j.size != 0
    | _, _ => false)
  | _ => false
def isIface (P : Program) (t : TypeId) : Bool :=
  match P.underlying t with
  | some (.interface _) => true
  | _ => false
def isConst (x : Operand) : Bool :=
  match x with
  | .const _ => true
  | _ => false
/-- Are two errors the same? -/
def errEq (P : Program) (gl : List Nat) (x y : Operand) (a b : NC) : Option Bool :=
  match a, b with
  | .e j, .en => if gl.tail.contains j then some false else none
  | .en, .e j => if gl.tail.contains j then some false else none
  | .en, .en => if isConst x || isConst y then some true else none
  | .e j, .e k => if errTy P (gl.headD 0) && gl.tail.contains j && gl.tail.contains k then some (j == k) else none
  | _, _ => none
def nbinE (P : Program) (gl : List Nat) (op : BinOp) (t : TypeId) (x y : Operand) (a b : NC) : Option (List Bool × NC) :=
  match isIface P t with
  | true =>
    (match op, errEq P gl x y a b with
     | .eql, some r => some ([], .b r)
     | .neq, some r => some ([], .b (!r))
     | _, _ => none)
  | false => nbin P op t a b
def nun (op : UnOp) (a : NC) : Option NC :=
  match op, a with
  | .not, .b x => some (.b (!x))
  | .neg, .i k n => some (.i k (k.wrap (0 - n)))
  | .xor, .i k n => some (.i k (bits .xor k (if k.signed then -1 else k.max) n))
  | _, _ => none

/-! ### what an operation does -/
inductive R1 where
  | no
  | val (c : List Bool) (v : NS)
  | new (c : List Bool) (g : Reg) (v : Nat → NS)
  | upd (c : List Bool) (n : Nat) (g : Reg)

def sub (xs : List NC) (o n : Nat) : Option (List NC) :=
  let l := (xs.drop o).take n
  if l.length = n then some l else none
def intsNC (k : IntKind) (xs : List Int) : List NC := xs.map (.i k)
def rowsNC (ks : List CK) (xs : List (List Sc)) : List NC := xs.flatMap (rowCells ks)

def ofV (x : Option (List Bool × NS)) : R1 :=
  match x with
  | some (c, v) => .val c v
  | none => .no

def nload (P : Program) (gl : List Nat) (s : St) (t : TypeId) (a : NC) : Option (List Bool × NS) :=
  match a with
  | .p r i c =>
    (match s.reg r with
     | some g =>
       (match g.body, isAggT P t with
        | .cells xs, true => (match sub xs (i * g.st + c) (sizeT P t) with | some l => some ([], .v (.ag l)) | none => none)
        | .cells xs, false => (match xs[i * g.st + c]? with | some x => some ([], .v (.c x)) | none => none)
        | .ints k xs, false => (match c with | 0 => some ([decide (i < xs.length)], .v (.c (.i k (xs.getD i 0)))) | _ => none)
        | .ints k xs, true => (match i, c with | 0, 0 => if xs.length = sizeT P t then some ([], .v (.ag (intsNC k xs))) else none | _, _ => none)
        | .recs ks xs, false =>
          (match ks[c]? with
           | some k => some ([decide (i < xs.length)], .v (.c (ckNC k ((xs.getD i []).getD c (.i 0)))))
           | none => none)
        | .recs ks xs, true =>
          (match c with
           | 0 => if sizeT P t = ks.length then some ([decide (i < xs.length)], .v (.ag (rowCells ks (xs.getD i []))))
             else if i = 0 then (if sizeT P t = xs.length * ks.length then some ([], .v (.ag (rowsNC ks xs))) else none) else none
           | _ => none))
     | none => none)
  | .pl k xs i => if isAggT P t then none else some ([decide (i < xs.length)], .v (.c (.i k (xs.getD i 0))))
  | .pr ks xs i c =>
    if isAggT P t then
      (match c with
       | 0 => if sizeT P t = ks.length then some ([decide (i < xs.length)], .v (.ag (rowCells ks (xs.getD i [])))) else none
       | _ => none)
    else
      (match ks[c]? with
       | some k => some ([decide (i < xs.length)], .v (.c (ckNC k ((xs.getD i []).getD c (.i 0)))))
       | none => none)
  | .g x => if isAggT P t then none else if gl.tail.contains x then some ([], .v (.c (.e x))) else none
  | _ => none

def splice {α : Type} (xs : List α) (o : Nat) (ys : List α) : List α := xs.take o ++ ys ++ xs.drop (o + ys.length)
/-- One number is another one: a list that is written out stays so, whatever the place. -/
def setI : List Int → Nat → Int → Nat → List Int
  | [], _, _, _ => []
  | x :: xs, i, v, j => (bif i == j then v else x) :: setI xs i v (j + 1)
/-- The row with the scalar at place c, written out. -/
def setRow (ks : List CK) (row : List Sc) (c : Nat) (x : Sc) : List Sc := (List.range ks.length).map fun j => if j = c then x else row.getD j (.i 0)

def nstore (P : Program) (s : St) (t : TypeId) (a : NC) (x : NV) : Option (List Bool × Nat × Reg) :=
  if x.cells.length = sizeT P t then
    match a with
    | .p r i c =>
      (match s.reg r with
       | some g =>
         (match g.body with
          | .cells xs =>
            if i * g.st + c + x.cells.length ≤ xs.length then some ([], r, { g with body := .cells (splice xs (i * g.st + c) x.cells) }) else none
          | .ints k xs =>
            (match c with
             | 0 => (match x with
               | .c (.i k' n) => if k = k' then some ([decide (i < xs.length)], r, { g with body := .ints k (setI xs i n 0) }) else none
               | .c _ => none
               | .ag ys => (match i, toInts k ys with
                 | 0, some l => if l.length = xs.length then some ([], r, { g with body := .ints k l }) else none
                 | _, _ => none))
             | _ => none)
          | .recs ks xs =>
            (match x with
             | .c y => (match ks[c]? with
               | some k => (match toSc k y with
                 | some z => some ([decide (i < xs.length)], r, { g with body := .recs ks (xs.set i (setRow ks (xs.getD i []) c z)) })
                 | none => none)
               | none => none)
             | .ag ys =>
               (match c with
                | 0 => if ys.length = ks.length then
                    (match toRow ks ys with
                     | some row => some ([decide (i < xs.length)], r, { g with body := .recs ks (xs.set i row) })
                     | none => none)
                  else (match i, toRows ks xs.length ys with
                    | 0, some rows => some ([], r, { g with body := .recs ks rows })
                    | _, _ => none)
                | _ => none)))
       | none => none)
    | _ => none
  else none

def fieldOff (P : Program) (t : TypeId) (f : Nat) : Option (Nat × TypeId) :=
  match P.underlying t with
  | some (.struct fs) => (match fs[f]? with
    | some x => if sizeT P x.type = 0 then none else some (x.offset, x.type)
    | none => none)
  | _ => none

def nindexAddr (P : Program) (s : St) (t : TypeId) (x ix : NC) : Option (List Bool × NS) :=
  match ix with
  | .i _ n =>
    (match P.underlying t, x with
     | some (.array len e), .p r i c =>
       (match s.reg r with
        | some g =>
          let cond := [decide (0 ≤ n), decide (n < len)]
          if 1 < len ∧ 0 < sizeT P e then
            (if sizeT P e = g.st then (match c with | 0 => some (cond, .v (.c (.p r (i + n.toNat) 0))) | _ => some (cond, .v (.c (.p r i (c + n.toNat * sizeT P e)))))
             else some (cond, .v (.c (.p r i (c + n.toNat * sizeT P e)))))
          else none
        | none => none)
     | some (.slice e), .h r off len =>
       (match s.reg r with
        | some g => if sizeT P e = g.st ∧ 0 < g.st then some ([decide (0 ≤ n), decide (n < len)], .v (.c (.p r (off + n.toNat) 0))) else none
        | none => none)
     | some (.slice e), .l k xs => if sizeT P e = 1 then some ([decide (0 ≤ n), decide (n < xs.length)], .v (.c (.pl k xs n.toNat))) else none
     | some (.slice e), .lr ks xs => if sizeT P e = ks.length then some ([decide (0 ≤ n), decide (n < xs.length)], .v (.c (.pr ks xs n.toNat 0))) else none
     | _, _ => none)
  | _ => none

def byteAt (s : ByteArray) (i : Nat) : Int := ((s.data.getD i 0).toNat : Int)
def agInts : List NC → Option (IntKind × List Int)
  | [] => none
  | .i k n :: l => (match toInts k l with | some r => some (k, n :: r) | none => none)
  | _ :: _ => none
def agBools : List NC → Option (List Bool)
  | [] => some []
  | .b x :: l => (match agBools l with | some r => some (x :: r) | none => none)
  | _ :: _ => none
def nindex (P : Program) (t : TypeId) (x : NS) (ix : NC) : Option (List Bool × NS) :=
  match ix with
  | .i _ n =>
    (match P.underlying t, x with
     | some .string, .v (.c (.s z)) => some ([decide (0 ≤ n), decide (n < z.size)], .v (.c (.i .u8 (byteAt z n.toNat))))
     | some (.array len e), .v (.ag xs) =>
       if isAggT P e then (if 0 < sizeT P e then some ([decide (0 ≤ n), decide (n < len)], .v (.ag ((xs.drop (n.toNat * sizeT P e)).take (sizeT P e)))) else none) else if sizeT P e = 1 then
         (match agInts xs with
          | some (k, l) => if l.length = len then
              (match P.underlying e with
               | some _ => some ([decide (0 ≤ n), decide (n < len)], .v (.c (.i k (l.getD n.toNat 0))))
               | none => none)
            else none
          | none =>
            (match agBools xs with
             | some l => if l.length = len then
                 (match P.underlying e with
                  | some _ => some ([decide (0 ≤ n), decide (n < len)], .v (.c (.b (l.getD n.toNat false))))
                  | none => none)
               else none
             | none => none))
       else none
     | _, _ => none)
  | _ => none

def ofOpt (s : St) (x : Option Operand) : Option (Option NC) :=
  match x with
  | none => some none
  | some o => (match (s.ev o).nc with
    | some a => some (some a)
    | none => none)
/-- The bounds of a slice expression over a length: its conditions, from, to. -/
def sliceB (len : Nat) (lo hi : Option NC) : Option (List Bool × Nat × Nat) :=
  match lo, hi with
  | none, none => some ([], 0, len)
  | none, some (.i _ h) => some ([decide (0 ≤ h), decide (h ≤ len)], 0, h.toNat)
  | some (.i _ l), none => some ([decide (0 ≤ l), decide (l ≤ len)], l.toNat, len)
  | some (.i _ l), some (.i _ h) => some ([decide (0 ≤ l), decide (l ≤ h), decide (h ≤ len)], l.toNat, h.toNat)
  | _, _ => none
def nslice (P : Program) (s : St) (t : TypeId) (x : NC) (lo hi : Option NC) : Option (List Bool × NS) :=
  match P.underlying t, x with
  | some (.slice e), .h r off len =>
    (match s.reg r, sliceB len lo hi with
     | some g, some (c, a, b) => if sizeT P e = g.st ∧ 0 < g.st then some (c, .v (.c (.h r (off + a) (b - a)))) else none
     | _, _ => none)
  | some (.slice e), .l k xs =>
    (match sliceB xs.length lo hi with
     | some (c, a, b) => if sizeT P e = 1 then some (c, .v (.c (.l k ((xs.take b).drop a)))) else none
     | none => none)
  | some (.slice e), .lr ks xs =>
    (match sliceB xs.length lo hi with
     | some (c, a, b) => if sizeT P e = ks.length then some (c, .v (.c (.lr ks ((xs.take b).drop a)))) else none
     | none => none)
  | some .string, .s z =>
    (match sliceB z.size lo hi with
     | some (c, a, b) => some (c, .v (.c (.s (z.extract a b))))
     | none => none)
  | some (.slice e), .sn =>
    (match sliceB 0 lo hi with
     | some (c, _, _) => if 0 < sizeT P e then some (c, .v (.c .sn)) else none
     | none => none)
  | _, _ => none

/-- What stands in a slice: its element kinds and its elements. -/
inductive Els where
  | ints (k : IntKind) (xs : List Int)
  | recs (ks : List CK) (xs : List (List Sc))
def els (s : St) (x : NC) : Option (List Bool × Els) :=
  match x with
  | .h r off len =>
    (match s.reg r with
     | some g =>
       (match g.body with
        | .ints k xs => some ([decide (off + len ≤ xs.length)], .ints k ((xs.drop off).take len))
        | .recs ks xs => some ([decide (off + len ≤ xs.length)], .recs ks ((xs.drop off).take len))
        | .cells _ => none)
     | none => none)
  | .l k xs => some ([], .ints k xs)
  | .lr ks xs => some ([], .recs ks xs)
  | _ => none

def makeReg (P : Program) (e : TypeId) (n : Nat) : Option Reg :=
  match zeroCells P e with
  | some [.i k z] => some { st := 1, e := e, body := .ints k (List.replicate n z) }
  | some [.b z] => some { st := 1, e := e, body := .recs [.b] (List.replicate n [.b z]) }
  | some zs =>
    (match ksFrom zs with
     | some ks =>
       (match toRow ks zs with
        | some row => if 1 < ks.length then some { st := ks.length, e := e, body := .recs ks (List.replicate n row) } else none
        | none => none)
     | none => none)
  | none => none
def buildParts (P : Program) (size : Nat → Option (Nat × Nat)) : List NC → List (Nat × NS) → Option (List NC)
  | xs, [] => some xs
  | xs, (i, v) :: rest =>
    (match size i, v.nv with
     | some (off, n), some x =>
       if x.cells.length = n ∧ off + n ≤ xs.length then buildParts P size (splice xs off x.cells) rest else none
     | _, _ => none)
def nbuild (P : Program) (t : TypeId) (parts : List (Nat × NS)) : Option (List NC) :=
  match zeroCells P t, P.underlying t with
  | some z, some (.struct fs) => if fs.toList.all (fun f => (P.info? f.type).isSome) then buildParts P (fun i => (fs[i]?).map fun f => (f.offset, sizeT P f.type)) z parts else none
  | some z, some (.array _ e) => if 0 < sizeT P e then buildParts P (fun i => some (i * sizeT P e, sizeT P e)) z parts else none
  | _, _ => none
def repl (n : Nat) (z : List NC) : List NC := (List.replicate n z).flatten

def nlen (P : Program) (s : St) (args : List Operand) (ts : List TypeId) : Option (List Bool × NS) :=
  match args, ts with
  | [x], [t] =>
    (match P.underlying t, s.ev x with
     | some (.slice _), .v (.c (.h _ _ n)) => some ([], .v (.c (.i .i64 n)))
     | some (.slice _), .v (.c (.l _ xs)) => some ([], .v (.c (.i .i64 xs.length)))
     | some (.slice _), .v (.c (.lr _ xs)) => some ([], .v (.c (.i .i64 xs.length)))
     | some (.slice _), .v (.c .sn) => some ([], .v (.c (.i .i64 0)))
     | some .string, .v (.c (.s z)) => some ([], .v (.c (.i .i64 z.size)))
     | some (.array n _), _ => some ([], .v (.c (.i .i64 n)))
     | _, _ => none)
  | _, _ => none

/-- The less, or the greater, of two integers. -/
def nmm (less : Bool) (s : St) (args : List Operand) : Option (List Bool × NS) :=
  match args with
  | [x, y] =>
    (match s.ev x, s.ev y with
     | .v (.c (.i k m)), .v (.c (.i _ n)) => some ([], .v (.c (.i k (bif (match less with | true => decide (n < m) | false => decide (n > m)) then n else m))))
     | _, _ => none)
  | _ => none

/-- How much room a slice has: told of nil alone. -/
def ncap (P : Program) (s : St) (args : List Operand) (ts : List TypeId) : Option (List Bool × NS) :=
  match args, ts with
  | [x], [t] =>
    (match P.underlying t, s.ev x with
     | some (.slice _), .v (.c .sn) => some ([], .v (.c (.i .i64 0)))
     | _, _ => none)
  | _, _ => none
def allPtr : List NS → Option (List (Nat × Nat × Nat))
  | [] => some []
  | .v (.c (.p r i c)) :: l => (match allPtr l with
    | some t => some ((r, i, c) :: t)
    | none => none)
  | _ :: _ => none
def zeroNil (P : Program) (t : TypeId) : Bool :=
  match P.info? t with
  | some i => (match i.zero with
    | some (.pointer none) => true
    | _ => false)
  | none => false
def nassert (P : Program) (gl : List Nat) (x : NC) (asserted : TypeId) : Option NS :=
  match x with
  | .en => (match P.underlying asserted, zeroNil P asserted with | some (.pointer _), true => some (.tu [.c .pn, .c (.b false)]) | _, _ => none)
  | .e k => if gl.headD 0 == asserted || !gl.tail.contains k then none else (match P.underlying asserted, zeroNil P asserted with | some (.pointer _), true => some (.tu [.c .pn, .c (.b false)]) | _, _ => none)
  | _ => none
def light (P : Program) (gl : List Nat) (s : St) (op : Op) : R1 :=
  match op with
  | .move x | .assign x => .val [] (s.ev x)
  | .alloc t => (match zeroCells P t with
    | some z => .new [] (varReg P t z) (fun n => .v (.c (.p n 0 0)))
    | none => .no)
  | .box t x => (match (s.ev x).nv with
    | some v => if v.cells.length = sizeT P t then .new [] (varReg P t v.cells) (fun n => .v (.c (.p n 0 0))) else .no
    | none => .no)
  | .build t parts => (match nbuild P t (parts.toList.map fun (i, x) => (i, s.ev x)) with
    | some l => .val [] (.v (.ag l))
    | none => .no)
  | .buildSlice t len parts =>
    (match P.underlying t with
     | some (.slice e) =>
       (match zeroCells P e with
        | some z =>
          if len * z.length ≤ 16777216 ∧ len ≤ 16777216 then
            (match buildParts P (fun i => some (i * sizeT P e, sizeT P e)) (repl len z) (parts.toList.map fun (i, x) => (i, s.ev x)) with
             | some l => .new [] { st := (elemBody P e len l).1, e := e, body := (elemBody P e len l).2 } (fun n => .v (.c (.h n 0 len)))
             | none => .no)
          else .no
        | none => .no)
     | _ => .no)
  | .load t a => (match P.underlying t, (s.ev a).nc with | some _, some x => ofV (nload P gl s t x) | _, _ => .no)
  | .store t a x => (match P.info? t, (s.ev a).nc, (s.ev x).nv with
    | some _, some y, some z => (match nstore P s t y z with | some (c, n, g) => .upd c n g | none => .no)
    | _, _, _ => .no)
  | .nilCheck x => (match s.ev x with
    | .v (.c (.p r i c)) => .val [] (.v (.c (.p r i c)))
    | .v (.c (.pl k xs i)) => .val [] (.v (.c (.pl k xs i)))
    | .v (.c (.pr ks xs i c)) => .val [] (.v (.c (.pr ks xs i c)))
    | .v (.c (.g x)) => .val [] (.v (.c (.g x)))
    | _ => .no)
  | .binOp op t x y _ => (match (s.ev x).nc, (s.ev y).nc with
    | some a, some b => (match nbinE P gl op t x y a b with | some (c, v) => .val c (.v (.c v)) | none => .no)
    | _, _ => .no)
  | .unOp op _ x => (match (s.ev x).nc with
    | some a => (match nun op a with | some v => .val [] (.v (.c v)) | none => .no)
    | none => .no)
  | .convert src dst x => (match (s.ev x).nc with
    | some (.i _ n) => (match P.underlying src, P.underlying dst with
      | some _, some (.int k) => .val [] (.v (.c (.i k (k.wrap n))))
      | _, _ => .no)
    | _ => .no)
  | .makeSlice t l c => (match P.underlying t, (s.ev l).nc, (s.ev c).nc with
    | some (.slice e), some (.i .i64 n), some (.i .i64 m) =>
      (match makeReg P e n.toNat with
       | some g => .new [decide (0 ≤ n), decide (n ≤ m), decide (m * bytesT P e ≤ 140737488355328), decide (m ≤ 9223372036854775807)] g (fun nm => .v (.c (.h nm 0 n.toNat)))
       | none => .no)
    | _, _, _ => .no)
  | .slice t x lo hi none => (match (s.ev x).nc, ofOpt s lo, ofOpt s hi with
    | some a, some l, some h => ofV (nslice P s t a l h)
    | _, _, _ => .no)
  | .fieldAddr t x f => (match (s.ev x).nc, fieldOff P t f with
    | some (.p r i c), some (o, _) => .val [] (.v (.c (.p r i (c + o))))
    | some (.pr ks xs i c), some (o, _) => .val [] (.v (.c (.pr ks xs i (c + o))))
    | _, _ => .no)
  | .field t x f => (match s.ev x, fieldOff P t f with
    | .v (.ag xs), some (o, ft) =>
      (match P.underlying ft with
       | some _ =>
         if isAggT P ft then (match sub xs o (sizeT P ft) with | some l => .val [] (.v (.ag l)) | none => .no)
         else (match xs[o]? with | some y => .val [] (.v (.c y)) | none => .no)
       | none => .no)
    | _, _ => .no)
  | .indexAddr t x ix => (match (s.ev x).nc, (s.ev ix).nc with
    | some a, some b => ofV (nindexAddr P s t a b)
    | _, _ => .no)
  | .index t x ix => (match (s.ev ix).nc with
    | some b => ofV (nindex P t (s.ev x) b)
    | none => .no)
  | .sliceToArrayPointer t x => (match P.underlying t, (s.ev x).nc with
    | some (.array n _), some (.h r off len) => if 0 < n then .val [decide (n ≤ len)] (.v (.c (.p r off 0))) else .no
    | _, _ => .no)
  | .makeFunc (.func f) first caps => if first.size = 0 then
      (match allPtr (caps.toList.map s.ev) with
       | some l => .val [] (.v (.c (.cl f l)))
       | none => .no)
    else .no
  | .typeAssert x _ asserted true => (match (s.ev x).nc with
    | some a => (match nassert P gl a asserted with | some v => .val [] v | none => .no)
    | none => .no)
  | .extract x i => (match s.ev x with
    | .tu l => (match l[i]? with | some v => .val [] (.v v) | none => .no)
    | _ => .no)
  | .call c => (match c.callee with
    | .builtin .len => ofV (nlen P s c.args.toList c.argTypes.toList)
    | .builtin .cap => ofV (ncap P s c.args.toList c.argTypes.toList)
    | .builtin .min => ofV (nmm true s c.args.toList)
    | .builtin .max => ofV (nmm false s c.args.toList)
    | _ => .no)
  | _ => .no

/-! ### states -/
def sel (x : Bool) (A B : Prop) : Prop :=
  match x with
  | true => A
  | false => B
def chks : List Bool → Prop → Prop
  | [], A => A
  | b :: bs, A => sel b (chks bs A) False

end Go.Nx
