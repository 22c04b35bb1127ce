/-
  The engine, part 2: calls, regions of operations, code: what must hold ahead of them so that something holds behind them. Plain functions into Prop that the kernel can run.
-/
import Derived.Test.YtnhadghddkgjdaaEng1
import Derived.Laws.BytesArg
namespace Go.Nx
open Go

/-- A decision tree: what a call may come to. 'all': to something that is not told, but that p is true of it. -/
inductive Tr (α : Type) : Type 1 where
  | ret (a : α)
  | br (c : Bool) (x y : Tr α)
  | must (p : Prop) (x : Tr α)
  | all {ι : Type} (p : ι → Prop) (h : ∃ i, p i) (f : ι → Tr α)
  | fail

def Tr.run {α : Type} : Tr α → (α → Prop) → Prop
  | .ret a, R => R a
  | .br c x y, R => sel c (x.run R) (y.run R)
  | .must p x, R => p ∧ x.run R
  | .all p _ f, R => ∀ i, p i → (f i).run R
  | .fail, _ => False

/-- What a call yields: its results, and the regions: first those that were handed in, then new ones. -/
structure Out where
  res : NS
  rg : List (Option Reg)

abbrev Con := List NV → List Reg → Tr Out

inductive NExit where
  | normal
  | exit (id : Nat)
  | ret
  deriving DecidableEq

/-! ### names -/
def names : NC → List Nat
  | .p r _ _ => [r]
  | .h r _ _ => [r]
  | .cl _ cap => cap.map (·.1)
  | _ => []
def ptrNames : NC → List Nat
  | .p r _ _ => [r]
  | .cl _ cap => cap.map (·.1)
  | _ => []
def Body.names : Body → List Nat
  | .cells xs => xs.flatMap Nx.names
  | _ => []
def NV.names (x : NV) : List Nat := x.cells.flatMap Nx.names
def NS.names : NS → List Nat
  | .v x => x.names
  | .tu l => l.flatMap NV.names
  | .dead => []
def NS.ptrNames : NS → List Nat
  | .v x => x.cells.flatMap Nx.ptrNames
  | _ => []
/-- The regions that a callee is handed: what a pointer names, and the slices of cells. -/
def seeds (s : St) : NC → List Nat
  | .p r _ _ => [r]
  | .cl _ cap => cap.map (·.1)
  | .h r _ _ => (match s.reg r with
    | some { body := .cells _, .. } => [r]
    | _ => [])
  | _ => []
def NS.seeds (s : St) : NS → List Nat
  | .v x => x.cells.flatMap (Nx.seeds s)
  | _ => []
def reach (s : St) : Nat → List Nat → List Nat → List Nat
  | 0, _, acc => acc
  | _, [], acc => acc
  | fuel + 1, n :: todo, acc =>
    if acc.contains n then reach s fuel todo acc
    else match s.reg n with
      | some g => reach s fuel (g.body.names ++ todo) (acc ++ [n])
      | none => reach s fuel todo acc
def mapNC (ρ : Nat → Option Nat) : NC → Option NC
  | .p r i c => (ρ r).map fun r => .p r i c
  | .h r o n => (ρ r).map fun r => .h r o n
  | .cl f cap => (cap.mapM fun x => (ρ x.1).map fun r => (r, x.2)).map fun l => .cl f l
  | x => some x
def mapL {α β : Type} (f : α → Option β) : List α → Option (List β)
  | [] => some []
  | x :: xs => match f x, mapL f xs with
    | some a, some l => some (a :: l)
    | _, _ => none
def mapNV (f : NC → Option NC) : NV → Option NV
  | .c x => (f x).map .c
  | .ag xs => (mapL f xs).map .ag
def mapNS (f : NC → Option NC) : NS → Option NS
  | .v x => (mapNV f x).map .v
  | .tu l => (mapL (mapNV f) l).map .tu
  | .dead => some .dead
def mapReg (f : NC → Option NC) (g : Reg) : Option Reg :=
  match g.body with
  | .cells xs => (mapL f xs).map fun l => { g with body := .cells l }
  | _ => some g
def mapRg (f : NC → Option NC) : List (Option Reg) → Option (List (Option Reg))
  | [] => some []
  | none :: l => (mapRg f l).map (none :: ·)
  | some g :: l => match mapReg f g, mapRg f l with
    | some a, some r => some (some a :: r)
    | _, _ => none
def posIn (l : List Nat) (n : Nat) : Option Nat := l.findIdx? (· == n)

/-! ### a call -/
/-- An argument as the callee sees it, and what must hold: a slice of a region that is not handed over is a list. -/
def argNC (_P : Program) (s : St) (passed : List Nat) (_t : Option TypeId) (x : NC) : Option (List Bool × NC) :=
  match x with
  | .h r off len =>
    (match posIn passed r with
     | some i => some ([], .h i off len)
     | none => (match els s (.h r off len) with
       | some (c, .ints k xs) => some (c, .l k xs)
       | some (c, .recs ks xs) => some (c, .lr ks xs)
       | _ => none))
  | .sn => some ([], .sn)
  | x => (mapNC (posIn passed) x).map fun y => ([], y)
def argL (f : NC → Option (List Bool × NC)) : List NC → Option (List Bool × List NC)
  | [] => some ([], [])
  | x :: xs => match f x, argL f xs with
    | some (c, a), some (d, l) => some (c ++ d, a :: l)
    | _, _ => none
def argNV (P : Program) (s : St) (passed : List Nat) (t : Option TypeId) : NV → Option (List Bool × NV)
  | .c x => (argNC P s passed t x).map fun p => (p.1, .c p.2)
  | .ag xs => (argL (argNC P s passed none) xs).map fun p => (p.1, .ag p.2)
def argsNV (P : Program) (s : St) (passed : List Nat) : List TypeId → List NV → Option (List Bool × List NV)
  | _, [] => some ([], [])
  | ts, x :: xs => match argNV P s passed ts.head? x, argsNV P s passed ts.tail xs with
    | some (c, a), some (d, l) => some (c ++ d, a :: l)
    | _, _ => none
def NC.isL : NC → Bool
  | .l _ _ | .lr _ _ | .pl _ _ _ | .pr _ _ _ _ => true
  | _ => false
def NS.anyL : NS → Bool
  | .v x => x.cells.any NC.isL
  | .tu l => l.any fun x => x.cells.any NC.isL
  | .dead => false
def rgAnyL (l : List (Option Reg)) : Bool := l.any fun g => match g with
  | some { body := .cells xs, .. } => xs.any NC.isL
  | _ => false
def backTo (passed : List Nat) (nm tot : Nat) (j : Nat) : Option Nat :=
  if j < passed.length then passed[j]? else if j < tot then some (nm + (j - passed.length)) else none

def allNV : List NS → Option (List NV)
  | [] => some []
  | x :: xs => match x.nv, allNV xs with
    | some a, some l => some (a :: l)
    | _, _ => none

structure Cx where
  P : Program
  con : FuncId → Option Con
  glob : List Nat
  m : Nat
  loops : List (Nat × List Nat × (St → Tr (NExit × St)))

/-- What an operation does: regions that are something else (none: no more), and what it yields. -/
structure Eff where
  up : List (Nat × Option Reg)
  v : NS

def Tr.bind {α β : Type} : Tr α → (α → Tr β) → Tr β
  | .ret a, f => f a
  | .br c x y, f => .br c (x.bind f) (y.bind f)
  | .must p x, f => .must p (x.bind f)
  | .all p h g, f => .all p h fun i => (g i).bind f
  | .fail, _ => .fail
def chkT {α : Type} : List Bool → Tr α → Tr α
  | [], t => t
  | b :: bs, t => .br b (chkT bs t) .fail

def upsOf (back : Nat → Option Nat) : Nat → List (Option Reg) → Option (List (Nat × Option Reg))
  | _, [] => some []
  | j, g :: l => match back j, upsOf back (j + 1) l with
    | some n, some r => some ((n, g) :: r)
    | _, _ => none

def ncallP (X : Cx) (passed : List Nat) (f : FuncId) (args : List NV) (nm : Nat) (s : St) : Tr Eff :=
  match X.con f, X.P.funcs[f]? with
  | some T, some fn =>
    let lent := (args.flatMap NV.names).filter fun n => !passed.contains n
    match argsNV X.P s passed fn.params.toList args, mapL (fun n => (s.reg n).bind (mapReg (mapNC (posIn passed)))) passed with
    | some (c, args'), some regs =>
      match T args' regs with
      | .fail => .fail
      | t => chkT c <| t.bind fun o =>
        match mapNS (mapNC (backTo passed nm o.rg.length)) o.res, (mapRg (mapNC (backTo passed nm o.rg.length)) o.rg).bind (upsOf (backTo passed nm o.rg.length) 0) with
        | some res, some ups =>
          if passed.length ≤ o.rg.length ∧ o.rg.length ≤ passed.length + 8 then
            .ret { up := ups ++ (if o.res.anyL || rgAnyL o.rg then lent.map fun n => (n, none) else []), v := res }
          else .fail
        | _, _ => .fail
    | _, _ => .fail
  | _, _ => .fail

def ncall (X : Cx) (f : FuncId) (args : List NV) (nm : Nat) (s : St) : Tr Eff := ncallP X (reach s 64 (args.flatMap fun x => x.cells.flatMap (seeds s)) []) f args nm s

/-! ### one operation -/
/-- The elements of one slice behind those of another one. -/
def Els.app : Els → Els → Option Els
  | .ints k xs, .ints k' ys => if k = k' then some (.ints k (xs ++ ys)) else none
  | .recs ks xs, .recs ks' ys => if ks = ks' then some (.recs ks (xs ++ ys)) else none
  | _, _ => none
def Els.length : Els → Nat
  | .ints _ xs => xs.length
  | .recs _ xs => xs.length
def Els.reg (e : TypeId) : Els → Reg
  | .ints k xs => { st := 1, e := e, body := .ints k xs }
  | .recs ks xs => { st := ks.length, e := e, body := .recs ks xs }
/-- Do the elements fit the type? -/
def Els.fits (P : Program) (e : TypeId) : Els → Bool
  | .ints k _ => decide (ksOf P e = some [.i k])
  | .recs ks _ => decide (ksOf P e = some ks) && decide (0 < ks.length)
def appConds (P : Program) (e : TypeId) (n : Nat) : List Bool := [decide (n * bytesT P e ≤ 140737488355328), decide (n ≤ 9223372036854775807)]
def nappend (P : Program) (s : St) (t : TypeId) (x y : NC) (nm : Nat) : Tr Eff :=
  match P.underlying t with
  | some (.slice e) =>
    (match y with
     | .sn => if 0 < sizeT P e then
       (match x with
        | .sn => .ret { up := [], v := .v (.c .sn) }
        | .h r off len => .ret { up := [], v := .v (.c (.h r off len)) }
        | _ => .fail) else .fail
     | y =>
       (match els s y with
        | some (c, ys) =>
          if ys.fits P e then
            (match x with
             | .sn => chkT c <| .br (decide (ys.length = 0)) (.ret { up := [], v := .v (.c .sn) })
                 (chkT (appConds P e ys.length) (.ret { up := [(nm, some (ys.reg e))], v := .v (.c (.h nm 0 ys.length)) }))
             | .h r off len =>
               (match off, els s (.h r 0 len), s.reg r with
                | 0, some (d, xs), some g =>
                  (match xs.app ys with
                   | some zs =>
                     if g.e = e ∧ xs.fits P e then
                       chkT c <| chkT d <| chkT (appConds P e (len + ys.length)) (.ret { up := [(r, none), (nm, some (zs.reg e))], v := .v (.c (.h nm 0 (len + ys.length))) })
                     else .fail
                   | none => .fail)
                | _, _, _ => .fail)
             | _ => .fail)
          else .fail
        | none => .fail))
  | _ => .fail

/-- So many zeros behind a slice. -/
def nzeros (P : Program) (s : St) (t u : TypeId) (x y : NC) (nm : Nat) : Tr Eff :=
  match P.underlying t, P.underlying u, y with
  | some (.slice e), some (.int _), .i _ n =>
    (match x with
     | .sn => (match zeroCells P e with
       | some [.i k z] => chkT [decide (0 < n), decide (n.toNat * bytesT P e ≤ 140737488355328), decide (n ≤ 9223372036854775807)]
           (.ret { up := [(nm, some ((Els.ints k (List.replicate n.toNat z)).reg e))], v := .v (.c (.h nm 0 n.toNat)) })
       | _ => .fail)
     | .h r off len => (match zeroCells P e, off, els s (.h r 0 len), s.reg r with
       | some [.i k z], 0, some (d, .ints k' xs), some g =>
         if g.e = e ∧ k = k' then
           chkT d <| chkT [decide (0 < n), decide ((len + n.toNat) * bytesT P e ≤ 140737488355328), decide (len + n.toNat ≤ 9223372036854775807)]
             (.ret { up := [(r, none), (nm, some ((Els.ints k (xs ++ List.replicate n.toNat z)).reg e))], v := .v (.c (.h nm 0 (len + n.toNat))) })
         else .fail
       | _, _, _, _ => .fail)
     | _ => .fail)
  | _, _, _ => .fail
def R1.eff (r : R1) (nm : Nat) : Tr Eff :=
  match r with
  | .no => .fail
  | .val c v => chkT c (.ret { up := [], v := v })
  | .new c g v => chkT c (.ret { up := [(nm, some g)], v := v nm })
  | .upd c n g => chkT c (.ret { up := [(n, some g)], v := .dead })

/-- A slice of bytes that is converted to a string. -/
def bytesOf (P : Program) (s : St) (src dst : TypeId) (x : Operand) : Option (List Bool × ByteArray) :=
  match s.ev x with
  | .v (.c (.h r off len)) =>
    (match P.underlying src, P.underlying dst with
     | some (.slice e), some .string =>
       (match P.underlying e, els s (.h r off len) with
        | some (.int .u8), some (c, .ints .u8 xs) => some (c, strOfNums xs)
        | _, _ => none)
     | _, _ => none)
  | .v (.c .sn) =>
    (match P.underlying src, P.underlying dst with
     | some (.slice e), some .string =>
       (match P.underlying e with
        | some (.int .u8) => some ([], ByteArray.empty)
        | _ => none)
     | _, _ => none)
  | _ => none
/-- An array's row that is sliced whole: from there on it stays as it is. -/
def sliceArr (P : Program) (s : St) (t : TypeId) (x : Operand) : Option (Nat × IntKind × List Int) :=
  match s.ev x, P.underlying t with
  | .v (.c (.p r 0 0)), some (.array n e) =>
    (match s.reg r with
     | some g => (match g.body with
       | .ints k xs => if n = xs.length ∧ 0 < n ∧ 0 < sizeT P e then some (r, k, xs) else none
       | _ => none)
     | none => none)
  | _, _ => none
/-- A slice that is asked whether it is nil, which is told only if it is not empty: is it empty; what it is if it is not. -/
def nilUnk (P : Program) (s : St) (op : BinOp) (t : TypeId) (x y : Operand) : Option (Bool × Bool) :=
  match (s.ev x).nc, (s.ev y).nc, P.underlying t with
  | some (.l _ xs), some .sn, some (.slice _) => (match op with
    | .eql => some (xs.isEmpty, false)
    | .neq => some (xs.isEmpty, true)
    | _ => none)
  | some (.lr _ xs), some .sn, some (.slice _) => (match op with
    | .eql => some (xs.isEmpty, false)
    | .neq => some (xs.isEmpty, true)
    | _ => none)
  | _, _, _ => none
def deff (X : Cx) (op : Op) (nm : Nat) (s : St) : Tr Eff :=
  match op with
  | .binOp bop t x y _ =>
    (match nilUnk X.P s bop t x y with
     | some (e, d) => .br e (.all (fun _ : Bool => True) ⟨true, trivial⟩ fun b => .ret { up := [], v := .v (.c (.b b)) }) (.ret { up := [], v := .v (.c (.b d)) })
     | none => (light X.P X.glob s op).eff nm)
  | .pick c a b =>
    (match s.ev c with
     | .v (.c (.b x)) => .br x (.ret { up := [], v := s.ev a }) (.ret { up := [], v := s.ev b })
     | _ => .fail)
  | .call c =>
    (match c.callee with
     | .value f =>
       (match s.ev f, allNV (c.args.toList.map s.ev) with
        | .v (.c (.cl f cap)), some l => ncall X f (l ++ cap.map fun x => .c (.p x.1 x.2.1 x.2.2)) nm s
        | _, _ => .fail)
     | .builtin .append =>
       (match c.args.toList, c.argTypes.toList with
        | [x, y], [t, u] =>
          if t = u then
            (match (s.ev x).nc, (s.ev y).nc with
             | some a, some b => nappend X.P s t a b nm
             | _, _ => .fail)
          else
            (match (s.ev x).nc, (s.ev y).nc with
             | some a, some b => nzeros X.P s t u a b nm
             | _, _ => .fail)
        | _, _ => .fail)
     | _ => (light X.P X.glob s op).eff nm)
  | .convert src dst x =>
    (match bytesOf X.P s src dst x with
     | some (c, z) => chkT c (.ret { up := [], v := .v (.c (.s z)) })
     | none => (light X.P X.glob s op).eff nm)
  | .slice t x none none none =>
    (match sliceArr X.P s t x with
     | some (r, k, xs) => .ret { up := [(r, none)], v := .v (.c (.l k xs)) }
     | none => (light X.P X.glob s op).eff nm)
  | op => (light X.P X.glob s op).eff nm

/-- A call that is handed every region that its arguments name. -/
def wideCall (X : Cx) (op : Op) (nm : Nat) (s : St) : Tr Eff :=
  match op with
  | .call c =>
    (match c.callee with
     | .value f =>
       (match s.ev f, allNV (c.args.toList.map s.ev) with
        | .v (.c (.cl f cap)), some l => ncallP X (reach s 64 ((l ++ cap.map fun x => NV.c (.p x.1 x.2.1 x.2.2)).flatMap NV.names) []) f (l ++ cap.map fun x => .c (.p x.1 x.2.1 x.2.2)) nm s
        | _, _ => .fail)
     | _ => .fail)
  | _ => .fail
/-- An operation where no order is drawn: a call that fails so is tried with all that its arguments name. -/
def deffW (X : Cx) (op : Op) (nm : Nat) (s : St) : Tr Eff :=
  match deff X op nm s with
  | .fail => wideCall X op nm s
  | t => t

def St.ups (s : St) : List (Nat × Option Reg) → St
  | [] => s
  | (n, g) :: l => (s.setReg n g).ups l
def St.app (s : St) (x : Eff) (dst : Option Tmp) : St := (s.ups x.up).put dst x.v

/-! ### the operations of a region, one behind the other -/
def guardSlot (ops : Array Oper) (j : Nat) : Option Tmp := (ops[j]?).bind (·.dst)
def lit (x : Bool) : NS := .v (.c (.b x))
/-- One operation under its guard; K is told of the state behind it. -/
def nstep {β : Type} (ops : Array Oper) (o : Oper) (E : St → Tr Eff) (s : St) (K : St → Tr β) : Tr β :=
  match o.guard with
  | none => (E s).bind fun x => K (s.app x o.dst)
  | some (j, want) =>
    match guardSlot ops j with
    | some d =>
      (match s.fr[d]? with
       | some (.v (.c (.b x))) =>
         .br x
           (match want with
            | true => (E (s.put (some d) (lit true))).bind fun x => K ((s.put (some d) (lit true)).app x o.dst)
            | false => K ((s.put (some d) (lit true)).put o.dst (.tu [])))
           (match want with
            | false => (E (s.put (some d) (lit false))).bind fun x => K ((s.put (some d) (lit false)).app x o.dst)
            | true => K ((s.put (some d) (lit false)).put o.dst (.tu [])))
       | some (.tu []) => K (s.put o.dst (.tu []))
       | _ => .fail)
    | none => .fail
def nops {β : Type} (X : Cx) (ops : Array Oper) : List Oper → St → (St → Tr β) → Tr β
  | [], s, K => K s
  | o :: rest, s, K => nstep ops o (deffW X o.op s.rg.length) s (fun s' => nops X ops rest s' K)

/-! ### a region that draws its order -/
/-- Values of the type lead to no region that a callee may change. -/
def noPtr (P : Program) (t : TypeId) : Bool :=
  match zeroCells P t with
  | some z => z.all fun x => match x with
    | .pn => false
    | _ => true
  | none => false
/-- The operation looks at slots alone, and makes nothing. -/
def still (op : Op) : Bool :=
  match op with
  | .move _ | .assign _ | .build _ _ | .nilCheck _ | .binOp _ _ _ _ _ | .unOp _ _ _ | .fieldAddr _ _ _ | .field _ _ _
  | .index _ _ _ | .extract _ _ | .pick _ _ _ => true
  | .load _ (.global _) => true
  | .call { callee := .builtin .len, .. } => true
  | .call { callee := .builtin .min, .. } => true
  | .call { callee := .builtin .max, .. } => true
  | _ => false
/-- The operation makes no change but new regions, and looks at those alone that its operands name. -/
def mild (P : Program) (op : Op) : Bool :=
  match op with
  | .store _ _ _ => false
  | .call { callee := .value (.func f), .. } => (match P.funcs[f]? with
    | some fn => fn.params.toList.all (noPtr P)
    | none => false)
  | .call { callee := .builtin .len, .. } => true
  | .call { callee := .builtin .min, .. } => true
  | .call { callee := .builtin .max, .. } => true
  | .call _ => false
  | _ => true
def isCall (op : Op) : Bool :=
  match op with
  | .call { callee := .value _, .. } => true
  | _ => false
def depsOf (o : Oper) : List Nat := (o.after.toList.filter (Region.binds .any)).map (·.on)
/-- k comes ahead of i in whatever order. -/
def ahead (ops : Array Oper) : Nat → Nat → Nat → Bool
  | 0, _, _ => false
  | fuel + 1, k, i =>
    match ops[i]? with
    | some o => (depsOf o).any fun m => m == k || ahead ops fuel k m
    | none => false
/-- A store to an address that no operation of the region gives. -/
def storeAt (ops : Array Oper) (o : Oper) : Option Tmp :=
  match o.op with
  | .store _ (.tmp t) _ => if ops.toList.all (fun p => decide (p.dst ≠ some t)) then some t else none
  | _ => none
/-- Such a store, or an operation that makes no change but new regions, and is no call. -/
def near (P : Program) (ops : Array Oper) (o : Oper) : Bool := (storeAt ops o).isSome || (mild P o.op && !isCall o.op)
def free2 (P : Program) (ops : Array Oper) (x y : Oper) : Bool :=
  (still x.op || still y.op || (mild P x.op && mild P y.op) || ((storeAt ops x).isSome && near P ops y) || ((storeAt ops y).isSome && near P ops x)) && Oper.apart ops x y
def drawOk (P : Program) (ops : Array Oper) : Bool :=
  (List.range ops.size).all fun i =>
    match ops[i]? with
    | some y => ((depsOf y).all fun m => decide (m < i)) && (List.range i).all fun k =>
      ahead ops ops.size k i ||
      match ops[k]? with
      | some x => free2 P ops x y
      | none => false
    | none => false
/-- The names that an operand's value bears are those of regions from ahead of this region of operations, or of operations that come ahead. -/
def namesOk (ops : Array Oper) (base : Nat) (s : St) (i : Nat) (o : Oper) : Bool :=
  (o.op.operands.toList.flatMap fun x => (s.ev x).names).all fun n => decide (n < base) || ahead ops ops.size ((n - base) / 8) i
/-- A mild operation's effect: new regions under its own names alone. -/
def mildEff (base i : Nat) (x : Eff) : Bool := x.up.all fun u => decide (base + 8 * i ≤ u.1) && decide (u.1 < base + 8 * i + 8) && u.2.isSome
/-- What the operation looks at is not what a store changes that comes ahead of it in some order. -/
def apartOk (P : Program) (ops : Array Oper) (base : Nat) (s : St) (i : Nat) (o : Oper) : Bool :=
  still o.op || !near P ops o || (match storeAt ops o with
    | some t => (s.ev (.tmp t)).names.all fun n => decide (n < base)
    | none => true) && (List.range ops.size).all fun k =>
    match ops[k]? with
    | some x =>
      (match storeAt ops x with
       | some t => k == i || ahead ops ops.size k i || ahead ops ops.size i k || (s.ev (.tmp t)).names.all fun n => decide (n < base) && !(o.op.operands.toList.flatMap fun x => (s.ev x).names).contains n
       | none => true)
    | none => true
/-- Every other operation that does more than look at slots comes ahead of it or behind it, whatever the order. -/
def lone (ops : Array Oper) (i : Nat) : Bool :=
  (List.range ops.size).all fun k => k == i || ahead ops ops.size k i || ahead ops ops.size i k || (match ops[k]? with
    | some x => still x.op
    | none => true)
/-- The operation looks at a region, and makes nothing. -/
def look (op : Op) : Bool :=
  match op with
  | .load _ _ => true
  | _ => false
def deepT (P : Program) (t : TypeId) : Bool :=
  match P.underlying t with
  | some (.slice e) => (match P.underlying e with
    | some (.slice _) => true
    | _ => false)
  | _ => false
/-- A call that may be handed slices of slices. -/
def deep (P : Program) (op : Op) : Bool :=
  match op with
  | .call { callee := .value (.func f), .. } => (match P.funcs[f]? with
    | some fn => fn.params.toList.any (deepT P)
    | none => false)
  | _ => false
/-- Beside it nothing but what looks is drawn. -/
def loneL (ops : Array Oper) (i : Nat) : Bool :=
  (List.range ops.size).all fun k => k == i || ahead ops ops.size k i || ahead ops ops.size i k || (match ops[k]? with
    | some x => still x.op || look x.op
    | none => true)
/-- A mild operation whose place is drawn. -/
def mildN (P : Program) (ops : Array Oper) (i : Nat) (o : Oper) : Bool := mild P o.op && !lone ops i && !(deep P o.op && loneL ops i)
/-- A mild call that may be handed slices of slices, with loads beside it. -/
def mildL (P : Program) (ops : Array Oper) (i : Nat) (o : Oper) : Bool := mild P o.op && !lone ops i && (deep P o.op && loneL ops i)
def upOk (base n : Nat) (x : Eff) : Bool := x.up.all fun u => decide (base ≤ u.1) && decide (u.1 < base + 8 * n)
/-- What is looked at beside such a call was there before. -/
def lookOk (P : Program) (ops : Array Oper) (base : Nat) (s : St) (i : Nat) (o : Oper) : Bool :=
  !look o.op || ((List.range ops.size).all fun k => k == i || ahead ops ops.size k i || ahead ops ops.size i k || (match ops[k]? with
    | some x => !deep P x.op
    | none => true)) || (o.op.operands.toList.flatMap fun x => (s.ev x).names).all fun n => decide (n < base)
def deffD (X : Cx) (ops : Array Oper) (base i : Nat) (o : Oper) (s : St) : Tr Eff :=
  match namesOk ops base s i o && (!(mildN X.P ops i o && isCall o.op) || (o.op.operands.toList.flatMap fun x => (s.ev x).seeds s).isEmpty) && apartOk X.P ops base s i o && lookOk X.P ops base s i o with
  | true => (deff X o.op (base + 8 * i) s).bind fun x =>
    match (!mildN X.P ops i o || mildEff base i x) && (!mildL X.P ops i o || upOk base ops.size x) with
    | true => .ret x
    | false => .fail
  | false => .fail
def ndops {β : Type} (X : Cx) (ops : Array Oper) (base : Nat) : List Nat → St → (St → Tr β) → Tr β
  | [], s, K => K s
  | i :: rest, s, K =>
    match ops[i]? with
    | some o => nstep ops o (deffD X ops base i o) s (fun s' => ndops X ops base rest s' K)
    | none => .fail

/-! ### forgetting -/
def keepFr (live : List Nat) : Nat → List NS → List NS
  | _, [] => []
  | i, x :: l => (if live.contains i then x else .dead) :: keepFr live (i + 1) l
/-- What is left of a state: the live slots, the regions that were handed in, and what these lead to; new names from m on. -/
def norm (m : Nat) (live : List Nat) (s : St) : Option St :=
  let fr := keepFr live 0 s.fr
  let roots := (List.range m) ++ fr.flatMap NS.names
  let fresh := (reach s 256 roots []).filter fun n => m ≤ n
  let L := List.range m ++ fresh
  match mapRg (mapNC (posIn L)) (L.map s.reg) with
  | some rg => some { fr := fr.map fun x => (mapNS (mapNC (posIn L)) x).getD .dead, rg := rg }
  | none => none

/-! ### code -/
def nwp {β : Type} (X : Cx) : Code → St → (NExit → St → Tr β) → Tr β
  | .skip, s, K => K .normal s
  | .seq a b, s, K => nwp X a s (fun e s' => match e with
    | .normal => nwp X b s' K
    | e => K e s')
  | .cond c a b, s, K =>
    (match c, s.ev c with
     | .tmp t, .v (.c (.b x)) => .br x (nwp X a (s.put (some t) (lit true)) K) (nwp X b (s.put (some t) (lit false)) K)
     | _, .v (.c (.b x)) => .br x (nwp X a s K) (nwp X b s K)
     | _, _ => .fail)
  | .block id c, s, K =>
    (match c with
     | .loop _ =>
       (match X.loops.find? (·.1 == id) with
        | some (_, live, L) => (match norm X.m live s with
          | some s' => (L s').bind fun x => K x.1 x.2
          | none => .fail)
        | none => .fail)
     | .rangeFunc _ _ _ _ =>
       (match X.loops.find? (·.1 == id) with
        | some (_, live, L) => (match norm X.m live s with
          | some s' => (L s').bind fun x => K x.1 x.2
          | none => .fail)
        | none => .fail)
     | c => nwp X c s (fun e s' => match e with
       | .exit j => if j = id then K .normal s' else K (.exit j) s'
       | e => K e s'))
  | .exit id, s, K => K (.exit id) s
  | .ret, s, K => K .ret s
  | .region _ ops false, s, K => nops X ops ops.toList s (K .normal)
  | .region _ ops true, s, K =>
    (match drawOk X.P ops with
     | true => ndops X ops s.rg.length (List.range ops.size) { s with rg := s.rg ++ List.replicate (8 * ops.size) none } (K .normal)
     | false => .fail)
  | _, _, _ => .fail

/-! ### a function -/
def resOf (P : Program) (gl : List Nat) (s : St) : ResultVar → Option NV
  | .tmp t => (s.fr.getD t .dead).nv
  | .cell a t => (match (s.fr.getD a .dead).nc with
    | some x => (match nload P gl s t x with
      | some ([], .v v) => (match P.underlying t with
        | some _ => some v
        | none => none)
      | _ => none)
    | none => none)
def ressOf (P : Program) (gl : List Nat) (s : St) (l : List ResultVar) : Option NS :=
  match mapL (resOf P gl s) l with
  | some [x] => some (.v x)
  | some l => some (.tu l)
  | none => none
def outOf (P : Program) (gl : List Nat) (m : Nat) (fn : Func) (s : St) : Option Out :=
  match ressOf P gl s fn.results.toList with
  | some res =>
    let fresh := (reach s 256 ((List.range m) ++ res.names) []).filter fun n => m ≤ n
    let L := List.range m ++ fresh
    (match mapNS (mapNC (posIn L)) res, mapRg (mapNC (posIn L)) (L.map s.reg) with
     | some res, some rg => some { res := res, rg := rg }
     | _, _ => none)
  | none => none
def bodyK (P : Program) (gl : List Nat) (m : Nat) (fn : Func) (e : NExit) (s : St) : Tr Out :=
  match e with
  | .exit _ => .fail
  | _ => match outOf P gl m fn s with
    | some o => .ret o
    | none => .fail
def enter (fn : Func) (args : List NV) (regs : List Reg) : St :=
  { fr := args.map .v ++ List.replicate (fn.ntmps - args.length) .dead, rg := regs.map some }
/-- What a call comes to. -/
def nfun (P : Program) (gl : List Nat) (con : FuncId → Option Con) (loops : List (Nat × List Nat × (St → Tr (NExit × St)))) (fn : Func) (args : List NV) (regs : List Reg) : Tr Out :=
  match fn.body with
  | some c => nwp { P := P, con := con, glob := gl, m := regs.length, loops := loops } c (enter fn args regs) (bodyK P gl regs.length fn)
  | none => .fail

/-- The loops of a text, the outer ones alone. -/
def loopsIn : Code → List (Nat × Code)
  | .seq a b => loopsIn a ++ loopsIn b
  | .cond _ a b => loopsIn a ++ loopsIn b
  | .block j c => (match c with
    | .loop body => [(j, body)]
    | c => loopsIn c)
  | _ => []
/-- The ranges over functions of a text, those outside loops alone. -/
def rangesIn : Code → List (Nat × Code)
  | .seq a b => rangesIn a ++ rangesIn b
  | .cond _ a b => rangesIn a ++ rangesIn b
  | .block j c => (match c with
    | .loop _ => []
    | .rangeFunc g ps a b => [(j, .rangeFunc g ps a b)]
    | c => rangesIn c)
  | _ => []
/-- The range over a function in block number id. -/
def rangeOf (id : Nat) : Code → Option Code
  | .seq a b => (match rangeOf id a with
    | some c => some c
    | none => rangeOf id b)
  | .cond _ a b => (match rangeOf id a with
    | some c => some c
    | none => rangeOf id b)
  | .block j c => (match c with
    | .rangeFunc g ps a b => if j = id then some (.rangeFunc g ps a b) else none
    | c => rangeOf id c)
  | .loop c => rangeOf id c
  | _ => none
def theRange (fn : Func) (id : Nat) : Code := ((fn.body.bind (rangeOf id))).getD .skip
/-- The body of the loop in block number id. -/
def loopOf (id : Nat) : Code → Option Code
  | .seq a b => (match loopOf id a with
    | some c => some c
    | none => loopOf id b)
  | .cond _ a b => (match loopOf id a with
    | some c => some c
    | none => loopOf id b)
  | .block j c => (match c with
    | .loop body => if j = id then some body else loopOf id body
    | c => loopOf id c)
  | .loop c => loopOf id c
  | _ => none
def bodyLoop (fn : Func) (id : Nat) : Code := ((fn.body.bind (loopOf id))).getD .skip

end Go.Nx
