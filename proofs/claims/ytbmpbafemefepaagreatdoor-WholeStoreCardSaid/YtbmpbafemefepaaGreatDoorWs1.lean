/-
  Joined: EngA.
-/
import Derived.WalkKit
import Derived.Laws.BytesArg
import Derived.WalkSpells
import Derived.LaidEql
set_option linter.unusedVariables false
namespace Go.Nx
open Go
inductive CK where
 | i (k:IntKind)
 | b
 deriving DecidableEq
inductive Sc where
 | i (n:Int)
 | b (x:Bool)
 deriving DecidableEq
def Sc.n:Sc→Int
 | .i n=>n
 | .b _=>0
def Sc.t:Sc→Bool
 | .b x=>x
 | .i _=>false
inductive Part where
 | i (k:IntKind)
 | b
 | s
 | l (k:IntKind)
 | lr (ks:List CK)
 | ai (k:IntKind) (n:Nat)
 | ar (ks:List CK) (n:Nat)
 deriving DecidableEq
inductive FC where
 | i (n:Int)
 | b (x:Bool)
 | s (x:ByteArray)
 | is (xs:List Int)
 | rs (xs:List (List Sc))
inductive NC where
 | i (k:IntKind) (n:Int)
 | b (x:Bool)
 | s (x:ByteArray)
 | p (r i c:Nat)
 | pn
 | h (r off len:Nat)
 | l (k:IntKind) (xs:List Int)
 | lr (ks:List CK) (xs:List (List Sc))
 | pl (k:IntKind) (xs:List Int) (i:Nat)
 | pr (ks:List CK) (xs:List (List Sc)) (i c:Nat)
 | sn
 | g (x:Nat)
 | e (k:Nat)
 | en
 | cl (f:FuncId) (cap:List (Nat × Nat × Nat))
 | q (r o w i c:Nat)
 | hq (r o w i n:Nat)
 | hz (r len:Nat)
 | m (r:Nat)
 | mn
 | lt (sch:List Part) (xs:List (List FC))
 | pt (sch:List Part) (xs:List (List FC)) (i c:Nat)
inductive Seg where
 | cells (xs:List NC)
 | ints (k:IntKind) (n:Nat) (xs:List Int)
 | recs (ks:List CK) (n:Nat) (xs:List (List Sc))
inductive NV where
 | c (x:NC)
 | ag (xs:List NC)
 | sg (l:List Seg)
inductive NS where
 | v (x:NV)
 | tu (xs:List NV)
 | dead
inductive Body where
 | cells (xs:List NC)
 | ints (k:IntKind) (xs:List Int)
 | recs (ks:List CK) (xs:List (List Sc))
 | sg (l:List Seg)
 | tab (sch:List Part) (xs:List (List FC))
 | mp (ks sch:List Part) (xs:List (List FC × List FC))
structure Reg where
 st:Nat
 e:TypeId
 body:Body
structure St where
 fr:List NS
 rg:List (Option Reg)
def NS.nc:NS→Option NC
 | .v (.c x)=>some x
 | _=>none
def NS.nv:NS→Option NV
 | .v x=>some x
 | _=>none
def ckVal:CK→Sc→Value
 | .i k,s=>.int k s.n
 | .b,s=>.bool s.t
def ckNC:CK→Sc→NC
 | .i k,s=>.i k s.n
 | .b,s=>.b s.t
def rowFrom {α:Type} (f:CK→Sc→α):List CK→List Sc→Nat→List α
 | [],_,_=>[]
 | k::ks,row,j=>f k (row.getD j (.i 0))::rowFrom f ks row (j+1)
def rowVals (ks:List CK) (row:List Sc):List Value:=rowFrom ckVal ks row 0
def rowCells (ks:List CK) (row:List Sc):List NC:=rowFrom ckNC ks row 0
def intsNC (k:IntKind) (xs:List Int):List NC:=xs.map (.i k)
def rowsNC (ks:List CK) (xs:List (List Sc)):List NC:=xs.flatMap (rowCells ks)
def Seg.size:Seg→Nat
 | .cells xs=>xs.length
 | .ints _ n _=>n
 | .recs ks n _=>n * ks.length
def Seg.flat:Seg→List NC
 | .cells xs=>xs
 | .ints k _ xs=>intsNC k xs
 | .recs ks _ xs=>rowsNC ks xs
def Seg.ncs:Seg→List NC
 | .cells xs=>xs
 | _=>[]
def Seg.ok:Seg→Prop
 | .cells _=>True
 | .ints _ n xs=>xs.length=n
 | .recs ks n xs=>xs.length=n∧0<ks.length
def segSize:List Seg→Nat
 | []=>0
 | s::l=>s.size+segSize l
def segFlat:List Seg→List NC
 | []=>[]
 | [s]=>s.flat
 | s::l=>s.flat++segFlat l
def segNcs:List Seg→List NC
 | []=>[]
 | s::l=>s.ncs++segNcs l
def SegOk (l:List Seg):Prop:=∀ s∈l,s.ok
def NV.cells:NV→List NC
 | .c x=>[x]
 | .ag xs=>xs
 | .sg l=>segFlat l
def NV.ncs:NV→List NC
 | .c x=>[x]
 | .ag xs=>xs
 | .sg l=>segNcs l
def NV.size:NV→Nat
 | .c _=>1
 | .ag xs=>xs.length
 | .sg l=>segSize l
def NV.segs:NV→List Seg
 | .c x=>[.cells [x]]
 | .ag xs=>[.cells xs]
 | .sg l=>l
def FC.n:FC→Int
 | .i n=>n
 | _=>0
def FC.t:FC→Bool
 | .b x=>x
 | _=>false
def FC.st:FC→ByteArray
 | .s x=>x
 | _=>ByteArray.empty
def FC.li:FC→List Int
 | .is xs=>xs
 | _=>[]
def FC.lr:FC→List (List Sc)
 | .rs xs=>xs
 | _=>[]
def Part.size:Part→Nat
 | .ai _ n=>n
 | .ar ks n=>n * ks.length
 | _=>1
def schSize:List Part→Nat
 | []=>0
 | p::l=>p.size+schSize l
def consC (x:NC):List Seg→List Seg
 | .cells xs::l=>.cells (x::xs)::l
 | l=>.cells [x]::l
def Part.put:Part→FC→List Seg→List Seg
 | .i k,x,t=>consC (.i k x.n) t
 | .b,x,t=>consC (.b x.t) t
 | .s,x,t=>consC (.s x.st) t
 | .l k,x,t=>consC (.l k x.li) t
 | .lr ks,x,t=>consC (.lr ks x.lr) t
 | .ai k n,x,t=>.ints k n x.li::t
 | .ar ks n,x,t=>.recs ks n x.lr::t
def rowSegs:List Part→List FC→Nat→List Seg
 | [],_,_=>[]
 | p::sch,row,j=>p.put (row.getD j (.i 0)) (rowSegs sch row (j+1))
def tabNC (sch:List Part) (xs:List (List FC)):List NC:=xs.flatMap fun row=>segFlat (rowSegs sch row 0)
def TabOk (sch:List Part) (xs:List (List FC)):Prop:=∀ row∈xs,SegOk (rowSegs sch row 0)
def Body.isMp:Body→Bool
 | .mp _ _ _=>true
 | _=>false
def toSc:CK→NC→Option Sc
 | .i k,.i k' n=>if k=k' then some (.i n) else none
 | .b,.b x=>some (.b x)
 | _,_=>none
def toRow:List CK→List NC→Option (List Sc)
 | [],[]=>some []
 | k::ks,x::xs=>
   match toSc k x,toRow ks xs with
   | some a,some l=>some (a::l)
   | _,_=>none
 | _,_=>none
def toRows (ks:List CK):Nat→List NC→Option (List (List Sc))
 | 0,[]=>some []
 | 0,_::_=>none
 | n+1,xs=>
   match toRow ks (xs.take ks.length),toRows ks n (xs.drop ks.length) with
   | some a,some l=>some (a::l)
   | _,_=>none
def toInts (k:IntKind):List NC→Option (List Int)
 | []=>some []
 | .i k' n::xs=>
   if k=k' then
    match toInts k xs with
    | some l=>some (n::l)
    | none=>none
   else none
 | _::_=>none
def putAt (l:List (Option Reg)) (n:Nat) (x:Option Reg):List (Option Reg):=
 if n<l.length then l.set n x else l++List.replicate (n - l.length) none++[x]
def St.reg (s:St) (n:Nat):Option Reg:=
 match s.rg[n]? with
 | some (some r)=>some r
 | _=>none
def St.put (s:St) (dst:Option Tmp) (v:NS):St:=
 match dst with
 | some d=>{s with fr:=s.fr.set d v}
 | none=>s
def St.setReg (s:St) (n:Nat) (r:Option Reg):St:={s with rg:=putAt s.rg n r}
def isAggT (P:Program) (t:TypeId):Bool:=
 match P.underlying t with
 | some (.struct _) | some (.array _ _)=>true
 | _=>false
def sizeT (P:Program) (t:TypeId):Nat:=
 match P.info? t with
 | some i=>i.size
 | none=>0
def bytesT (P:Program) (t:TypeId):Nat:=
 match P.info? t with
 | some i=>i.bytes
 | none=>0
def scal:Value→Option NC
 | .int k n=>some (.i k n)
 | .bool b=>some (.b b)
 | .string s=>some (.s s)
 | .pointer none=>some .pn
 | .slice none 0 0=>some .sn
 | .nilIface=>some .en
 | .map none=>some .mn
 | _=>none
def scals:List Value→Option (List NC)
 | []=>some []
 | v::l=>
   match scal v,scals l with
   | some a,some r=>some (a::r)
   | _,_=>none
def zeroCells (P:Program) (t:TypeId):Option (List NC):=
 match P.info? t with
 | some i=>match i.zero with
   | some z=>if z.cells.size=i.size then scals z.cells.toList else none
   | none=>none
 | none=>none
def ksFrom:List NC→Option (List CK)
 | []=>some []
 | .i k _::l=>(match ksFrom l with | some r=>some (.i k::r) | none=>none)
 | .b _::l=>(match ksFrom l with | some r=>some (.b::r) | none=>none)
 | _::_=>none
def ksOf (P:Program) (t:TypeId):Option (List CK):=
 match zeroCells P t with
 | some z=>ksFrom z
 | none=>none
def elemBody (P:Program) (e:TypeId) (n:Nat) (xs:List NC):Nat × Body:=
 match ksOf P e with
 | some [.i k]=>
   (match toInts k xs with
    | some l=>(1,.ints k l)
    | none=>(1,.cells xs))
 | some ks=>
   if 0<ks.length then
    (match toRows ks n xs with
     | some l=>(ks.length,.recs ks l)
     | none=>(sizeT P e,.cells xs))
   else (sizeT P e,.cells xs)
 | none=>(sizeT P e,.cells xs)
def bigT (P:Program) (t:TypeId):Bool:=decide (40≤sizeT P t)
inductive Shp where
 | c (n:Nat)
 | r (ks:List CK) (n:Nat)
def baseT (P:Program):Nat→TypeId→Nat→TypeId × Nat
 | 0,t,n=>(t,n)
 | f+1,t,n=>match P.underlying t with
   | some (.array m e)=>baseT P f e (n * m)
   | _=>(t,n)
def shpCat:List Shp→List Shp→List Shp
 | [],l=>l
 | [.c n],.c m::l=>.c (n+m)::l
 | s::r,l=>s::shpCat r l
def shpRep (n:Nat) (s:List Shp):List Shp:=
 match n with
 | 0=>[]
 | n+1=>shpCat s (shpRep n s)
def shapeT (P:Program):Nat→TypeId→List Shp
 | 0,t=>[.c (sizeT P t)]
 | f+1,t=>match P.underlying t with
   | some (.struct fs)=>fs.toList.foldr (fun x l=>shpCat (shapeT P f x.type) l) []
   | some (.array n e)=>(match ksOf P (baseT P 8 t 1).1 with
     | some ks=>if 0<ks.length then [.r ks (baseT P 8 t 1).2] else [.c (sizeT P t)]
     | none=>shpRep n (shapeT P f e))
   | _=>[.c (sizeT P t)]
def segAs:List Shp→List NC→Option (List Seg)
 | [],[]=>some []
 | [],_::_=>none
 | .c n::sh,z=>if n≤z.length then (match segAs sh (z.drop n) with
   | some l=>some (.cells (z.take n)::l)
   | none=>none) else none
 | .r ks n::sh,z=>(match ks with
   | [.i k]=>(match toInts k (z.take n),segAs sh (z.drop n) with
     | some xs,some l=>if xs.length=n then some (.ints k n xs::l) else none
     | _,_=>none)
   | ks=>if 0<ks.length then (match toRows ks n (z.take (n * ks.length)),segAs sh (z.drop (n * ks.length)) with
     | some xs,some l=>some (.recs ks n xs::l)
     | _,_=>none) else none)
def catP:List (Option (List Part))→Option (List Part)
 | []=>some []
 | some a::l=>(match catP l with | some r=>some (a++r) | none=>none)
 | none::_=>none
def schT (P:Program) (big:Bool):Nat→TypeId→Option (List Part)
 | 0,_=>none
 | f+1,t=>match P.underlying t with
   | some (.int k)=>some [.i k]
   | some .bool=>some [.b]
   | some .string=>some [.s]
   | some (.slice e)=>(match ksOf P e with
     | some [.i k]=>some [.l k]
     | some ks=>if 0<ks.length then some [.lr ks] else none
     | none=>none)
   | some (.struct fs)=>catP (fs.toList.map fun x=>schT P big f x.type)
   | some (.array n e)=>(match big,ksOf P (baseT P 8 t 1).1 with
     | true,some [.i k]=>some [.ai k (baseT P 8 t 1).2]
     | true,some ks=>if 0<ks.length then some [.ar ks (baseT P 8 t 1).2] else none
     | _,_=>(match schT P big f e with | some l=>some (List.replicate n l).flatten | none=>none))
   | _=>none
def schOf (P:Program) (t:TypeId):Option (List Part):=schT P (bigT P t) 8 t
def nmakeMap (P:Program) (t:TypeId):Option Reg:=
 match P.underlying t with
 | some (.map k e)=>(match schOf P k,schOf P e,isAggT P k,isAggT P e with
   | some ks,some sch,true,true=>if schSize ks=sizeT P k∧schSize sch=sizeT P e then some {st:=0,e:=t,body:=.mp ks sch []} else none
   | _,_,_,_=>none)
 | _=>none
def eqV:Value→Value→Bool
 | .int k n,.int k' n'=>k==k'&&n==n'
 | .bool a,.bool b=>a==b
 | _,_=>false
def eqPre:List Value→List Value→Option (List Value)
 | [],z=>some z
 | _::_,[]=>none
 | a::r,b::z=>match eqV a b with
   | true=>eqPre r z
   | false=>none
def eqRep (row:List Value):Nat→List Value→Option (List Value)
 | 0,z=>some z
 | n+1,z=>match eqPre row z with
   | some z'=>eqRep row n z'
   | none=>none
def repSeg (ks:List CK) (n:Nat) (row:List Sc):Seg:=
 match ks,row with
 | [.i k],[.i x]=>.ints k n (List.replicate n x)
 | ks,row=>.recs ks n (List.replicate n row)
def zsegs:List Shp→List Value→Option (List Seg)
 | [],[]=>some []
 | [],_::_=>none
 | .c n::sh,z=>(match scals (z.take n),zsegs sh (z.drop n) with
   | some xs,some l=>some (.cells xs::l)
   | _,_=>none)
 | .r ks n::sh,z=>if 0<ks.length then
    (match scals (z.take ks.length) with
     | some r0=>(match toRow ks r0 with
       | some row=>(match eqRep (rowVals ks row) n z with
         | some z'=>(match zsegs sh z' with
           | some l=>some (repSeg ks n row::l)
           | none=>none)
         | none=>none)
       | none=>none)
     | none=>none)
   else none
def zeroSegs (P:Program) (t:TypeId):Option (List Seg):=
 match P.info? t with
 | some i=>(match i.zero with
   | some v=>(match zsegs (shapeT P 8 t) v.cells.toList with
     | some l=>if segSize l=i.size then some l else none
     | none=>none)
   | none=>none)
 | none=>none
def mkSub (n:Nat) (l:List Seg):NV:=if n<40 then .ag (segFlat l) else .sg l
def Seg.cut (o n:Nat):Seg→Option Seg
 | .cells xs=>if o+n≤xs.length then some (.cells ((xs.drop o).take n)) else none
 | .ints k m xs=>if n=m then (if o=0 then some (.ints k m xs) else none) else if o+n≤m then some (.ints k n ((xs.drop o).take n)) else none
 | .recs ks m xs=>if n=m * ks.length then (if o=0 then some (.recs ks m xs) else none)
   else if 0<ks.length∧o % ks.length=0∧n % ks.length=0∧o / ks.length+n / ks.length≤m then some (.recs ks (n / ks.length) ((xs.drop (o / ks.length)).take (n / ks.length))) else none
def segSub:List Seg→Nat→Nat→Option (List Seg)
 | [],_,n=>if n=0 then some [] else none
 | s::l,o,n=>
   if n=0 then some []
   else if s.size≤o then segSub l (o - s.size) n
   else match s.cut o (min n (s.size - o)),segSub l 0 (n - min n (s.size - o)) with
    | some a,some r=>some (a::r)
    | _,_=>none
def segOne:List Seg→Nat→Option NC
 | [],_=>none
 | s::l,o=>
   if s.size≤o then segOne l (o - s.size)
   else match s with
    | .cells xs=>xs[o]?
    | .ints k _ xs=>some (.i k (xs.getD o 0))
    | .recs ks _ xs=>(match ks[o % ks.length]? with
      | some k=>some (ckNC k ((xs.getD (o / ks.length) []).getD (o % ks.length) (.i 0)))
      | none=>none)
def segGet (l:List Seg) (o n:Nat) (agg:Bool):Option NV:=
 match agg with
 | true=>(match segSub l o n with | some r=>some (mkSub n r) | none=>none)
 | false=>(match segOne l o with | some x=>some (.c x) | none=>none)
def mulQ (i q:Nat):Nat:=
 match q with
 | 1=>i
 | q=>i * q
def addJ (j i:Nat):Nat:=
 match j with
 | 0=>i
 | j=>j+i
def segGetQ:List Seg→Nat→Nat→Nat→Nat→Nat→Bool→Option (List Bool × NV)
 | [],_,_,_,_,_,_=>none
 | s::l,o,w,i,c,n,agg=>
   if s.size≤o then segGetQ l (o - s.size) w i c n agg
   else match s with
    | .cells xs=>(match segGet (.cells xs::l) (o+i * w+c) n agg with | some v=>some ([],v) | none=>none)
    | .ints k m xs=>(match c,agg with
      | 0,true=>some ([decide (addJ o (mulQ i w)+n≤m)],mkSub n [.ints k n ((xs.drop (addJ o (mulQ i w))).take n)])
      | 0,false=>some ([decide (addJ o (mulQ i w)<m)],.c (.i k (xs.getD (addJ o (mulQ i w)) 0)))
      | _,_=>none)
    | .recs ks m xs=>
      if 0<ks.length∧o % ks.length=0∧w % ks.length=0 then
       (match agg with
        | true=>(match c with
          | 0=>if n % ks.length=0 then
             (if n=ks.length then some ([decide (addJ (o / ks.length) (mulQ i (w / ks.length))<m)],mkSub n [.cells (rowCells ks (xs.getD (addJ (o / ks.length) (mulQ i (w / ks.length))) []))])
              else some ([decide (addJ (o / ks.length) (mulQ i (w / ks.length))+n / ks.length≤m)],mkSub n [.recs ks (n / ks.length) ((xs.drop (addJ (o / ks.length) (mulQ i (w / ks.length)))).take (n / ks.length))]))
            else none
          | _=>none)
        | false=>(match ks[c]? with
          | some k=>some ([decide (addJ (o / ks.length) (mulQ i (w / ks.length))<m)],.c (ckNC k ((xs.getD (addJ (o / ks.length) (mulQ i (w / ks.length))) []).getD c (.i 0))))
          | none=>none))
      else none
def asInts (k:IntKind):List Seg→Option (List Int)
 | [.cells zs]=>toInts k zs
 | [.ints k' _ ys]=>if k'=k then some ys else none
 | _=>none
def asRows (ks:List CK) (q:Nat):List Seg→Option (List (List Sc))
 | [.cells zs]=>toRows ks q zs
 | [.recs ks' n ys]=>if ks'=ks∧n=q then some ys else none
 | _=>none
def spl {α:Type} (xs:List α) (o n:Nat) (ys:List α):List α:=
 match ys with
 | [y]=>xs.set o y
 | ys=>xs.take o++ys++xs.drop (o+n)
def allocReg (P:Program) (t:TypeId) (varReg:TypeId→List NC→Reg):Option Reg:=
 match bigT P t with
 | true=>(match zeroSegs P t with | some l=>some {st:=sizeT P t,e:=t,body:=.sg l} | none=>none)
 | false=>(match zeroCells P t with | some z=>some (varReg t z) | none=>none)
def boxReg (P:Program) (t:TypeId) (varReg:TypeId→List NC→Reg) (v:NV):Option Reg:=
 match bigT P t with
 | true=>(match v with
   | .sg l=>some {st:=sizeT P t,e:=t,body:=.sg l}
   | v=>(match segAs (shapeT P 8 t) v.cells with | some l=>some {st:=sizeT P t,e:=t,body:=.sg l} | none=>none))
 | false=>some (varReg t v.cells)
def varReg (P:Program) (t:TypeId) (xs:List NC):Reg:=
 match P.underlying t with
 | some (.array n e)=>{st:=(elemBody P e n xs).1,e:=t,body:=(elemBody P e n xs).2}
 | _=>{st:=sizeT P t,e:=t,body:=.cells xs}
def ofConst:Value→NS
 | .agg cs=>match scals cs.toList with
   | some l=>.v (.ag l)
   | none=>.dead
 | v=>match scal v with
   | some x=>.v (.c x)
   | none=>.dead
def St.ev (s:St):Operand→NS
 | .tmp t=>s.fr.getD t .dead
 | .const v=>ofConst v
 | .global g=>.v (.c (.g g))
 | .func f=>.v (.c (.cl f []))
def shlv (k:IntKind) (x y:Int):Int:=k.wrap (x * 2 ^ min y.toNat k.bits)
def shrv (k:IntKind) (x y:Int):Int:=x.fdiv (2 ^ min y.toNat k.bits)
def nbinI (op:BinOp) (k:IntKind) (x y:Int):Option (List Bool × NC):=
 match op with
 | .add=>some ([],.i k (k.wrap (x+y)))
 | .sub=>some ([],.i k (k.wrap (x - y)))
 | .mul=>some ([],.i k (k.wrap (x * y)))
 | .quo=>some ([y !=0],.i k (k.wrap (x.tdiv y)))
 | .rem=>some ([y !=0],.i k (x.tmod y))
 | .and=>some ([],.i k (bits .and k x y))
 | .or=>some ([],.i k (bits .or k x y))
 | .xor=>some ([],.i k (bits .xor k x y))
 | .andNot=>some ([],.i k (bits .andNot k x y))
 | .eql=>some ([],.b (x==y))
 | .neq=>some ([],.b (x !=y))
 | .lss=>some ([],.b (decide (x<y)))
 | .leq=>some ([],.b (decide (x≤y)))
 | .gtr=>some ([],.b (decide (x > y)))
 | .geq=>some ([],.b (decide (x ≥ y)))
 | _=>none
def nbin (P:Program) (op:BinOp) (t:TypeId) (a b:NC):Option (List Bool × NC):=
 match a,b with
 | .i k x,.i k' y=>
   (match op with
    | .shl=>some ([decide (0≤y)],.i k (shlv k x y))
    | .shr=>some ([decide (0≤y)],.i k (shrv k x y))
    | op=>if k=k' then nbinI op k x y else none)
 | .b x,.b y=>
   (match P.underlying t with
    | some .bool=>
      (match op with
       | .eql=>some ([],.b (x==y))
       | .neq=>some ([],.b (!(x==y)))
       | _=>none)
    | _=>none)
 | .s x,.s y=>
   (match op with
    | .add=>some ([decide (((x.size+y.size:Nat):Int)≤9223372036854775807)],.s (x++y))
    | .eql=>some ([],.b (x.toList==y.toList))
    | .neq=>some ([],.b (!(x.toList==y.toList)))
    | _=>none)
 | .p _ _ _,.pn=>
   (match P.underlying t with
    | some (.pointer _)=>
      (match op with
       | .eql=>some ([],.b false)
       | .neq=>some ([],.b true)
       | _=>none)
    | _=>none)
 | .pn,.pn=>
   (match P.underlying t with
    | some (.pointer _)=>
      (match op with
       | .eql=>some ([],.b true)
       | .neq=>some ([],.b false)
       | _=>none)
    | _=>none)
 | .h _ _ _,.sn=>
   (match P.underlying t with
    | some (.slice _)=>
      (match op with
       | .eql=>some ([],.b false)
       | .neq=>some ([],.b true)
       | _=>none)
    | _=>none)
 | .hq _ _ _ _ _,.sn=>
   (match P.underlying t with
    | some (.slice _)=>
      (match op with
       | .eql=>some ([],.b false)
       | .neq=>some ([],.b true)
       | _=>none)
    | _=>none)
 | .l _ xs,.sn=>
   (match P.underlying t with
    | some (.slice _)=>
      (match op with
       | .eql=>some ([!xs.isEmpty],.b false)
       | .neq=>some ([!xs.isEmpty],.b true)
       | _=>none)
    | _=>none)
 | .lr _ xs,.sn=>
   (match P.underlying t with
    | some (.slice _)=>
      (match op with
       | .eql=>some ([!xs.isEmpty],.b false)
       | .neq=>some ([!xs.isEmpty],.b true)
       | _=>none)
    | _=>none)
 | .sn,.sn=>
   (match P.underlying t with
    | some (.slice _)=>
      (match op with
       | .eql=>some ([],.b true)
       | .neq=>some ([],.b false)
       | _=>none)
    | _=>none)
 | _,_=>none
def errTy (P:Program) (et:TypeId):Bool:=
 match P.underlying et with
 | some (.pointer te)=>(match P.info? et,P.info? te with
   | some i,some j=>i.comparable&&j.size !=0
   | _,_=>false)
 | _=>false
def isIface (P:Program) (t:TypeId):Bool:=
 match P.underlying t with
 | some (.interface _)=>true
 | _=>false
def isConst (x:Operand):Bool:=
 match x with
 | .const _=>true
 | _=>false
def errEq (P:Program) (gl:List Nat) (x y:Operand) (a b:NC):Option Bool:=
 match a,b with
 | .e j,.en=>if gl.tail.contains j then some false else none
 | .en,.e j=>if gl.tail.contains j then some false else none
 | .en,.en=>if isConst x||isConst y then some true else none
 | .e j,.e k=>if errTy P (gl.headD 0)&&gl.tail.contains j&&gl.tail.contains k then some (j==k) else none
 | _,_=>none
def nbinE (P:Program) (gl:List Nat) (op:BinOp) (t:TypeId) (x y:Operand) (a b:NC):Option (List Bool × NC):=
 match isIface P t with
 | true=>
   (match op,errEq P gl x y a b with
    | .eql,some r=>some ([],.b r)
    | .neq,some r=>some ([],.b (!r))
    | _,_=>none)
 | false=>nbin P op t a b
def nun (op:UnOp) (a:NC):Option NC:=
 match op,a with
 | .not,.b x=>some (.b (!x))
 | .neg,.i k n=>some (.i k (k.wrap (0 - n)))
 | .xor,.i k n=>some (.i k (bits .xor k (if k.signed then -1 else k.max) n))
 | _,_=>none
inductive R1 where
 | no
 | val (c:List Bool) (v:NS)
 | new (c:List Bool) (g:Reg) (v:Nat→NS)
 | upd (c:List Bool) (n:Nat) (g:Reg)
def sub (xs:List NC) (o n:Nat):Option (List NC):=
 let l:=(xs.drop o).take n
 if l.length=n then some l else none
def ofV (x:Option (List Bool × NS)):R1:=
 match x with
 | some (c,v)=>.val c v
 | none=>.no
def nload (P:Program) (gl:List Nat) (s:St) (t:TypeId) (a:NC):Option (List Bool × NS):=
 match a with
 | .p r i c=>
   (match s.reg r with
    | some g=>
      (match g.body,isAggT P t with
       | .cells xs,true=>(match sub xs (i * g.st+c) (sizeT P t) with | some l=>some ([],.v (.ag l)) | none=>none)
       | .cells xs,false=>(match xs[i * g.st+c]? with | some x=>some ([],.v (.c x)) | none=>none)
       | .ints k xs,false=>(match c with | 0=>some ([decide (i<xs.length)],.v (.c (.i k (xs.getD i 0)))) | _=>none)
       | .ints k xs,true=>(match i,c with | 0,0=>if xs.length=sizeT P t then some ([],.v (.ag (intsNC k xs))) else none | _,_=>none)
       | .recs ks xs,false=>
         (match ks[c]? with
          | some k=>some ([decide (i<xs.length)],.v (.c (ckNC k ((xs.getD i []).getD c (.i 0)))))
          | none=>none)
       | .recs ks xs,true=>
         (match c with
          | 0=>if sizeT P t=ks.length then some ([decide (i<xs.length)],.v (.ag (rowCells ks (xs.getD i []))))
            else if i=0 then (if sizeT P t=xs.length * ks.length then some ([],.v (.ag (rowsNC ks xs))) else none) else none
          | _=>none)
       | .sg l,agg=>(match i with
         | 0=>(match segGet l c (sizeT P t) agg with | some v=>some ([],.v v) | none=>none)
         | _=>none)
       | .tab sch xs,agg=>(match segGet (rowSegs sch (xs.getD i []) 0) c (sizeT P t) agg with
         | some v=>some ([decide (i<xs.length)],.v v)
         | none=>none)
       | .mp _ _ _,_=>none)
    | none=>none)
 | .pt sch xs i c=>(match segGet (rowSegs sch (xs.getD i []) 0) c (sizeT P t) (isAggT P t) with
   | some v=>some ([decide (i<xs.length)],.v v)
   | none=>none)
 | .q r o w i c=>
   (match s.reg r with
    | some g=>
      (match g.body with
       | .sg l=>(match segGetQ l o w i c (sizeT P t) (isAggT P t) with | some v=>some (v.1,.v v.2) | none=>none)
       | _=>none)
    | none=>none)
 | .pl k xs i=>if isAggT P t then none else some ([decide (i<xs.length)],.v (.c (.i k (xs.getD i 0))))
 | .pr ks xs i c=>
   if isAggT P t then
    (match c with
     | 0=>if sizeT P t=ks.length then some ([decide (i<xs.length)],.v (.ag (rowCells ks (xs.getD i [])))) else none
     | _=>none)
   else
    (match ks[c]? with
     | some k=>some ([decide (i<xs.length)],.v (.c (ckNC k ((xs.getD i []).getD c (.i 0)))))
     | none=>none)
 | .g x=>if isAggT P t then none else if gl.tail.contains x then some ([],.v (.c (.e x))) else none
 | _=>none
def splice {α:Type} (xs:List α) (o:Nat) (ys:List α):List α:=xs.take o++ys++xs.drop (o+ys.length)
def setI:List Int→Nat→Int→Nat→List Int
 | [],_,_,_=>[]
 | x::xs,i,v,j=>(bif i==j then v else x)::setI xs i v (j+1)
def setRow (ks:List CK) (row:List Sc) (c:Nat) (x:Sc):List Sc:=(List.range ks.length).map fun j=>if j=c then x else row.getD j (.i 0)
def Seg.put (o n:Nat) (p:List Seg):Seg→Option Seg
 | .cells xs=>some (.cells (splice xs o (segFlat p)))
 | .ints k m xs=>(match asInts k p with
   | some ys=>if n=m then some (.ints k m ys) else some (.ints k m (spl xs o n ys))
   | none=>none)
 | .recs ks m xs=>
   if 0<ks.length∧o % ks.length=0∧n % ks.length=0 then
    (match asRows ks (n / ks.length) p with
     | some ys=>if n / ks.length=m then some (.recs ks m ys) else some (.recs ks m (spl xs (o / ks.length) (n / ks.length) ys))
     | none=>none)
   else
    (match p with
     | [.cells [y]]=>(match ks[o % ks.length]? with
       | some k=>(match toSc k y with
         | some z=>some (.recs ks m (xs.set (o / ks.length) (setRow ks (xs.getD (o / ks.length) []) (o % ks.length) z)))
         | none=>none)
       | none=>none)
     | _=>none)
def segPut:List Seg→Nat→Nat→List Seg→Option (List Seg)
 | [],_,n,_=>if n=0 then some [] else none
 | s::l,o,n,v=>
   if n=0 then some (s::l)
   else if s.size≤o then (match segPut l (o - s.size) n v with | some r=>some (s::r) | none=>none)
   else match segSub v 0 (min n (s.size - o)),segSub v (min n (s.size - o)) (n - min n (s.size - o)) with
    | some p,some q=>(match s.put o (min n (s.size - o)) p,segPut l 0 (n - min n (s.size - o)) q with
      | some a,some r=>some (a::r)
      | _,_=>none)
    | _,_=>none
def segPutQ:List Seg→Nat→Nat→Nat→Nat→NV→Option (List Bool × List Seg)
 | [],_,_,_,_,_=>none
 | s::l,o,w,i,c,v=>
   if s.size≤o then (match segPutQ l (o - s.size) w i c v with | some r=>some (r.1,s::r.2) | none=>none)
   else match s with
    | .cells xs=>if o+i * w+c+v.size≤segSize (.cells xs::l) then (match segPut (.cells xs::l) (o+i * w+c) v.size v.segs with | some r=>some ([],r) | none=>none) else none
    | .ints k m xs=>(match c with
      | 0=>(match v with
        | .c (.i k' z)=>if k=k' then some ([decide (addJ o (mulQ i w)<m)],.ints k m (xs.set (addJ o (mulQ i w)) z)::l) else none
        | .c _=>none
        | v=>(match asInts k v.segs with
          | some ys=>if v.size=m then some ([decide (addJ o (mulQ i w)=0)],.ints k m ys::l) else some ([decide (addJ o (mulQ i w)+v.size≤m)],.ints k m (spl xs (addJ o (mulQ i w)) v.size ys)::l)
          | none=>none))
      | _=>none)
    | .recs ks m xs=>
      if 0<ks.length∧o % ks.length=0∧w % ks.length=0 then
       (match v with
        | .c y=>(match ks[c]? with
          | some k=>(match toSc k y with
            | some z=>some ([decide (addJ (o / ks.length) (mulQ i (w / ks.length))<m)],.recs ks m (xs.set (addJ (o / ks.length) (mulQ i (w / ks.length))) (setRow ks (xs.getD (addJ (o / ks.length) (mulQ i (w / ks.length))) []) c z))::l)
            | none=>none)
          | none=>none)
        | v=>(match c with
          | 0=>if v.size % ks.length=0 then
             (match asRows ks (v.size / ks.length) v.segs with
              | some ys=>if v.size / ks.length=m then some ([decide (addJ (o / ks.length) (mulQ i (w / ks.length))=0)],.recs ks m ys::l)
                else some ([decide (addJ (o / ks.length) (mulQ i (w / ks.length))+v.size / ks.length≤m)],.recs ks m (spl xs (addJ (o / ks.length) (mulQ i (w / ks.length))) (v.size / ks.length) ys)::l)
              | none=>none)
            else none
          | _=>none))
      else none
def nstore (P:Program) (s:St) (t:TypeId) (a:NC) (x:NV):Option (List Bool × Nat × Reg):=
 if x.size=sizeT P t then
  match a with
  | .q r o w i c=>
    (match s.reg r with
     | some g=>
       (match g.body with
        | .sg l=>(match segPutQ l o w i c x with | some v=>some (v.1,r,{g with body:=.sg v.2}) | none=>none)
        | _=>none)
     | none=>none)
  | .p r i c=>
    (match s.reg r with
     | some g=>
       (match g.body with
        | .cells xs=>
          if i * g.st+c+x.size≤xs.length then some ([],r,{g with body:=.cells (splice xs (i * g.st+c) x.cells)}) else none
        | .sg l=>(match i with
          | 0=>if c+x.size≤segSize l then (match segPut l c x.size x.segs with | some l'=>some ([],r,{g with body:=.sg l'}) | none=>none) else none
          | _=>none)
        | .ints k xs=>
          (match c with
           | 0=>(match x with
             | .c (.i k' n)=>if k=k' then some ([decide (i<xs.length)],r,{g with body:=.ints k (setI xs i n 0)}) else none
             | .c _=>none
             | .sg _=>none
             | .ag ys=>(match i,toInts k ys with
               | 0,some l=>if l.length=xs.length then some ([],r,{g with body:=.ints k l}) else none
               | _,_=>none))
           | _=>none)
        | .recs ks xs=>
          (match x with
           | .c y=>(match ks[c]? with
             | some k=>(match toSc k y with
               | some z=>some ([decide (i<xs.length)],r,{g with body:=.recs ks (xs.set i (setRow ks (xs.getD i []) c z))})
               | none=>none)
             | none=>none)
           | .sg _=>none
           | .ag ys=>
             (match c with
              | 0=>if ys.length=ks.length then
                 (match toRow ks ys with
                  | some row=>some ([decide (i<xs.length)],r,{g with body:=.recs ks (xs.set i row)})
                  | none=>none)
                else (match i,toRows ks xs.length ys with
                 | 0,some rows=>some ([],r,{g with body:=.recs ks rows})
                 | _,_=>none)
              | _=>none))
        | .tab _ _=>none
        | .mp _ _ _=>none)
     | none=>none)
  | _=>none
 else none
def fieldOff (P:Program) (t:TypeId) (f:Nat):Option (Nat × TypeId):=
 match P.underlying t with
 | some (.struct fs)=>(match fs[f]? with
   | some x=>if sizeT P x.type=0 then none else some (x.offset,x.type)
   | none=>none)
 | _=>none
def qAt (r o w i c es n:Nat):Nat × Nat × Nat × Nat:=
 match c with
 | 0=>if 0<es∧w % es=0 then (r,o,es,mulQ i (w / es)+n) else (r,o+i * w,es,n)
 | c=>(r,o+i * w+c,es,n)
def Body.isSg:Body→Bool
 | .sg _=>true
 | _=>false
def nindexAddr (P:Program) (s:St) (t:TypeId) (x ix:NC):Option (List Bool × NS):=
 match ix with
 | .i _ n=>
   (match P.underlying t,x with
    | some (.array len e),.q r o w i c=>
      if 1<len∧0<sizeT P e then
       some ([decide (0≤n),decide (n<len)],.v (.c (.q (qAt r o w i c (sizeT P e) n.toNat).1 (qAt r o w i c (sizeT P e) n.toNat).2.1 (qAt r o w i c (sizeT P e) n.toNat).2.2.1 (qAt r o w i c (sizeT P e) n.toNat).2.2.2 0)))
      else none
    | some (.slice e),.hq r o w i len=>
      if sizeT P e=w∧0<w then some ([decide (0≤n),decide (n<len)],.v (.c (.q r o w (addJ i n.toNat) 0))) else none
    | some (.array len e),.p r i c=>
      (match s.reg r with
       | some g=>
         let cond:=[decide (0≤n),decide (n<len)]
         if 1<len∧0<sizeT P e then
          (match g.body.isSg,i with
           | true,0=>some (cond,.v (.c (.q r c (sizeT P e) n.toNat 0)))
           | true,_=>none
           | false,_=>if sizeT P e=g.st then (match c with | 0=>some (cond,.v (.c (.p r (i+n.toNat) 0))) | _=>some (cond,.v (.c (.p r i (c+n.toNat * sizeT P e)))))
           else some (cond,.v (.c (.p r i (c+n.toNat * sizeT P e)))))
         else none
       | none=>none)
    | some (.slice e),.h r off len=>
      (match s.reg r with
       | some g=>if sizeT P e=g.st∧0<g.st then some ([decide (0≤n),decide (n<len)],.v (.c (.p r (off+n.toNat) 0))) else none
       | none=>none)
    | some (.slice e),.hz r len=>
      (match s.reg r with
       | some g=>if sizeT P e=g.st∧0<g.st then some ([decide (0≤n),decide (n<len)],.v (.c (.p r n.toNat 0))) else none
       | none=>none)
    | some (.slice e),.l k xs=>if sizeT P e=1 then some ([decide (0≤n),decide (n<xs.length)],.v (.c (.pl k xs n.toNat))) else none
    | some (.slice e),.lr ks xs=>if sizeT P e=ks.length then some ([decide (0≤n),decide (n<xs.length)],.v (.c (.pr ks xs n.toNat 0))) else none
    | some (.slice e),.lt sch xs=>if sizeT P e=schSize sch then some ([decide (0≤n),decide (n<xs.length)],.v (.c (.pt sch xs n.toNat 0))) else none
    | _,_=>none)
 | _=>none
def byteAt (s:ByteArray) (i:Nat):Int:=((s.data.getD i 0).toNat:Int)
def agInts:List NC→Option (IntKind × List Int)
 | []=>none
 | .i k n::l=>(match toInts k l with | some r=>some (k,n::r) | none=>none)
 | _::_=>none
def agBools:List NC→Option (List Bool)
 | []=>some []
 | .b x::l=>(match agBools l with | some r=>some (x::r) | none=>none)
 | _::_=>none
def nindex (P:Program) (t:TypeId) (x:NS) (ix:NC):Option (List Bool × NS):=
 match ix with
 | .i _ n=>
   (match P.underlying t,x with
    | some .string,.v (.c (.s z))=>some ([decide (0≤n),decide (n<z.size)],.v (.c (.i .u8 (byteAt z n.toNat))))
    | some (.array len e),.v (.sg l)=>
      if 0<sizeT P e then
       (match P.underlying e,segGetQ l 0 (sizeT P e) n.toNat 0 (sizeT P e) (isAggT P e) with
        | some _,some v=>if isAggT P e||sizeT P e==1 then some (decide (0≤n)::decide (n<len)::v.1,.v v.2) else none
        | _,_=>none)
      else none
    | some (.array len e),.v (.ag xs)=>
      if isAggT P e then (if 0<sizeT P e then some ([decide (0≤n),decide (n<len)],.v (.ag ((xs.drop (n.toNat * sizeT P e)).take (sizeT P e)))) else none) else if sizeT P e=1 then
       (match agInts xs with
        | some (k,l)=>if l.length=len then
           (match P.underlying e with
            | some _=>some ([decide (0≤n),decide (n<len)],.v (.c (.i k (l.getD n.toNat 0))))
            | none=>none)
          else none
        | none=>
          (match agBools xs with
           | some l=>if l.length=len then
              (match P.underlying e with
               | some _=>some ([decide (0≤n),decide (n<len)],.v (.c (.b (l.getD n.toNat false))))
               | none=>none)
             else none
           | none=>none))
      else none
    | _,_=>none)
 | _=>none
def ofOpt (s:St) (x:Option Operand):Option (Option NC):=
 match x with
 | none=>some none
 | some o=>(match (s.ev o).nc with
   | some a=>some (some a)
   | none=>none)
def sliceB (len:Nat) (lo hi:Option NC):Option (List Bool × Nat × Nat):=
 match lo,hi with
 | none,none=>some ([],0,len)
 | none,some (.i _ h)=>some ([decide (0≤h),decide (h≤len)],0,h.toNat)
 | some (.i _ l),none=>some ([decide (0≤l),decide (l≤len)],l.toNat,len)
 | some (.i _ l),some (.i _ h)=>some ([decide (0≤l),decide (l≤h),decide (h≤len)],l.toNat,h.toNat)
 | _,_=>none
def nslice (P:Program) (s:St) (t:TypeId) (x:NC) (lo hi:Option NC):Option (List Bool × NS):=
 match P.underlying t,x with
 | some (.array n e),.q r o w i c=>
   (match sliceB n lo hi with
    | some (cs,a,b)=>if 0<sizeT P e∧n≤1000000 then
       some (cs,.v (.c (.hq (qAt r o w i c (sizeT P e) a).1 (qAt r o w i c (sizeT P e) a).2.1 (qAt r o w i c (sizeT P e) a).2.2.1 (qAt r o w i c (sizeT P e) a).2.2.2 (b - a)))) else none
    | none=>none)
 | some (.array n e),.p r 0 c=>
   (match s.reg r,sliceB n lo hi with
    | some g,some (cs,a,b)=>if g.body.isSg=true∧0<sizeT P e∧n≤1000000 then some (cs,.v (.c (.hq r c (sizeT P e) a (b - a)))) else none
    | _,_=>none)
 | some (.slice e),.hq r o w i len=>
   (match sliceB len lo hi with
    | some (cs,a,b)=>if sizeT P e=w∧0<w then some (cs,.v (.c (.hq r o w (addJ i a) (b - a)))) else none
    | none=>none)
 | some (.slice e),.h r off len=>
   (match s.reg r,sliceB len lo hi with
    | some g,some (c,a,b)=>if sizeT P e=g.st∧0<g.st then some (c,.v (.c (.h r (off+a) (b - a)))) else none
    | _,_=>none)
 | some (.slice e),.hz r len=>
   (match s.reg r,sliceB len lo hi with
    | some g,some (c,a,b)=>if sizeT P e=g.st∧0<g.st then some (decide (0<len)::c,.v (.c (.h r a (b - a)))) else none
    | _,_=>none)
 | some (.slice e),.l k xs=>
   (match sliceB xs.length lo hi with
    | some (c,a,b)=>if sizeT P e=1 then some (c,.v (.c (.l k ((xs.take b).drop a)))) else none
    | none=>none)
 | some (.slice e),.lr ks xs=>
   (match sliceB xs.length lo hi with
    | some (c,a,b)=>if sizeT P e=ks.length then some (c,.v (.c (.lr ks ((xs.take b).drop a)))) else none
    | none=>none)
 | some (.slice e),.lt sch xs=>
   (match sliceB xs.length lo hi with
    | some (c,a,b)=>if sizeT P e=schSize sch then some (c,.v (.c (.lt sch ((xs.take b).drop a)))) else none
    | none=>none)
 | some .string,.s z=>
   (match sliceB z.size lo hi with
    | some (c,a,b)=>some (c,.v (.c (.s (z.extract a b))))
    | none=>none)
 | some (.slice e),.sn=>
   (match sliceB 0 lo hi with
    | some (c,_,_)=>if 0<sizeT P e then some (c,.v (.c .sn)) else none
    | none=>none)
 | _,_=>none
inductive Els where
 | ints (k:IntKind) (xs:List Int)
 | recs (ks:List CK) (xs:List (List Sc))
def segEls:List Seg→Nat→Nat→Nat→Nat→Option (List Bool × Els)
 | [],_,_,_,_=>none
 | s::l,o,w,i,len=>
   if s.size≤o then segEls l (o - s.size) w i len
   else match s with
    | .cells _=>none
    | .ints k m xs=>if w=1 then some ([decide (addJ o i+len≤m)],.ints k ((xs.drop (addJ o i)).take len)) else none
    | .recs ks m xs=>if 0<ks.length∧o % ks.length=0∧w=ks.length then some ([decide (addJ (o / ks.length) i+len≤m)],.recs ks ((xs.drop (addJ (o / ks.length) i)).take len)) else none
def els (s:St) (x:NC):Option (List Bool × Els):=
 match x with
 | .h r off len=>
   (match s.reg r with
    | some g=>
      (match g.body with
       | .ints k xs=>some ([decide (off+len≤xs.length)],.ints k ((xs.drop off).take len))
       | .recs ks xs=>some ([decide (off+len≤xs.length)],.recs ks ((xs.drop off).take len))
       | .cells _=>none
       | .sg _=>none
       | .tab _ _=>none
       | .mp _ _ _=>none)
    | none=>none)
 | .hq r o w i len=>
   (match s.reg r with
    | some g=>
      (match g.body with
       | .sg l=>segEls l o w i len
       | _=>none)
    | none=>none)
 | .hz r len=>
   (match s.reg r with
    | some g=>
      (match g.body with
       | .ints k xs=>some ([decide (len≤xs.length)],.ints k (xs.take len))
       | .recs ks xs=>some ([decide (len≤xs.length)],.recs ks (xs.take len))
       | _=>none)
    | none=>none)
 | .l k xs=>some ([],.ints k xs)
 | .lr ks xs=>some ([],.recs ks xs)
 | _=>none
def tels (s:St) (x:NC):Option (List Bool × List Part × List (List FC)):=
 match x with
 | .h r off len=>
   (match s.reg r with
    | some g=>(match g.body with
      | .tab sch xs=>some ([decide (off+len≤xs.length)],sch,(xs.drop off).take len)
      | _=>none)
    | none=>none)
 | .hz r len=>
   (match s.reg r with
    | some g=>(match g.body with
      | .tab sch xs=>some ([decide (len≤xs.length)],sch,xs.take len)
      | _=>none)
    | none=>none)
 | .lt sch xs=>some ([],sch,xs)
 | _=>none
def tabReg (e:TypeId) (sch:List Part) (xs:List (List FC)):Reg:={st:=schSize sch,e:=e,body:=.tab sch xs}
def tabFits (P:Program) (e:TypeId) (sch:List Part):Bool:=
 decide (schOf P e=some sch)&&decide (0<schSize sch)&&isAggT P e&&(match P.info? e with
  | some i=>(match i.zero with
    | some z=>z.cells.size==i.size&&i.size==schSize sch
    | none=>false)
  | none=>false)
def makeReg (P:Program) (e:TypeId) (n:Nat):Option Reg:=
 match zeroCells P e with
 | some [.i k z]=>some {st:=1,e:=e,body:=.ints k (List.replicate n z)}
 | some [.b z]=>some {st:=1,e:=e,body:=.recs [.b] (List.replicate n [.b z])}
 | some zs=>
   (match ksFrom zs with
    | some ks=>
      (match toRow ks zs with
       | some row=>if 1<ks.length then some {st:=ks.length,e:=e,body:=.recs ks (List.replicate n row)} else none
       | none=>none)
    | none=>none)
 | none=>none
def buildParts (P:Program) (size:Nat→Option (Nat × Nat)):List NC→List (Nat × NS)→Option (List NC)
 | xs,[]=>some xs
 | xs,(i,v)::rest=>
   (match size i,v.nv with
    | some (off,n),some x=>
      if x.size=n∧off+n≤xs.length then buildParts P size (splice xs off x.cells) rest else none
    | _,_=>none)
def nbuild (P:Program) (t:TypeId) (parts:List (Nat × NS)):Option (List NC):=
 match zeroCells P t,P.underlying t with
 | some z,some (.struct fs)=>if fs.toList.all (fun f=>(P.info? f.type).isSome) then buildParts P (fun i=>(fs[i]?).map fun f=>(f.offset,sizeT P f.type)) z parts else none
 | some z,some (.array _ e)=>if 0<sizeT P e then buildParts P (fun i=>some (i * sizeT P e,sizeT P e)) z parts else none
 | _,_=>none
def buildSegs (size:Nat→Option (Nat × Nat)):List Seg→List (Nat × NS)→Option (List Seg)
 | xs,[]=>some xs
 | xs,(i,v)::rest=>
   (match size i,v.nv with
    | some (off,n),some x=>
      if x.size=n∧off+n≤segSize xs then
       (match segPut xs off n x.segs with
        | some ys=>buildSegs size ys rest
        | none=>none)
      else none
    | _,_=>none)
def nbuildV (P:Program) (t:TypeId) (parts:List (Nat × NS)):Option NV:=
 match bigT P t with
 | false=>(match nbuild P t parts with | some l=>some (.ag l) | none=>none)
 | true=>(match zeroSegs P t,P.underlying t with
   | some z,some (.struct fs)=>if fs.toList.all (fun f=>(P.info? f.type).isSome) then (match buildSegs (fun i=>(fs[i]?).map fun f=>(f.offset,sizeT P f.type)) z parts with | some l=>some (.sg l) | none=>none) else none
   | some z,some (.array _ e)=>if 0<sizeT P e then (match buildSegs (fun i=>some (i * sizeT P e,sizeT P e)) z parts with | some l=>some (.sg l) | none=>none) else none
   | _,_=>none)
def repl (n:Nat) (z:List NC):List NC:=(List.replicate n z).flatten
def nlen (P:Program) (s:St) (args:List Operand) (ts:List TypeId):Option (List Bool × NS):=
 match args,ts with
 | [x],[t]=>
   (match P.underlying t,s.ev x with
    | some (.slice _),.v (.c (.h _ _ n))=>some ([],.v (.c (.i .i64 n)))
    | some (.slice _),.v (.c (.hq _ _ _ _ n))=>some ([],.v (.c (.i .i64 n)))
    | some (.slice _),.v (.c (.hz _ n))=>some ([],.v (.c (.i .i64 n)))
    | some (.slice _),.v (.c (.l _ xs))=>some ([],.v (.c (.i .i64 xs.length)))
    | some (.slice _),.v (.c (.lr _ xs))=>some ([],.v (.c (.i .i64 xs.length)))
    | some (.slice _),.v (.c (.lt _ xs))=>some ([],.v (.c (.i .i64 xs.length)))
    | some (.slice _),.v (.c .sn)=>some ([],.v (.c (.i .i64 0)))
    | some .string,.v (.c (.s z))=>some ([],.v (.c (.i .i64 z.size)))
    | some (.array n _),_=>some ([],.v (.c (.i .i64 n)))
    | _,_=>none)
 | _,_=>none
def ncFC:Part→NC→Option FC
 | .i k,.i k' n=>if k=k' then some (.i n) else none
 | .b,.b x=>some (.b x)
 | .s,.s x=>some (.s x)
 | .l k,.l k' xs=>if k=k' then some (.is xs) else none
 | .l _,.sn=>some (.is [])
 | .lr ks,.lr ks' xs=>if ks=ks' then some (.rs xs) else none
 | .lr ks,.sn=>if 0<ks.length then some (.rs []) else none
 | _,_=>none
def fcRow:List Part→List NC→List Seg→Option (List FC)
 | [],[],[]=>some []
 | [],_,_=>none
 | .ai k n::sch,[],.ints k' n' xs::rest=>if k=k'∧n=n' then (match fcRow sch [] rest with | some r=>some (.is xs::r) | none=>none) else none
 | .ar ks n::sch,[],.recs ks' n' xs::rest=>if ks=ks'∧n=n' then (match fcRow sch [] rest with | some r=>some (.rs xs::r) | none=>none) else none
 | p::sch,x::xs,rest=>(match ncFC p x,fcRow sch xs rest with | some a,some r=>some (a::r) | _,_=>none)
 | p::sch,[],.cells (x::xs)::rest=>(match ncFC p x,fcRow sch xs rest with | some a,some r=>some (a::r) | _,_=>none)
 | _,_,_=>none
def nvRow (sch:List Part):NV→Option (List FC)
 | .c _=>none
 | .ag xs=>fcRow sch xs []
 | .sg l=>fcRow sch [] l
def nvRows (sch:List Part) (s:St):Nat→List (Nat × Operand)→Option (List (List FC))
 | _,[]=>some []
 | j,(i,x)::l=>if i=j then (match (s.ev x).nv with
    | some v=>(match nvRow sch v,nvRows sch s (j+1) l with
      | some a,some r=>some (a::r)
      | _,_=>none)
    | none=>none) else none
def nbuildT (P:Program) (s:St) (t:TypeId) (len:Nat) (parts:List (Nat × Operand)):Option Reg:=
 match P.underlying t with
 | some (.slice e)=>(match ksOf P e,schOf P e with
   | none,some sch=>if tabFits P e sch=true∧parts.length=len∧len * schSize sch≤16777216∧len≤16777216 then
      (match nvRows sch s 0 parts with
       | some rows=>some (tabReg e sch rows)
       | none=>none) else none
   | _,_=>none)
 | _=>none
def keyEq:List Part→List FC→List FC→Nat→Bool
 | [],_,_,_=>true
 | .i _::sch,a,b,j=>((a.getD j (.i 0)).n==(b.getD j (.i 0)).n)&&keyEq sch a b (j+1)
 | .b::sch,a,b,j=>((a.getD j (.i 0)).t==(b.getD j (.i 0)).t)&&keyEq sch a b (j+1)
 | _,_,_,_=>false
def flatFs (P:Program):List Field→List Part→Nat→Bool
 | [],[],_=>true
 | f::fs,.i k::ks,j=>f.name !="_"&&f.offset==j&&(match P.underlying f.type with | some (.int k')=>decide (k'=k) | _=>false)&&flatFs P fs ks (j+1)
 | f::fs,.b::ks,j=>f.name !="_"&&f.offset==j&&(match P.underlying f.type with | some .bool=>true | _=>false)&&flatFs P fs ks (j+1)
 | _,_,_=>false
def flatKey (P:Program) (t:TypeId) (ks:List Part):Bool:=
 match P.underlying t with
 | some (.struct fs)=>flatFs P fs.toList ks 0&&!P.stoodInHeld t&&!(P.eqGuardType P.depth t)
 | _=>false
def mpHas (ks:List Part) (key:List FC) (xs:List (List FC × List FC)):Bool:=xs.any fun x=>keyEq ks key x.1 0
def mpGet (ks:List Part) (key:List FC) (xs:List (List FC × List FC)):List FC:=
 match xs.find? fun x=>keyEq ks key x.1 0 with
 | some x=>x.2
 | none=>[]
def mpSet (ks:List Part) (key v:List FC):List (List FC × List FC)→List (List FC × List FC)
 | []=>[(key,v)]
 | x::xs=>match keyEq ks key x.1 0 with
   | true=>(key,v)::xs
   | false=>x::mpSet ks key v xs
def mpDel (ks:List Part) (key:List FC):List (List FC × List FC)→List (List FC × List FC)
 | []=>[]
 | x::xs=>match keyEq ks key x.1 0 with
   | true=>xs
   | false=>x::mpDel ks key xs
def zeroAgg (P:Program) (t:TypeId):Bool:=
 match P.info? t with
 | some i=>(match i.zero with
   | some (.agg _)=>true
   | _=>false)
 | none=>false
def zeroNV (P:Program) (t:TypeId):Option NV:=
 match zeroAgg P t,bigT P t with
 | true,true=>(match zeroSegs P t with | some l=>some (.sg l) | none=>none)
 | true,false=>(match zeroCells P t with | some l=>some (.ag l) | none=>none)
 | false,_=>none
def nmapAt (P:Program) (s:St) (t:TypeId) (m k:Operand):Option (Nat × Reg × List Part × List Part × List (List FC × List FC) × List FC × TypeId):=
 match P.underlying t,(s.ev m).nc,(s.ev k).nv with
 | some (.map kt et),some (.m r),some key=>
   (match s.reg r with
    | some g=>(match g.body with
      | .mp ks sch xs=>(match nvRow ks key,flatKey P kt ks with
        | some row,true=>some (r,g,ks,sch,xs,row,et)
        | _,_=>none)
      | _=>none)
    | none=>none)
 | _,_,_=>none
def nlookup (P:Program) (s:St) (t:TypeId) (m k:Operand):Option (Bool × NV × NV):=
 match nmapAt P s t m k with
 | some (_,_,ks,sch,xs,row,et)=>(match zeroNV P et with
   | some z=>some (mpHas ks row xs,mkSub (schSize sch) (rowSegs sch (mpGet ks row xs) 0),z)
   | none=>none)
 | none=>none
def nmapSet (P:Program) (s:St) (t:TypeId) (m k v:Operand):Option (Nat × Reg):=
 match nmapAt P s t m k with
 | some (r,g,ks,sch,xs,row,_)=>(match (s.ev v).nv with
   | some y=>(match nvRow sch y with
     | some vr=>some (r,{g with body:=.mp ks sch (mpSet ks row vr xs)})
     | none=>none)
   | none=>none)
 | none=>none
def nmapDel (P:Program) (s:St) (t:TypeId) (m k:Operand):Option (Nat × Reg):=
 match nmapAt P s t m k with
 | some (r,g,ks,sch,xs,row,_)=>some (r,{g with body:=.mp ks sch (mpDel ks row xs)})
 | none=>none
def nstructEq (P:Program) (s:St) (op:BinOp) (t:TypeId) (x y:Operand):Option Bool:=
 match (s.ev x).nv,(s.ev y).nv,schT P false 8 t with
 | some (.ag a),some (.ag b),some ks=>(match fcRow ks a [],fcRow ks b [],flatKey P t ks,op with
   | some ra,some rb,true,.eql=>some (keyEq ks ra rb 0)
   | some ra,some rb,true,.neq=>some (!keyEq ks ra rb 0)
   | _,_,_,_=>none)
 | _,_,_=>none
def nmm (less:Bool) (s:St) (args:List Operand):Option (List Bool × NS):=
 match args with
 | [x,y]=>
   (match s.ev x,s.ev y with
    | .v (.c (.i k m)),.v (.c (.i _ n))=>some ([],.v (.c (.i k (bif (match less with | true=>decide (n<m) | false=>decide (n > m)) then n else m))))
    | _,_=>none)
 | _=>none
def ncap (P:Program) (s:St) (args:List Operand) (ts:List TypeId):Option (List Bool × NS):=
 match args,ts with
 | [x],[t]=>
   (match P.underlying t,s.ev x with
    | some (.slice _),.v (.c .sn)=>some ([],.v (.c (.i .i64 0)))
    | _,_=>none)
 | _,_=>none
def allPtr:List NS→Option (List (Nat × Nat × Nat))
 | []=>some []
 | .v (.c (.p r i c))::l=>(match allPtr l with
   | some t=>some ((r,i,c)::t)
   | none=>none)
 | _::_=>none
def zeroNil (P:Program) (t:TypeId):Bool:=
 match P.info? t with
 | some i=>(match i.zero with
   | some (.pointer none)=>true
   | _=>false)
 | none=>false
def nassert (P:Program) (gl:List Nat) (x:NC) (asserted:TypeId):Option NS:=
 match x with
 | .en=>(match P.underlying asserted,zeroNil P asserted with | some (.pointer _),true=>some (.tu [.c .pn,.c (.b false)]) | _,_=>none)
 | .e k=>if gl.headD 0==asserted||!gl.tail.contains k then none else (match P.underlying asserted,zeroNil P asserted with | some (.pointer _),true=>some (.tu [.c .pn,.c (.b false)]) | _,_=>none)
 | _=>none
def light (P:Program) (gl:List Nat) (s:St) (op:Op):R1:=
 match op with
 | .move x | .assign x=>.val [] (s.ev x)
 | .alloc t=>(match allocReg P t (varReg P) with
   | some g=>.new [] g (fun n=>.v (.c (.p n 0 0)))
   | none=>.no)
 | .box t x=>(match (s.ev x).nv with
   | some v=>if v.size=sizeT P t then (match boxReg P t (varReg P) v with | some g=>.new [] g (fun n=>.v (.c (.p n 0 0))) | none=>.no) else .no
   | none=>.no)
 | .build t parts=>(match nbuildV P t (parts.toList.map fun (i,x)=>(i,s.ev x)) with
   | some v=>.val [] (.v v)
   | none=>.no)
 | .buildSlice t len parts=>
   (match P.underlying t with
    | some (.slice e)=>
      (match zeroCells P e with
       | some z=>
         if len * z.length≤16777216∧len≤16777216 then
          (match buildParts P (fun i=>some (i * sizeT P e,sizeT P e)) (repl len z) (parts.toList.map fun (i,x)=>(i,s.ev x)) with
           | some l=>.new [] {st:=(elemBody P e len l).1,e:=e,body:=(elemBody P e len l).2} (fun n=>.v (.c (.h n 0 len)))
           | none=>.no)
         else .no
       | none=>.no)
    | _=>.no)
 | .load t a=>(match P.underlying t,(s.ev a).nc with | some _,some x=>ofV (nload P gl s t x) | _,_=>.no)
 | .store t a x=>(match P.info? t,(s.ev a).nc,(s.ev x).nv with
   | some _,some y,some z=>(match nstore P s t y z with | some (c,n,g)=>.upd c n g | none=>.no)
   | _,_,_=>.no)
 | .nilCheck x=>(match s.ev x with
   | .v (.c (.p r i c))=>.val [] (.v (.c (.p r i c)))
   | .v (.c (.q r o w i c))=>.val [] (.v (.c (.q r o w i c)))
   | .v (.c (.pl k xs i))=>.val [] (.v (.c (.pl k xs i)))
   | .v (.c (.pr ks xs i c))=>.val [] (.v (.c (.pr ks xs i c)))
   | .v (.c (.pt sch xs i c))=>.val [] (.v (.c (.pt sch xs i c)))
   | .v (.c (.g x))=>.val [] (.v (.c (.g x)))
   | _=>.no)
 | .binOp op t x y _=>(match (s.ev x).nc,(s.ev y).nc with
   | some a,some b=>(match nbinE P gl op t x y a b with | some (c,v)=>.val c (.v (.c v)) | none=>.no)
   | _,_=>.no)
 | .unOp op _ x=>(match (s.ev x).nc with
   | some a=>(match nun op a with | some v=>.val [] (.v (.c v)) | none=>.no)
   | none=>.no)
 | .convert src dst x=>(match (s.ev x).nc with
   | some (.i _ n)=>(match P.underlying src,P.underlying dst with
     | some _,some (.int k)=>.val [] (.v (.c (.i k (k.wrap n))))
     | _,_=>.no)
   | _=>.no)
 | .makeSlice t l c=>(match P.underlying t,(s.ev l).nc,(s.ev c).nc with
   | some (.slice e),some (.i .i64 n),some (.i .i64 m)=>
     (match makeReg P e n.toNat with
      | some g=>.new [decide (0≤n),decide (n≤m),decide (m * bytesT P e≤140737488355328),decide (m≤9223372036854775807)] g (fun nm=>.v (.c (.h nm 0 n.toNat)))
      | none=>.no)
   | _,_,_=>.no)
 | .slice t x lo hi none=>(match (s.ev x).nc,ofOpt s lo,ofOpt s hi with
   | some a,some l,some h=>ofV (nslice P s t a l h)
   | _,_,_=>.no)
 | .fieldAddr t x f=>(match (s.ev x).nc,fieldOff P t f with
   | some (.p r i c),some (o,_)=>.val [] (.v (.c (.p r i (c+o))))
   | some (.q r a w i c),some (o,_)=>.val [] (.v (.c (.q r a w i (c+o))))
   | some (.pr ks xs i c),some (o,_)=>.val [] (.v (.c (.pr ks xs i (c+o))))
   | some (.pt sch xs i c),some (o,_)=>.val [] (.v (.c (.pt sch xs i (c+o))))
   | _,_=>.no)
 | .field t x f=>(match s.ev x,fieldOff P t f with
   | .v (.ag xs),some (o,ft)=>
     (match P.underlying ft with
      | some _=>
        if isAggT P ft then (match sub xs o (sizeT P ft) with | some l=>.val [] (.v (.ag l)) | none=>.no)
        else (match xs[o]? with | some y=>.val [] (.v (.c y)) | none=>.no)
      | none=>.no)
   | .v (.sg l),some (o,ft)=>
     (match P.underlying ft with
      | some _=>(match segGet l o (sizeT P ft) (isAggT P ft) with | some v=>.val [] (.v v) | none=>.no)
      | none=>.no)
   | _,_=>.no)
 | .indexAddr t x ix=>(match (s.ev x).nc,(s.ev ix).nc with
   | some a,some b=>ofV (nindexAddr P s t a b)
   | _,_=>.no)
 | .index t x ix=>(match (s.ev ix).nc with
   | some b=>ofV (nindex P t (s.ev x) b)
   | none=>.no)
 | .sliceToArrayPointer t x=>(match P.underlying t,(s.ev x).nc with
   | some (.array n _),some (.h r off len)=>if 0<n then .val [decide (n≤len)] (.v (.c (.p r off 0))) else .no
   | _,_=>.no)
 | .makeFunc (.func f) first caps=>if first.size=0 then
    (match allPtr (caps.toList.map s.ev) with
     | some l=>.val [] (.v (.c (.cl f l)))
     | none=>.no)
   else .no
 | .typeAssert x _ asserted true=>(match (s.ev x).nc with
   | some a=>(match nassert P gl a asserted with | some v=>.val [] v | none=>.no)
   | none=>.no)
 | .extract x i=>(match s.ev x with
   | .tu l=>(match l[i]? with | some v=>.val [] (.v v) | none=>.no)
   | _=>.no)
 | .call c=>(match c.callee with
   | .builtin .len=>ofV (nlen P s c.args.toList c.argTypes.toList)
   | .builtin .cap=>ofV (ncap P s c.args.toList c.argTypes.toList)
   | .builtin .min=>ofV (nmm true s c.args.toList)
   | .builtin .max=>ofV (nmm false s c.args.toList)
   | _=>.no)
 | _=>.no
def sel (x:Bool) (A B:Prop):Prop:=
 match x with
 | true=>A
 | false=>B
inductive Tr (α:Type):Type 1 where
 | ret (a:α)
 | br (c:Bool) (x y:Tr α)
 | must (p:Prop) (x:Tr α)
 | all {ι:Type} (p:ι→Prop) (h:∃ i,p i) (f:ι→Tr α)
 | fail
def Tr.run {α:Type}:Tr α→(α→Prop)→Prop
 | .ret a,R=>R a
 | .br c x y,R=>sel c (x.run R) (y.run R)
 | .must p x,R=>p∧x.run R
 | .all p _ f,R=>∀ i,p i→(f i).run R
 | .fail,_=>False
structure Out where
 res:NS
 rg:List (Option Reg)
abbrev Con:=List NV→List Reg→Tr Out
inductive NExit where
 | normal
 | exit (id:Nat)
 | ret
 deriving DecidableEq
def names:NC→List Nat
 | .p r _ _=>[r]
 | .q r _ _ _ _=>[r]
 | .hq r _ _ _ _=>[r]
 | .h r _ _=>[r]
 | .hz r _=>[r]
 | .m r=>[r]
 | .cl _ cap=>cap.map (·.1)
 | _=>[]
def Body.names:Body→List Nat
 | .cells xs=>xs.flatMap Nx.names
 | .sg l=>(segNcs l).flatMap Nx.names
 | _=>[]
def NV.names (x:NV):List Nat:=x.ncs.flatMap Nx.names
def NS.names:NS→List Nat
 | .v x=>x.names
 | .tu l=>l.flatMap NV.names
 | .dead=>[]
def seeds (s:St):NC→List Nat
 | .p r _ _=>[r]
 | .q r _ _ _ _=>[r]
 | .m r=>[r]
 | .cl _ cap=>cap.map (·.1)
 | .h r _ _=>(match s.reg r with
   | some {body:=.cells _,..}=>[r]
   | _=>[])
 | _=>[]
def NS.seeds (s:St):NS→List Nat
 | .v x=>x.ncs.flatMap (Nx.seeds s)
 | _=>[]
def reach (s:St):Nat→List Nat→List Nat→List Nat
 | 0,_,acc=>acc
 | _,[],acc=>acc
 | fuel+1,n::todo,acc=>
   if acc.contains n then reach s fuel todo acc
   else match s.reg n with
    | some g=>reach s fuel (g.body.names++todo) (acc++[n])
    | none=>reach s fuel todo acc
def mapNC (ρ:Nat→Option Nat):NC→Option NC
 | .p r i c=>(ρ r).map fun r=>.p r i c
 | .h r o n=>(ρ r).map fun r=>.h r o n
 | .q r o w i c=>(ρ r).map fun r=>.q r o w i c
 | .hq r o w i n=>(ρ r).map fun r=>.hq r o w i n
 | .hz r n=>(ρ r).map fun r=>.hz r n
 | .m r=>(ρ r).map fun r=>.m r
 | .cl f cap=>(cap.mapM fun x=>(ρ x.1).map fun r=>(r,x.2)).map fun l=>.cl f l
 | x=>some x
def mapL {α β:Type} (f:α→Option β):List α→Option (List β)
 | []=>some []
 | x::xs=>match f x,mapL f xs with
   | some a,some l=>some (a::l)
   | _,_=>none
def mapSeg (f:NC→Option NC):Seg→Option Seg
 | .cells xs=>(mapL f xs).map .cells
 | s=>some s
def mapNV (f:NC→Option NC):NV→Option NV
 | .c x=>(f x).map .c
 | .ag xs=>(mapL f xs).map .ag
 | .sg l=>(mapL (mapSeg f) l).map .sg
def mapNS (f:NC→Option NC):NS→Option NS
 | .v x=>(mapNV f x).map .v
 | .tu l=>(mapL (mapNV f) l).map .tu
 | .dead=>some .dead
def mapReg (f:NC→Option NC) (g:Reg):Option Reg:=
 match g.body with
 | .cells xs=>(mapL f xs).map fun l=>{g with body:=.cells l}
 | .sg l=>(mapL (mapSeg f) l).map fun l=>{g with body:=.sg l}
 | _=>some g
def mapRg (f:NC→Option NC):List (Option Reg)→Option (List (Option Reg))
 | []=>some []
 | none::l=>(mapRg f l).map (none::·)
 | some g::l=>match mapReg f g,mapRg f l with
   | some a,some r=>some (some a::r)
   | _,_=>none
def posIn (l:List Nat) (n:Nat):Option Nat:=l.findIdx? (·==n)
def argNC (_P:Program) (s:St) (passed:List Nat) (_t:Option TypeId) (x:NC):Option (List Bool × NC):=
 match x with
 | .h r off len=>
   (match posIn passed r with
    | some i=>some ([],.h i off len)
    | none=>(match els s (.h r off len) with
      | some (c,.ints k xs)=>some (c,.l k xs)
      | some (c,.recs ks xs)=>some (c,.lr ks xs)
      | none=>(match tels s (.h r off len) with
        | some (c,sch,xs)=>some (c,.lt sch xs)
        | none=>none)))
 | .hq r o w i len=>
   (match posIn passed r with
    | some j=>some ([],.hq j o w i len)
    | none=>(match els s (.hq r o w i len) with
      | some (c,.ints k xs)=>some (c,.l k xs)
      | some (c,.recs ks xs)=>some (c,.lr ks xs)
      | _=>none))
 | .hz r len=>
   (match posIn passed r with
    | some j=>some ([],.hz j len)
    | none=>(match els s (.hz r len) with
      | some (c,.ints k xs)=>some (c,.l k xs)
      | some (c,.recs ks xs)=>if 0<ks.length then some (c,.lr ks xs) else none
      | none=>(match tels s (.hz r len) with
        | some (c,sch,xs)=>some (c,.lt sch xs)
        | none=>none)))
 | .sn=>some ([],.sn)
 | x=>(mapNC (posIn passed) x).map fun y=>([],y)
def argL (f:NC→Option (List Bool × NC)):List NC→Option (List Bool × List NC)
 | []=>some ([],[])
 | x::xs=>match f x,argL f xs with
   | some (c,a),some (d,l)=>some (c++d,a::l)
   | _,_=>none
def argSeg (f:NC→Option (List Bool × NC)):Seg→Option (List Bool × Seg)
 | .cells xs=>(argL f xs).map fun p=>(p.1,.cells p.2)
 | s=>some ([],s)
def argSegs (f:NC→Option (List Bool × NC)):List Seg→Option (List Bool × List Seg)
 | []=>some ([],[])
 | x::xs=>match argSeg f x,argSegs f xs with
   | some (c,a),some (d,l)=>some (c++d,a::l)
   | _,_=>none
def argNV (P:Program) (s:St) (passed:List Nat) (t:Option TypeId):NV→Option (List Bool × NV)
 | .c x=>(argNC P s passed t x).map fun p=>(p.1,.c p.2)
 | .ag xs=>(argL (argNC P s passed none) xs).map fun p=>(p.1,.ag p.2)
 | .sg l=>(argSegs (argNC P s passed none) l).map fun p=>(p.1,.sg p.2)
def argsNV (P:Program) (s:St) (passed:List Nat):List TypeId→List NV→Option (List Bool × List NV)
 | _,[]=>some ([],[])
 | ts,x::xs=>match argNV P s passed ts.head? x,argsNV P s passed ts.tail xs with
   | some (c,a),some (d,l)=>some (c++d,a::l)
   | _,_=>none
def NC.isL:NC→Bool
 | .l _ _ | .lr _ _ | .pl _ _ _ | .pr _ _ _ _ | .lt _ _ | .pt _ _ _ _=>true
 | _=>false
def NS.anyL:NS→Bool
 | .v x=>x.ncs.any NC.isL
 | .tu l=>l.any fun x=>x.ncs.any NC.isL
 | .dead=>false
def rgAnyL (l:List (Option Reg)):Bool:=l.any fun g=>match g with
 | some {body:=.cells xs,..}=>xs.any NC.isL
 | some {body:=.sg l,..}=>(segNcs l).any NC.isL
 | some {body:=.tab _ _,..}=>true
 | some {body:=.mp _ _ _,..}=>true
 | _=>false
def backTo (passed:List Nat) (nm tot:Nat) (j:Nat):Option Nat:=
 if j<passed.length then passed[j]? else if j<tot then some (nm+(j - passed.length)) else none
def allNV:List NS→Option (List NV)
 | []=>some []
 | x::xs=>match x.nv,allNV xs with
   | some a,some l=>some (a::l)
   | _,_=>none
structure Cx where
 P:Program
 con:FuncId→Option Con
 glob:List Nat
 m:Nat
 loops:List (Nat × List Nat × (St→Tr (NExit × St)))
structure Eff where
 up:List (Nat × Option Reg)
 v:NS
def Tr.bind {α β:Type}:Tr α→(α→Tr β)→Tr β
 | .ret a,f=>f a
 | .br c x y,f=>.br c (x.bind f) (y.bind f)
 | .must p x,f=>.must p (x.bind f)
 | .all p h g,f=>.all p h fun i=>(g i).bind f
 | .fail,_=>.fail
def chkT {α:Type}:List Bool→Tr α→Tr α
 | [],t=>t
 | b::bs,t=>.br b (chkT bs t) .fail
def upsOf (back:Nat→Option Nat):Nat→List (Option Reg)→Option (List (Nat × Option Reg))
 | _,[]=>some []
 | j,g::l=>match back j,upsOf back (j+1) l with
   | some n,some r=>some ((n,g)::r)
   | _,_=>none
def ncallP (X:Cx) (q:Nat) (passed:List Nat) (f:FuncId) (args:List NV) (nm:Nat) (s:St):Tr Eff:=
 match X.con f,X.P.funcs[f]? with
 | some T,some fn=>
   let lent:=(args.flatMap NV.names).filter fun n=>!passed.contains n
   match argsNV X.P s passed fn.params.toList args,mapL (fun n=>(s.reg n).bind (mapReg (mapNC (posIn passed)))) passed with
   | some (c,args'),some regs=>
     match T args' regs with
     | .fail=>.fail
     | t=>chkT c <| t.bind fun o=>
       match mapNS (mapNC (backTo passed nm o.rg.length)) o.res,(mapRg (mapNC (backTo passed nm o.rg.length)) o.rg).bind (upsOf (backTo passed nm o.rg.length) 0) with
       | some res,some ups=>
         if passed.length≤o.rg.length∧o.rg.length≤passed.length+q then
          .ret {up:=ups++(if o.res.anyL||rgAnyL o.rg then lent.map fun n=>(n,none) else []),v:=res}
         else .fail
       | _,_=>.fail
   | _,_=>.fail
 | _,_=>.fail
def ncall0 (X:Cx) (f:FuncId) (args:List NV) (nm:Nat) (s:St):Tr Eff:=ncallP X 16 (reach s 64 (args.flatMap fun x=>x.ncs.flatMap (seeds s)) []) f args nm s
def Body.len:Body→Option Nat
 | .cells xs=>some xs.length
 | .sg l=>some (segSize l)
 | .mp _ _ _=>some 0
 | _=>none
def partOf (P:Program) (g:Reg) (o:Nat) (te:TypeId):Option Reg:=
 match g.body with
 | .cells xs=>if o+sizeT P te≤xs.length∧0<sizeT P te∧sizeT P te<xs.length∧bigT P te=false then some {st:=sizeT P te,e:=te,body:=.cells ((xs.drop o).take (sizeT P te))} else none
 | .sg l=>if o+sizeT P te≤segSize l∧0<sizeT P te∧sizeT P te<segSize l then
    (match segSub l o (sizeT P te) with
     | some r=>(match bigT P te with
       | true=>some {st:=sizeT P te,e:=te,body:=.sg r}
       | false=>some {st:=sizeT P te,e:=te,body:=.cells (segFlat r)})
     | none=>none) else none
 | _=>none
def backOf (g h:Reg) (o:Nat):Option Reg:=
 match g.body,h.body with
 | .cells xs,.cells ys=>some {g with body:=.cells (splice xs o ys)}
 | .sg l,.cells ys=>(match segPut l o ys.length [.cells ys] with | some l'=>some {g with body:=.sg l'} | none=>none)
 | .sg l,.sg r=>(match segPut l o (segSize r) r with | some l'=>some {g with body:=.sg l'} | none=>none)
 | _,_=>none
def focusAt (P:Program) (s:St) (t:Option TypeId) (x:NV):Option (Nat × Reg × Nat × Reg):=
 match t,x with
 | some t,.c (.p r i c)=>(match P.underlying t,s.reg r with
   | some (.pointer te),some g=>(match partOf P g (i * g.st+c) te with
     | some h=>some (r,g,i * g.st+c,h)
     | none=>none)
   | _,_=>none)
 | some t,.c (.q r a w i c)=>(match P.underlying t,s.reg r with
   | some (.pointer te),some g=>(match partOf P g (a+i * w+c) te with
     | some h=>some (r,g,a+i * w+c,h)
     | none=>none)
   | _,_=>none)
 | _,_=>none
def but (nm n:Nat):Option Nat:=if n=nm then none else some n
def upOf (n:Nat):List (Nat × Option Reg)→Option Reg
 | []=>none
 | (m,g)::l=>match upOf n l with
   | some h=>some h
   | none=>if m=n then g else none
def ncallF (X:Cx) (f:FuncId) (r:Nat) (g:Reg) (o:Nat) (h:Reg) (rest:List NV) (nm:Nat) (s:St):Tr Eff:=
 let s' : St:={s with rg:=putAt (putAt s.rg r none) nm (some h)}
 let args:=.c (.p nm 0 0)::rest
 (ncallP X 15 (reach s' 64 (args.flatMap fun x=>x.ncs.flatMap (seeds s')) []) f args (nm+1) s').bind fun e=>
   match upOf nm e.up,mapNS (mapNC (but nm)) e.v,mapRg (mapNC (but nm)) (e.up.map (·.2)) with
   | some h',some v,some _=>
     (match backOf g h' o with
      | some g'=>if h'.body.len=h.body.len∧(e.up.all fun u=>u.1 !=nm||u.2.isSome)=true then .ret {up:=(e.up.filter fun u=>u.1 !=nm&&u.1 !=r)++[(r,some g')],v:=v} else .fail
      | none=>.fail)
   | _,_,_=>.fail
def orTr {α:Type} (t u:Tr α):Tr α:=
 match t with
 | .fail=>u
 | t=>t
theorem orTr_run {α:Type} {t u:Tr α} {R:α→Prop} (h:(orTr t u).run R):t.run R∨u.run R:=by
 unfold orTr at h
 split at h
 ·exact .inr h
 ·exact .inl h
def ncall (X:Cx) (f:FuncId) (args:List NV) (nm:Nat) (s:St):Tr Eff:=
 match args with
 | x::rest=>(match focusAt X.P s ((X.P.funcs[f]?).bind fun fn=>fn.params.toList.head?) x with
   | some (r,g,o,h)=>orTr (ncallF X f r g o h rest nm s) (ncall0 X f args nm s)
   | none=>ncall0 X f args nm s)
 | []=>ncall0 X f args nm s
def Els.app:Els→Els→Option Els
 | .ints k xs,.ints k' ys=>if k=k' then some (.ints k (xs++ys)) else none
 | .recs ks xs,.recs ks' ys=>if ks=ks' then some (.recs ks (xs++ys)) else none
 | _,_=>none
def Els.length:Els→Nat
 | .ints _ xs=>xs.length
 | .recs _ xs=>xs.length
def Els.reg (e:TypeId):Els→Reg
 | .ints k xs=>{st:=1,e:=e,body:=.ints k xs}
 | .recs ks xs=>{st:=ks.length,e:=e,body:=.recs ks xs}
def Els.fits (P:Program) (e:TypeId):Els→Bool
 | .ints k _=>decide (ksOf P e=some [.i k])
 | .recs ks _=>decide (ksOf P e=some ks)&&decide (0<ks.length)
def appConds (P:Program) (e:TypeId) (n:Nat):List Bool:=[decide (n * bytesT P e≤140737488355328),decide (n≤9223372036854775807)]
def nappend (P:Program) (s:St) (t:TypeId) (x y:NC) (nm:Nat):Tr Eff:=
 match P.underlying t with
 | some (.slice e)=>
   (match y with
    | .sn=>if 0<sizeT P e then
      (match x with
       | .sn=>.ret {up:=[],v:=.v (.c .sn)}
       | .h r off len=>.ret {up:=[],v:=.v (.c (.h r off len))}
       | .hz r len=>.ret {up:=[],v:=.v (.c (.hz r len))}
       | _=>.fail) else .fail
    | y=>
      (match els s y with
       | some (c,ys)=>
         if ys.fits P e then
          (match x with
           | .sn=>chkT c <| .br (decide (ys.length=0)) (.ret {up:=[],v:=.v (.c .sn)})
              (chkT (appConds P e ys.length) (.ret {up:=[(nm,some (ys.reg e))],v:=.v (.c (.h nm 0 ys.length))}))
           | .h r off len=>
             (match off,els s (.h r 0 len),s.reg r with
              | 0,some (d,xs),some g=>
                (match xs.app ys with
                 | some zs=>
                   if g.e=e∧xs.fits P e then
                    chkT c <| chkT d <| chkT (appConds P e (len+ys.length)) (.ret {up:=[(r,none),(nm,some (zs.reg e))],v:=.v (.c (.h nm 0 (len+ys.length)))})
                   else .fail
                 | none=>.fail)
              | _,_,_=>.fail)
           | .hz r len=>
             (match els s (.hz r len),s.reg r with
              | some (d,xs),some g=>
                (match xs.app ys with
                 | some zs=>
                   if g.e=e∧xs.fits P e then
                    chkT c <| chkT d <| chkT (appConds P e (len+ys.length)) (.ret {up:=[(r,none),(nm,some (zs.reg e))],v:=.v (.c (.hz nm (len+ys.length)))})
                   else .fail
                 | none=>.fail)
              | _,_=>.fail)
           | _=>.fail)
         else .fail
       | none=>.fail))
 | _=>.fail
def nappendT (P:Program) (s:St) (t:TypeId) (x y:NC) (nm:Nat):Option (Tr Eff):=
 match P.underlying t with
 | some (.slice e)=>
   (match tels s y with
    | some (c,sch,ys)=>
      if tabFits P e sch=true then
       (match x with
        | .sn=>some (chkT c <| .br (decide (ys.length=0)) (.ret {up:=[],v:=.v (.c .sn)})
           (chkT (appConds P e ys.length) (.ret {up:=[(nm,some (tabReg e sch ys))],v:=.v (.c (.h nm 0 ys.length))})))
        | .h r 0 len=>(match tels s (.h r 0 len),s.reg r with
          | some (d,sch',xs),some g=>
            if sch'=sch∧g.e=e then
             some (chkT c <| chkT d <| chkT (appConds P e (len+ys.length)) (.ret {up:=[(r,none),(nm,some (tabReg e sch (xs++ys)))],v:=.v (.c (.h nm 0 (len+ys.length)))}))
            else none
          | _,_=>none)
        | .hz r len=>(match tels s (.hz r len),s.reg r with
          | some (d,sch',xs),some g=>
            if sch'=sch∧g.e=e then
             some (chkT c <| chkT d <| chkT (appConds P e (len+ys.length)) (.ret {up:=[(r,none),(nm,some (tabReg e sch (xs++ys)))],v:=.v (.c (.hz nm (len+ys.length)))}))
            else none
          | _,_=>none)
        | _=>none)
      else none
    | none=>none)
 | _=>none
def nzeros (P:Program) (s:St) (t u:TypeId) (x y:NC) (nm:Nat):Tr Eff:=
 match P.underlying t,P.underlying u,y with
 | some (.slice e),some (.int _),.i _ n=>
   (match x with
    | .sn=>(match zeroCells P e with
      | some [.i k z]=>chkT [decide (0<n),decide (n.toNat * bytesT P e≤140737488355328),decide (n≤9223372036854775807)]
         (.ret {up:=[(nm,some ((Els.ints k (List.replicate n.toNat z)).reg e))],v:=.v (.c (.h nm 0 n.toNat))})
      | _=>.fail)
    | .h r off len=>(match zeroCells P e,off,els s (.h r 0 len),s.reg r with
      | some [.i k z],0,some (d,.ints k' xs),some g=>
        if g.e=e∧k=k' then
         chkT d <| chkT [decide (0<n),decide ((len+n.toNat) * bytesT P e≤140737488355328),decide (len+n.toNat≤9223372036854775807)]
          (.ret {up:=[(r,none),(nm,some ((Els.ints k (xs++List.replicate n.toNat z)).reg e))],v:=.v (.c (.h nm 0 (len+n.toNat)))})
        else .fail
      | _,_,_,_=>.fail)
    | _=>.fail)
 | _,_,_=>.fail
def elsOf:Body→Option Els
 | .ints k xs=>some (.ints k xs)
 | .recs ks xs=>some (.recs ks xs)
 | _=>none
def Els.body:Els→Body
 | .ints k xs=>.ints k xs
 | .recs ks xs=>.recs ks xs
def Els.spl:Els→Nat→Nat→Els→Option Els
 | .ints k xs,o,n,.ints k' ys=>if k=k' then some (.ints k (splice xs o (ys.take n))) else none
 | .recs ks xs,o,n,.recs ks' ys=>if ks=ks'∧0<ks.length then some (.recs ks (splice xs o (ys.take n))) else none
 | _,_,_,_=>none
def ncopyE (P:Program) (s:St) (e:TypeId) (r off len:Nat) (y:NC):Tr Eff:=
 match s.reg r,els s y with
 | some g,some (c,ys)=>
   (match elsOf g.body with
    | some xs=>(match xs.spl off len ys with
      | some zs=>if sizeT P e=g.st then chkT (c++[decide (off+len≤xs.length)]) (.ret {up:=[(r,some {g with body:=zs.body})],v:=.v (.c (.i .i64 ((Nat.min ys.length len:Nat):Int)))}) else .fail
      | none=>.fail)
    | none=>.fail)
 | _,_=>.fail
def ncopy (P:Program) (s:St) (t:TypeId) (x y:NC):Tr Eff:=
 match P.underlying t,x,y with
 | some (.slice e),.hq r o w a n,.hq r' o' w' a' n'=>
   (match s.reg r,s.reg r' with
    | some g,some g'=>
      (match g.body,g'.body with
       | .sg l,.sg l'=>
         if sizeT P e=w∧w'=w∧0<w∧0<Nat.min n' n then
          (match segGetQ l' o' w a' 0 (Nat.min n' n * w) true with
           | some (c1,v)=>(match segPutQ l o w a 0 v with
             | some (c2,l2)=>chkT (c1++c2) (.ret {up:=[(r,some {g with body:=.sg l2})],v:=.v (.c (.i .i64 ((Nat.min n' n:Nat):Int)))})
             | none=>.fail)
           | none=>.fail)
         else .fail
       | _,_=>.fail)
    | _,_=>.fail)
 | some (.slice e),.h r off len,y=>ncopyE P s e r off len y
 | _,_,_=>.fail
def nclear (P:Program) (s:St) (t:TypeId) (x:NC):Tr Eff:=
 match P.underlying t,x with
 | some (.slice _),.sn=>.ret {up:=[],v:=.tu []}
 | some (.slice e),.h r off len=>
   (match s.reg r,zeroCells P e with
    | some g,some z=>
      (match g.body with
       | .recs ks xs=>(match toRow ks z with
         | some row=>if sizeT P e=ks.length then chkT [decide (off+len≤xs.length)] (.ret {up:=[(r,some {g with body:=.recs ks (splice xs off (List.replicate len row))})],v:=.tu []}) else .fail
         | none=>.fail)
       | _=>.fail)
    | _,_=>.fail)
 | _,_=>.fail
def R1.eff (r:R1) (nm:Nat):Tr Eff:=
 match r with
 | .no=>.fail
 | .val c v=>chkT c (.ret {up:=[],v:=v})
 | .new c g v=>chkT c (.ret {up:=[(nm,some g)],v:=v nm})
 | .upd c n g=>chkT c (.ret {up:=[(n,some g)],v:=.dead})
def bytesOf (P:Program) (s:St) (src dst:TypeId) (x:Operand):Option (List Bool × ByteArray):=
 match s.ev x with
 | .v (.c (.h r off len))=>
   (match P.underlying src,P.underlying dst with
    | some (.slice e),some .string=>
      (match P.underlying e,els s (.h r off len) with
       | some (.int .u8),some (c,.ints .u8 xs)=>some (c,strOfNums xs)
       | _,_=>none)
    | _,_=>none)
 | .v (.c .sn)=>
   (match P.underlying src,P.underlying dst with
    | some (.slice e),some .string=>
      (match P.underlying e with
       | some (.int .u8)=>some ([],ByteArray.empty)
       | _=>none)
    | _,_=>none)
 | _=>none
def sliceArr (P:Program) (s:St) (t:TypeId) (x:Operand):Option (Nat × IntKind × List Int):=
 match s.ev x,P.underlying t with
 | .v (.c (.p r 0 0)),some (.array n e)=>
   (match s.reg r with
    | some g=>(match g.body with
      | .ints k xs=>if n=xs.length∧0<n∧0<sizeT P e then some (r,k,xs) else none
      | _=>none)
    | none=>none)
 | _,_=>none
def convOwn (P:Program) (s:St) (src dst:TypeId) (x:Operand):Option (Nat × IntKind × List Int):=
 match s.ev x,P.underlying src with
 | .v (.c (.h r 0 len)),some (.slice e)=>
   (match P.underlying e,s.reg r with
    | some (.int .u8),some g=>(match g.body with
      | .ints k xs=>if src=dst∧len=xs.length∧0<len then some (r,k,xs) else none
      | _=>none)
    | _,_=>none)
 | _,_=>none
def nilUnk (P:Program) (s:St) (op:BinOp) (t:TypeId) (x y:Operand):Option (Bool × Bool):=
 match (s.ev x).nc,(s.ev y).nc,P.underlying t with
 | some (.l _ xs),some .sn,some (.slice _)=>(match op with
   | .eql=>some (xs.isEmpty,false)
   | .neq=>some (xs.isEmpty,true)
   | _=>none)
 | some (.lr _ xs),some .sn,some (.slice _)=>(match op with
   | .eql=>some (xs.isEmpty,false)
   | .neq=>some (xs.isEmpty,true)
   | _=>none)
 | some (.hz _ n),some .sn,some (.slice _)=>(match op with
   | .eql=>some (n==0,false)
   | .neq=>some (n==0,true)
   | _=>none)
 | _,_,_=>none
def deff (X:Cx) (op:Op) (nm:Nat) (s:St):Tr Eff:=
 match op with
 | .binOp bop t x y _=>
   (match nilUnk X.P s bop t x y with
    | some (e,d)=>.br e (.all (fun _:Bool=>True) ⟨true,trivial⟩ fun b=>.ret {up:=[],v:=.v (.c (.b b))}) (.ret {up:=[],v:=.v (.c (.b d))})
    | none=>(match nstructEq X.P s bop t x y with
      | some b=>.ret {up:=[],v:=.v (.c (.b b))}
      | none=>(light X.P X.glob s op).eff nm))
 | .pick c a b=>
   (match s.ev c with
    | .v (.c (.b x))=>.br x (.ret {up:=[],v:=s.ev a}) (.ret {up:=[],v:=s.ev b})
    | _=>.fail)
 | .call c=>
   (match c.callee with
    | .value f=>
      (match s.ev f,allNV (c.args.toList.map s.ev) with
       | .v (.c (.cl f cap)),some l=>ncall X f (l++cap.map fun x=>.c (.p x.1 x.2.1 x.2.2)) nm s
       | _,_=>.fail)
    | .builtin .append=>
      (match c.args.toList,c.argTypes.toList with
       | [x,y],[t,u]=>
         if t=u then
          (match (s.ev x).nc,(s.ev y).nc with
           | some a,some b=>(match nappendT X.P s t a b nm with
             | some tr=>tr
             | none=>nappend X.P s t a b nm)
           | _,_=>.fail)
         else
          (match (s.ev x).nc,(s.ev y).nc with
           | some a,some b=>nzeros X.P s t u a b nm
           | _,_=>.fail)
       | _,_=>.fail)
    | .builtin .delete=>
      (match c.args.toList,c.argTypes.toList with
       | [m,k],t::_=>(match nmapDel X.P s t m k with
         | some (r,g)=>.ret {up:=[(r,some g)],v:=.tu []}
         | none=>.fail)
       | _,_=>.fail)
    | .builtin .copy=>
      (match c.args.toList,c.argTypes.toList with
       | [x,y],[t,_]=>
         (match (s.ev x).nc,(s.ev y).nc with
          | some a,some b=>ncopy X.P s t a b
          | _,_=>.fail)
       | _,_=>.fail)
    | .builtin .clear=>
      (match c.args.toList,c.argTypes.toList with
       | [x],[t]=>(match (s.ev x).nc with
         | some a=>nclear X.P s t a
         | none=>.fail)
       | _,_=>.fail)
    | _=>(light X.P X.glob s op).eff nm)
 | .convert src dst x=>
   (match bytesOf X.P s src dst x with
    | some (c,z)=>chkT c (.ret {up:=[],v:=.v (.c (.s z))})
    | none=>(match convOwn X.P s src dst x with
      | some (r,k,xs)=>.ret {up:=[(r,none)],v:=.v (.c (.l k xs))}
      | none=>(light X.P X.glob s op).eff nm))
 | .slice t x none none none=>
   (match sliceArr X.P s t x with
    | some (r,k,xs)=>.ret {up:=[(r,none)],v:=.v (.c (.l k xs))}
    | none=>(light X.P X.glob s op).eff nm)
 | .lookup t m k ok=>
   (match nlookup X.P s t m k with
    | some (has,v,z)=>(match ok with
      | true=>.br has (.ret {up:=[],v:=.tu [v,.c (.b true)]}) (.ret {up:=[],v:=.tu [z,.c (.b false)]})
      | false=>.br has (.ret {up:=[],v:=.v v}) (.ret {up:=[],v:=.v z}))
    | none=>.fail)
 | .mapUpdate t m k v=>
   (match nmapSet X.P s t m k v with
    | some (r,g)=>.ret {up:=[(r,some g)],v:=.dead}
    | none=>.fail)
 | .buildSlice t len parts=>
   (match nbuildT X.P s t len parts.toList with
    | some g=>.ret {up:=[(nm,some g)],v:=.v (.c (.h nm 0 len))}
    | none=>(light X.P X.glob s op).eff nm)
 | .makeMap t none=>
   (match nmakeMap X.P t with
    | some g=>.ret {up:=[(nm,some g)],v:=.v (.c (.m nm))}
    | none=>.fail)
 | op=>(light X.P X.glob s op).eff nm
def wideCall (X:Cx) (op:Op) (nm:Nat) (s:St):Tr Eff:=
 match op with
 | .call c=>
   (match c.callee with
    | .value f=>
      (match s.ev f,allNV (c.args.toList.map s.ev) with
       | .v (.c (.cl f cap)),some l=>ncallP X 16 (reach s 64 ((l++cap.map fun x=>NV.c (.p x.1 x.2.1 x.2.2)).flatMap NV.names) []) f (l++cap.map fun x=>.c (.p x.1 x.2.1 x.2.2)) nm s
       | _,_=>.fail)
    | _=>.fail)
 | _=>.fail
def deffW (X:Cx) (op:Op) (nm:Nat) (s:St):Tr Eff:=
 match deff X op nm s with
 | .fail=>wideCall X op nm s
 | t=>t
def St.ups (s:St):List (Nat × Option Reg)→St
 | []=>s
 | (n,g)::l=>(s.setReg n g).ups l
def St.app (s:St) (x:Eff) (dst:Option Tmp):St:=(s.ups x.up).put dst x.v
def guardSlot (ops:Array Oper) (j:Nat):Option Tmp:=(ops[j]?).bind (·.dst)
def lit (x:Bool):NS:=.v (.c (.b x))
def nstep {β:Type} (ops:Array Oper) (o:Oper) (E:St→Tr Eff) (s:St) (K:St→Tr β):Tr β:=
 match o.guard with
 | none=>(E s).bind fun x=>K (s.app x o.dst)
 | some (j,want)=>
   match guardSlot ops j with
   | some d=>
     (match s.fr[d]? with
      | some (.v (.c (.b x)))=>
        .br x
         (match want with
          | true=>(E (s.put (some d) (lit true))).bind fun x=>K ((s.put (some d) (lit true)).app x o.dst)
          | false=>K ((s.put (some d) (lit true)).put o.dst (.tu [])))
         (match want with
          | false=>(E (s.put (some d) (lit false))).bind fun x=>K ((s.put (some d) (lit false)).app x o.dst)
          | true=>K ((s.put (some d) (lit false)).put o.dst (.tu [])))
      | some (.tu [])=>K (s.put o.dst (.tu []))
      | _=>.fail)
   | none=>.fail
def nops {β:Type} (X:Cx) (ops:Array Oper):List Oper→St→(St→Tr β)→Tr β
 | [],s,K=>K s
 | o::rest,s,K=>nstep ops o (deffW X o.op s.rg.length) s (fun s'=>nops X ops rest s' K)
def noPtr (P:Program) (t:TypeId):Bool:=
 match zeroCells P t with
 | some z=>z.all fun x=>match x with
   | .pn=>false
   | _=>true
 | none=>false
def still (op:Op):Bool:=
 match op with
 | .move _ | .assign _ | .build _ _ | .nilCheck _ | .binOp _ _ _ _ _ | .unOp _ _ _ | .fieldAddr _ _ _ | .field _ _ _
 | .index _ _ _ | .extract _ _ | .pick _ _ _=>true
 | .load _ (.global _)=>true
 | .call {callee:=.builtin .len,..}=>true
 | .call {callee:=.builtin .min,..}=>true
 | .call {callee:=.builtin .max,..}=>true
 | _=>false
def mild (P:Program) (op:Op):Bool:=
 match op with
 | .store _ _ _=>false
 | .mapUpdate _ _ _ _=>false
 | .call {callee:=.value (.func f),..}=>(match P.funcs[f]? with
   | some fn=>fn.params.toList.all (noPtr P)
   | none=>false)
 | .call {callee:=.builtin .len,..}=>true
 | .call {callee:=.builtin .min,..}=>true
 | .call {callee:=.builtin .max,..}=>true
 | .call _=>false
 | _=>true
def isCall (op:Op):Bool:=
 match op with
 | .call {callee:=.value _,..}=>true
 | _=>false
def callS (P:Program) (op:Op):Bool:=isCall op&&!mild P op
def isAl (op:Op):Bool:=
 match op with
 | .alloc _=>true
 | _=>false
def look (op:Op):Bool:=
 match op with
 | .load _ _=>true
 | _=>false
def depsOf (o:Oper):List Nat:=(o.after.toList.filter (Region.binds .any)).map (·.on)
def ahead (ops:Array Oper):Nat→Nat→Nat→Bool
 | 0,_,_=>false
 | fuel+1,k,i=>
   match ops[i]? with
   | some o=>(depsOf o).any fun m=>m==k||ahead ops fuel k m
   | none=>false
def rootOf (ops:Array Oper):Nat→Tmp→Option Tmp
 | 0,_=>none
 | f+1,t=>match ops.toList.find? (fun p=>decide (p.dst=some t)) with
   | none=>some t
   | some p=>(match p.op with
     | .fieldAddr _ (.tmp u) _=>rootOf ops f u
     | .nilCheck (.tmp u)=>rootOf ops f u
     | .move (.tmp u)=>rootOf ops f u
     | .indexAddr _ (.tmp u) _=>rootOf ops f u
     | _=>none)
def storeAt (ops:Array Oper) (o:Oper):Option Tmp:=
 match o.op with
 | .store _ (.tmp t) _=>rootOf ops (ops.size+1) t
 | _=>none
def appAt (ops:Array Oper) (o:Oper):Option Tmp:=
 match o.op with
 | .call {callee:=.builtin .append,args:=args,..}=>(match args.toList with
   | .tmp t::_=>rootOf ops (ops.size+1) t
   | _=>none)
 | _=>none
def near (P:Program) (ops:Array Oper) (o:Oper):Bool:=(storeAt ops o).isSome||(mild P o.op&&!isCall o.op)
def free2 (P:Program) (ops:Array Oper) (x y:Oper):Bool:=
 (still x.op||still y.op||(mild P x.op&&mild P y.op)||((storeAt ops x).isSome&&near P ops y)||((storeAt ops y).isSome&&near P ops x)||(callS P x.op&&look y.op)||(look x.op&&callS P y.op)||(callS P x.op&&isAl y.op)||(isAl x.op&&callS P y.op)||((appAt ops x).isSome&&look y.op)||(look x.op&&(appAt ops y).isSome))&&Oper.apart ops x y
def drawOk (P:Program) (ops:Array Oper):Bool:=
 (List.range ops.size).all fun i=>
   match ops[i]? with
   | some y=>((depsOf y).all fun m=>decide (m<i))&&(List.range i).all fun k=>
     ahead ops ops.size k i ||
     match ops[k]? with
     | some x=>free2 P ops x y
     | none=>false
   | none=>false
def namesOk (ops:Array Oper) (base:Nat) (s:St) (i:Nat) (o:Oper):Bool:=
 (o.op.operands.toList.flatMap fun x=>(s.ev x).names).all fun n=>decide (n<base)||ahead ops ops.size ((n - base) / 16) i
def mildEff (base i:Nat) (x:Eff):Bool:=x.up.all fun u=>decide (base+16 * i≤u.1)&&decide (u.1<base+16 * i+16)&&u.2.isSome
def apartOk (P:Program) (ops:Array Oper) (base:Nat) (s:St) (i:Nat) (o:Oper):Bool:=
 still o.op||!near P ops o||(match storeAt ops o with
  | some t=>((s.ev (.tmp t)).names.all fun n=>decide (n<base))&&(match o.op with
    | .store _ a _=>(s.ev a).names.all fun n=>(s.ev (.tmp t)).names.contains n
    | _=>false)
  | none=>true)&&(List.range ops.size).all fun k=>
  match ops[k]? with
  | some x=>
    (match storeAt ops x with
     | some t=>k==i||ahead ops ops.size k i||ahead ops ops.size i k||(s.ev (.tmp t)).names.all fun n=>decide (n<base)&&!(o.op.operands.toList.flatMap fun x=>(s.ev x).names).contains n
     | none=>true)
  | none=>true
def lone (ops:Array Oper) (i:Nat):Bool:=
 (List.range ops.size).all fun k=>k==i||ahead ops ops.size k i||ahead ops ops.size i k||(match ops[k]? with
   | some x=>still x.op
   | none=>true)
def deepT (P:Program) (t:TypeId):Bool:=
 match P.underlying t with
 | some (.slice e)=>(match P.underlying e with
   | some (.slice _)=>true
   | _=>false)
 | _=>false
def deep (P:Program) (op:Op):Bool:=
 match op with
 | .call {callee:=.value (.func f),..}=>(match P.funcs[f]? with
   | some fn=>fn.params.toList.any (deepT P)
   | none=>false)
 | _=>false
def loneL (ops:Array Oper) (i:Nat):Bool:=
 (List.range ops.size).all fun k=>k==i||ahead ops ops.size k i||ahead ops ops.size i k||(match ops[k]? with
   | some x=>still x.op||look x.op
   | none=>true)
def mildN (P:Program) (ops:Array Oper) (i:Nat) (o:Oper):Bool:=mild P o.op&&!lone ops i&&!(deep P o.op&&loneL ops i)
def mildL (P:Program) (ops:Array Oper) (i:Nat) (o:Oper):Bool:=mild P o.op&&!lone ops i&&(deep P o.op&&loneL ops i)
def upOk (base n:Nat) (x:Eff):Bool:=x.up.all fun u=>decide (base≤u.1)&&decide (u.1<base+16 * n)
def lookOk0 (P:Program) (ops:Array Oper) (base:Nat) (s:St) (i:Nat) (o:Oper):Bool:=
 !look o.op||((List.range ops.size).all fun k=>k==i||ahead ops ops.size k i||ahead ops ops.size i k||(match ops[k]? with
  | some x=>!deep P x.op&&!callS P x.op
  | none=>true))||(o.op.operands.toList.flatMap fun x=>(s.ev x).names).all fun n=>decide (n<base)
def besideA (ops:Array Oper) (i:Nat):Bool:=
 (List.range ops.size).any fun k=>!(k==i)&&!ahead ops ops.size k i&&!ahead ops ops.size i k&&(match ops[k]? with
   | some x=>isAl x.op
   | none=>false)
def growOk (ops:Array Oper) (s:St) (i:Nat) (o:Oper):Bool:=
 !look o.op||(List.range ops.size).all fun k=>match ops[k]? with
  | some x=>(match appAt ops x with
    | some t=>k==i||ahead ops ops.size k i||ahead ops ops.size i k||(s.ev (.tmp t)).names.all fun n=>!(o.op.operands.toList.flatMap fun x=>(s.ev x).names).contains n
    | none=>true)
  | none=>true
def growEff (ops:Array Oper) (base i:Nat) (s:St) (o:Oper) (x:Eff):Bool:=
 match appAt ops o with
 | some t=>lone ops i||x.up.all fun u=>((s.ev (.tmp t)).names.contains u.1&&decide (u.1<base))||(decide (base+16 * i≤u.1)&&decide (u.1<base+16 * i+16))
 | none=>true
def callArgs (s:St) (op:Op):Option (FuncId × List NV):=
 match op with
 | .call {callee:=.value f,args:=args,..}=>
   (match s.ev f,allNV (args.toList.map s.ev) with
    | .v (.c (.cl f cap)),some l=>some (f,l++cap.map fun x=>.c (.p x.1 x.2.1 x.2.2))
    | _,_=>none)
 | _=>none
def belowOk (P:Program) (base:Nat) (s:St) (op:Op):Bool:=
 match callArgs s op with
 | some (f,args)=>
   (args.flatMap fun x=>x.ncs.flatMap (seeds s)).all (fun n=>decide (n<base)) &&
   (List.range base).all (fun n=>match s.reg n with
     | some g=>g.body.names.all fun m=>decide (m<base)
     | none=>true) &&
   (match args with
    | x::_=>(focusAt P s ((P.funcs[f]?).bind fun fn=>fn.params.toList.head?) x).isNone
    | []=>true)
 | none=>true
def lookOk (P:Program) (ops:Array Oper) (base:Nat) (s:St) (i:Nat) (o:Oper):Bool:=
 lookOk0 P ops base s i o&&(!(callS P o.op&&besideA ops i)||belowOk P base s o.op)
def lowT {β:Type} (base:Nat) (s:St):List (Nat × Option Reg)→Tr β→Tr β
 | [],k=>k
 | (n,g)::l,k=>
   match decide (n<base) with
   | true=>(match s.rg[n]? with
     | some g'=>.must (g'=g) (lowT base s l k)
     | none=>.fail)
   | false=>lowT base s l k
def upLow (base:Nat) (x:Eff):Eff:={x with up:=x.up.filter fun u=>decide (base≤u.1)}
def upLt (base n:Nat) (x:Eff):Bool:=x.up.all fun u=>decide (u.1<base+16 * n)
def beside (P:Program) (ops:Array Oper) (i:Nat) (o:Oper):Bool:=callS P o.op&&!lone ops i
def deffE (P:Program) (ops:Array Oper) (base i:Nat) (o:Oper) (s:St) (x:Eff):Tr Eff:=
 match beside P ops i o with
 | true=>(match upLt base ops.size x&&(!besideA ops i||mildEff base i (upLow base x)) with
   | true=>lowT base s x.up (.ret (upLow base x))
   | false=>.fail)
 | false=>.ret x
def deffD (X:Cx) (ops:Array Oper) (base i:Nat) (o:Oper) (s:St):Tr Eff:=
 match namesOk ops base s i o&&(!(mildN X.P ops i o&&isCall o.op)||(o.op.operands.toList.flatMap fun x=>(s.ev x).seeds s).isEmpty)&&apartOk X.P ops base s i o&&lookOk X.P ops base s i o&&growOk ops s i o with
 | true=>(deff X o.op (base+16 * i) s).bind fun x=>
   match (!mildN X.P ops i o||mildEff base i x)&&(!mildL X.P ops i o||upOk base ops.size x)&&growEff ops base i s o x with
   | true=>deffE X.P ops base i o s x
   | false=>.fail
 | false=>.fail
def ndops {β:Type} (X:Cx) (ops:Array Oper) (base:Nat):List Nat→St→(St→Tr β)→Tr β
 | [],s,K=>K s
 | i::rest,s,K=>
   match ops[i]? with
   | some o=>nstep ops o (deffD X ops base i o) s (fun s'=>ndops X ops base rest s' K)
   | none=>.fail
def keepFr (live:List Nat):Nat→List NS→List NS
 | _,[]=>[]
 | i,x::l=>(if live.contains i then x else .dead)::keepFr live (i+1) l
def norm (m:Nat) (live:List Nat) (s:St):Option St:=
 let fr:=keepFr live 0 s.fr
 let roots:=(List.range m)++fr.flatMap NS.names
 let fresh:=(reach s 256 roots []).filter fun n=>m≤n
 let L:=List.range m++fresh
 match mapRg (mapNC (posIn L)) (L.map s.reg) with
 | some rg=>some {fr:=fr.map fun x=>(mapNS (mapNC (posIn L)) x).getD .dead,rg:=rg}
 | none=>none
def nwp {β:Type} (X:Cx):Code→St→(NExit→St→Tr β)→Tr β
 | .skip,s,K=>K .normal s
 | .seq a b,s,K=>nwp X a s (fun e s'=>match e with
   | .normal=>nwp X b s' K
   | e=>K e s')
 | .cond c a b,s,K=>
   (match c,s.ev c with
    | .tmp t,.v (.c (.b x))=>.br x (nwp X a (s.put (some t) (lit true)) K) (nwp X b (s.put (some t) (lit false)) K)
    | _,.v (.c (.b x))=>.br x (nwp X a s K) (nwp X b s K)
    | _,_=>.fail)
 | .block id c,s,K=>
   (match c with
    | .loop _=>
      (match X.loops.find? (·.1==id) with
       | some (_,live,L)=>(match norm X.m live s with
         | some s'=>(L s').bind fun x=>K x.1 x.2
         | none=>.fail)
       | none=>.fail)
    | .rangeFunc _ _ _ _=>
      (match X.loops.find? (·.1==id) with
       | some (_,live,L)=>(match norm X.m live s with
         | some s'=>(L s').bind fun x=>K x.1 x.2
         | none=>.fail)
       | none=>.fail)
    | c=>nwp X c s (fun e s'=>match e with
      | .exit j=>if j=id then K .normal s' else K (.exit j) s'
      | e=>K e s'))
 | .exit id,s,K=>K (.exit id) s
 | .ret,s,K=>K .ret s
 | .region _ ops false,s,K=>nops X ops ops.toList s (K .normal)
 | .region _ ops true,s,K=>
   (match drawOk X.P ops with
    | true=>ndops X ops s.rg.length (List.range ops.size) {s with rg:=s.rg++List.replicate (16 * ops.size) none} (K .normal)
    | false=>.fail)
 | _,_,_=>.fail
def resOf (P:Program) (gl:List Nat) (s:St):ResultVar→Option NV
 | .tmp t=>(s.fr.getD t .dead).nv
 | .cell a t=>(match (s.fr.getD a .dead).nc with
   | some x=>(match nload P gl s t x with
     | some ([],.v v)=>(match P.underlying t with
       | some _=>some v
       | none=>none)
     | _=>none)
   | none=>none)
def ressOf (P:Program) (gl:List Nat) (s:St) (l:List ResultVar):Option NS:=
 match mapL (resOf P gl s) l with
 | some [x]=>some (.v x)
 | some l=>some (.tu l)
 | none=>none
def outOf (P:Program) (gl:List Nat) (m:Nat) (fn:Func) (s:St):Option Out:=
 match ressOf P gl s fn.results.toList with
 | some res=>
   let fresh:=(reach s 256 ((List.range m)++res.names) []).filter fun n=>m≤n
   let L:=List.range m++fresh
   (match mapNS (mapNC (posIn L)) res,mapRg (mapNC (posIn L)) (L.map s.reg) with
    | some res,some rg=>some {res:=res,rg:=rg}
    | _,_=>none)
 | none=>none
def bodyK (P:Program) (gl:List Nat) (m:Nat) (fn:Func) (e:NExit) (s:St):Tr Out:=
 match e with
 | .exit _=>.fail
 | _=>match outOf P gl m fn s with
   | some o=>.ret o
   | none=>.fail
def enter (fn:Func) (args:List NV) (regs:List Reg):St:=
 {fr:=args.map .v++List.replicate (fn.ntmps - args.length) .dead,rg:=regs.map some}
def nfun (P:Program) (gl:List Nat) (con:FuncId→Option Con) (loops:List (Nat × List Nat × (St→Tr (NExit × St)))) (fn:Func) (args:List NV) (regs:List Reg):Tr Out:=
 match fn.body with
 | some c=>nwp {P:=P,con:=con,glob:=gl,m:=regs.length,loops:=loops} c (enter fn args regs) (bodyK P gl regs.length fn)
 | none=>.fail
def loopsIn:Code→List (Nat × Code)
 | .seq a b=>loopsIn a++loopsIn b
 | .cond _ a b=>loopsIn a++loopsIn b
 | .block j c=>(match c with
   | .loop body=>[(j,body)]
   | c=>loopsIn c)
 | _=>[]
def rangesIn:Code→List (Nat × Code)
 | .seq a b=>rangesIn a++rangesIn b
 | .cond _ a b=>rangesIn a++rangesIn b
 | .block j c=>(match c with
   | .loop _=>[]
   | .rangeFunc g ps a b=>[(j,.rangeFunc g ps a b)]
   | c=>rangesIn c)
 | _=>[]
def rangeOf (id:Nat):Code→Option Code
 | .seq a b=>(match rangeOf id a with
   | some c=>some c
   | none=>rangeOf id b)
 | .cond _ a b=>(match rangeOf id a with
   | some c=>some c
   | none=>rangeOf id b)
 | .block j c=>(match c with
   | .rangeFunc g ps a b=>if j=id then some (.rangeFunc g ps a b) else none
   | c=>rangeOf id c)
 | .loop c=>rangeOf id c
 | _=>none
def theRange (fn:Func) (id:Nat):Code:=((fn.body.bind (rangeOf id))).getD .skip
def loopOf (id:Nat):Code→Option Code
 | .seq a b=>(match loopOf id a with
   | some c=>some c
   | none=>loopOf id b)
 | .cond _ a b=>(match loopOf id a with
   | some c=>some c
   | none=>loopOf id b)
 | .block j c=>(match c with
   | .loop body=>if j=id then some body else loopOf id body
   | c=>loopOf id c)
 | .loop c=>loopOf id c
 | _=>none
def bodyLoop (fn:Func) (id:Nat):Code:=((fn.body.bind (loopOf id))).getD .skip
inductive R2 {α β:Type} (R:α→β→Prop):List α→List β→Prop
 | nil:R2 R [] []
 | cons {a b l m}:R a b→R2 R l m→R2 R (a::l) (b::m)
section
variable {α β:Type} {R S:α→β→Prop} {l:List α} {m:List β}
theorem R2.length (h:R2 R l m):l.length=m.length:=by
 induction h with
 | nil=>rfl
 | cons _ _ ih=>simp [ih]
theorem R2.imp (h:R2 R l m) (hi:∀ a b,R a b→S a b):R2 S l m:=by
 induction h with
 | nil=>exact .nil
 | cons a _ ih=>exact .cons (hi _ _ a) ih
theorem R2.imp_mem (h:R2 R l m) (hi:∀ a b,a∈l→R a b→S a b):R2 S l m:=by
 induction h with
 | nil=>exact .nil
 | cons a _ ih=>exact .cons (hi _ _ (by simp) a) (ih fun x y hx=>hi x y (by simp [hx]))
theorem R2.get (h:R2 R l m) {j:Nat} {a:α} (hj:l[j]? = some a):∃ b,m[j]? = some b∧R a b:=by
 induction h generalizing j with
 | nil=>simp at hj
 | cons r _ ih=>
   cases j with
   | zero=>simp at hj; subst hj; exact ⟨_,by simp,r⟩
   | succ j=>simp at hj; simpa using ih hj
theorem R2.append {l' : List α} {m' : List β} (h:R2 R l m) (h' : R2 R l' m'):R2 R (l++l') (m++m'):=by
 induction h with
 | nil=>exact h'
 | cons r _ ih=>exact .cons r ih
theorem R2.take (h:R2 R l m) (n:Nat):R2 R (l.take n) (m.take n):=by
 induction h generalizing n with
 | nil=>simp; exact .nil
 | cons r _ ih=>
   cases n with
   | zero=>simp; exact .nil
   | succ n=>simp; exact .cons r (ih n)
theorem R2.drop (h:R2 R l m) (n:Nat):R2 R (l.drop n) (m.drop n):=by
 induction h generalizing n with
 | nil=>simp; exact .nil
 | cons r h ih=>
   cases n with
   | zero=>simp; exact .cons r h
   | succ n=>simp; exact ih n
theorem R2.set (h:R2 R l m) (n:Nat) {a:α} {b:β} (r:R a b):R2 R (l.set n a) (m.set n b):=by
 induction h generalizing n with
 | nil=>simp; exact .nil
 | cons r' h ih=>
   cases n with
   | zero=>simp; exact .cons r h
   | succ n=>simp; exact .cons r' (ih n)
theorem R2.replicate (n:Nat) {a:α} {b:β} (r:R a b):R2 R (List.replicate n a) (List.replicate n b):=by
 induction n with
 | zero=>exact .nil
 | succ n ih=>rw [List.replicate_succ,List.replicate_succ]; exact .cons r ih
theorem R2.of_get (hl:l.length=m.length) (h:∀ (j:Nat) (a:α),l[j]? = some a→∃ b,m[j]? = some b∧R a b):R2 R l m:=by
 induction l generalizing m with
 | nil=>cases m with
   | nil=>exact .nil
   | cons=>simp at hl
 | cons a l ih=>cases m with
   | nil=>simp at hl
   | cons b m=>
     obtain ⟨b',hb,r⟩:=h 0 a (by simp)
     simp at hb
     subst hb
     exact .cons r (ih (by simpa using hl) fun j x hx=>by simpa using h (j+1) x (by simpa using hx))
theorem R2.flatMap {γ δ:Type} {T:γ→δ→Prop} {f:α→List γ} {g:β→List δ} (h:R2 R l m) (hf:∀ a b,R a b→R2 T (f a) (g b)):R2 T (l.flatMap f) (m.flatMap g):=by
 induction h with
 | nil=>exact .nil
 | cons r _ ih=>simp only [List.flatMap_cons]; exact (hf _ _ r).append ih
theorem R2.map_left {γ:Type} {f:γ→α} {l:List γ} {T:γ→β→Prop} (h:R2 T l m) (hf:∀ a b,T a b→R (f a) b):R2 R (l.map f) m:=by
 induction h with
 | nil=>exact .nil
 | cons r _ ih=>exact .cons (hf _ _ r) ih
theorem R2.self_map {γ:Type} (f:γ→α) (g:γ→β) (l:List γ) (h:∀ x,R (f x) (g x)):R2 R (l.map f) (l.map g):=by
 induction l with
 | nil=>exact .nil
 | cons a l ih=>exact .cons (h a) ih
end
structure Blk where
 blk:Nat
 st:Nat
 sz:Nat
 e:TypeId
 gh:Bool
 pre:List Value
 post:Option (List Value)
def Blk.o (B:Blk):Nat:=B.pre.length
def Blk.all (blk st sz:Nat) (e:TypeId):Blk:=⟨blk,st,sz,e,false,[],none⟩
@[simp] theorem Blk.all_blk (b st sz:Nat) (e:TypeId):(Blk.all b st sz e).blk=b:=rfl
@[simp] theorem Blk.all_st (b st sz:Nat) (e:TypeId):(Blk.all b st sz e).st=st:=rfl
@[simp] theorem Blk.all_sz (b st sz:Nat) (e:TypeId):(Blk.all b st sz e).sz=sz:=rfl
@[simp] theorem Blk.all_o (b st sz:Nat) (e:TypeId):(Blk.all b st sz e).o=0:=rfl
structure Env where
 μ:Nat→Option Blk
 kp:Nat→Option Obj
 ro:Nat→Bool
 er:Nat→Option Value
def Env.pt (Γ:Env) (r:Nat):Option Blk:=match Γ.μ r with
 | some B=>if B.gh=true then none else some B
 | none=>none
def Env.wh (Γ:Env) (r:Nat):Option Blk:=match Γ.μ r with
 | some B=>if B.gh=true∨B.post.isSome=true∨B.pre.isEmpty=false then none else some B
 | none=>none
theorem Env.pt_iff {Γ:Env} {r:Nat} {B:Blk}:Γ.pt r=some B↔Γ.μ r=some B∧B.gh=false:=by
 unfold Env.pt
 cases h:Γ.μ r with
 | none=>simp
 | some B'=>
   simp only []
   split
   ·rename_i e
    simp only [reduceCtorEq,Option.some.injEq,false_iff]
    rintro ⟨rfl,h⟩
    rw [e] at h; cases h
   ·rename_i e
    simp only [Option.some.injEq]
    constructor
    ·rintro rfl; exact ⟨rfl,by simpa using e⟩
    ·exact fun h=>h.1
theorem Env.wh_iff {Γ:Env} {r:Nat} {B:Blk}:Γ.wh r=some B↔Γ.μ r=some B∧B.gh=false∧B.post=none∧B.pre=[]:=by
 unfold Env.wh
 cases h:Γ.μ r with
 | none=>simp
 | some B'=>
   simp only []
   split
   ·rename_i e
    simp only [reduceCtorEq,Option.some.injEq,false_iff]
    rintro ⟨rfl,h1,h2,h3⟩
    rw [h1,h2,h3] at e; simp at e
   ·rename_i e
    simp only [Option.some.injEq]
    constructor
    ·rintro rfl
     simp only [not_or,Bool.not_eq_true,Option.isSome_eq_false_iff,Option.isNone_iff_eq_none,Bool.not_eq_false,List.isEmpty_iff] at e
     exact ⟨rfl,e⟩
    ·exact fun h=>h.1
theorem Env.wh_pt {Γ:Env} {r:Nat} {B:Blk} (h:Γ.wh r=some B):Γ.pt r=some B:=Env.pt_iff.2 ⟨(Env.wh_iff.1 h).1,(Env.wh_iff.1 h).2.1⟩
theorem Env.wh_o {Γ:Env} {r:Nat} {B:Blk} (h:Γ.wh r=some B):B.o=0:=by unfold Blk.o; rw [(Env.wh_iff.1 h).2.2.2]; rfl
theorem Env.pt_μ {Γ:Env} {r:Nat} {B:Blk} (h:Γ.pt r=some B):Γ.μ r=some B:=(Env.pt_iff.1 h).1
theorem Env.wh_μ {Γ:Env} {r:Nat} {B:Blk} (h:Γ.wh r=some B):Γ.μ r=some B:=(Env.wh_iff.1 h).1
def rowsV (ks:List CK) (xs:List (List Sc)):List Value:=xs.flatMap (rowVals ks)
def RoRow (Γ:Env) (blk off:Nat) (vs:List Value):Prop:=
 Γ.ro blk=true∧∃ c e fz,Γ.kp blk=some (.cells c e fz)∧∀ j x,vs[j]? = some x→c[off+j]? = some x
def FRel (Γ:Env):NC→Value→Prop
 | .i k n,v=>v=.int k n
 | .b x,v=>v=.bool x
 | .s x,v=>v=.string x
 | .l k xs,v=>∃ a cap,v=.slice a xs.length cap∧xs.length≤cap∧(xs=[]∨∃ blk off,a=some ⟨blk,off,none⟩∧RoRow Γ blk off (xs.map (.int k)))
 | .lr ks xs,v=>∃ a cap,v=.slice a xs.length cap∧xs.length≤cap∧0<ks.length∧(xs=[]∨∃ blk off,a=some ⟨blk,off,none⟩∧RoRow Γ blk off (rowsV ks xs))
 | _,_=>False
abbrev FR (Γ:Env) (x:NC) (u:Value):Prop:=FRel Γ x u∧u.oneCell'=true
def CRel (Γ:Env):NC→Value→Prop
 | .i k n,v=>v=.int k n
 | .b x,v=>v=.bool x
 | .s x,v=>v=.string x
 | .p r i c,v=>∃ B,Γ.pt r=some B∧v=.pointer (some ⟨B.blk,B.o+(i * B.st+c),none⟩)
 | .q r o w i c,v=>∃ B,Γ.pt r=some B∧v=.pointer (some ⟨B.blk,B.o+(o+i * w+c),none⟩)
 | .hq r o w i n,v=>∃ B a cap,Γ.pt r=some B∧v=.slice (some ⟨B.blk,a,none⟩) n cap∧n≤cap∧cap≤maxLen∧(a=B.o+(o+i * w)∨cap=0)
 | .pn,v=>v=.pointer none
 | .h r off len,v=>∃ B o cap,Γ.wh r=some B∧v=.slice (some ⟨B.blk,o,none⟩) len cap∧len≤cap∧cap≤maxLen∧(o=off * B.st∧(off+cap) * B.st=B.sz∨cap=0)
 | .l k xs,v=>∃ a cap,v=.slice a xs.length cap∧xs.length≤cap∧(xs=[]∨∃ blk off,a=some ⟨blk,off,none⟩∧RoRow Γ blk off (xs.map (.int k)))
 | .lr ks xs,v=>∃ a cap,v=.slice a xs.length cap∧xs.length≤cap∧0<ks.length∧(xs=[]∨∃ blk off,a=some ⟨blk,off,none⟩∧RoRow Γ blk off (rowsV ks xs))
 | .pl k xs i,v=>∃ blk off,v=.pointer (some ⟨blk,off+i,none⟩)∧RoRow Γ blk off (xs.map (.int k))
 | .pr ks xs i c,v=>∃ blk off,v=.pointer (some ⟨blk,off+i * ks.length+c,none⟩)∧RoRow Γ blk off (rowsV ks xs)
 | .sn,v=>v=.slice none 0 0
 | .hz r len,v=>(len=0∧v=.slice none 0 0∧∃ B,Γ.μ r=some B)∨∃ B o cap,Γ.wh r=some B∧v=.slice (some ⟨B.blk,o,none⟩) len cap∧len≤cap∧cap≤maxLen∧(o=0 * B.st∧(0+cap) * B.st=B.sz∨cap=0)
 | .m r,v=>∃ B,Γ.pt r=some B∧v=.map (some B.blk)
 | .mn,v=>v=.map none
 | .lt sch xs,v=>∃ a cap,v=.slice a xs.length cap∧xs.length≤cap∧0<schSize sch∧TabOk sch xs∧(xs=[]∨∃ blk off vs,a=some ⟨blk,off,none⟩∧RoRow Γ blk off vs∧R2 (FR Γ) (tabNC sch xs) vs)
 | .pt sch xs i c,v=>∃ blk off vs,v=.pointer (some ⟨blk,off+(i * schSize sch+c),none⟩)∧0<schSize sch∧TabOk sch xs∧RoRow Γ blk off vs∧R2 (FR Γ) (tabNC sch xs) vs
 | .g x,v=>v=.pointer (some ⟨x,0,none⟩)
 | .e k,v=>Γ.er k=some v
 | .en,v=>v=.nilIface
 | .cl f cap,v=>∃ caps:List Value,v=.func (.func f) #[] caps.toArray∧
    R2 (fun (x:Nat × Nat × Nat) u=>∃ B,Γ.pt x.1=some B∧u=.pointer (some ⟨B.blk,B.o+(x.2.1 * B.st+x.2.2),none⟩)) cap caps
def VRel (Γ:Env):NV→Value→Prop
 | .c x,v=>CRel Γ x v∧v.oneCell'=true
 | .ag xs,v=>∃ vs:List Value,v=.agg vs.toArray∧R2 (fun x u=>CRel Γ x u∧u.oneCell'=true) xs vs
 | .sg l,v=>∃ vs:List Value,v=.agg vs.toArray∧R2 (fun x u=>CRel Γ x u∧u.oneCell'=true) (segFlat l) vs∧SegOk l
def SRel (Γ:Env):NS→Value→Prop
 | .v x,v=>VRel Γ x v
 | .tu l,v=>∃ vs:List Value,v=.tuple vs.toArray∧R2 (VRel Γ) l vs
 | .dead,_=>True
abbrev CR (Γ:Env) (x:NC) (u:Value):Prop:=CRel Γ x u∧u.oneCell'=true
def BodyRel (Γ:Env) (st:Nat):Body→List Value→Prop
 | .cells xs,l=>∃ l1 l2,l=l1++l2∧R2 (CR Γ) xs l1
 | .ints k xs,l=>st=1∧∃ l2,l=xs.map (.int k)++l2
 | .recs ks xs,l=>st=ks.length∧0<ks.length∧∃ l2,l=rowsV ks xs++l2
 | .sg s,l=>∃ l1 l2,l=l1++l2∧R2 (CR Γ) (segFlat s) l1∧SegOk s
 | .tab sch xs,l=>st=schSize sch∧0<schSize sch∧∃ l1 l2,l=l1++l2∧R2 (FR Γ) (tabNC sch xs) l1∧TabOk sch xs
 | .mp _ _ _,_=>False
def PartOk (B:Blk) (g:Reg) (l:List Value):Prop:=
 l.take B.o=B.pre∧match B.post with
  | none=>B.pre=[]∧B.e=g.e
  | some post=>∃ n,g.body.len=some n∧l.drop (B.o+n)=post∧B.o+n≤l.length
structure RegAt (Γ:Env) (g:Reg) (B:Blk) (w:World) (c:Array Value):Prop where
 heap:w.heap[B.blk]? = some (.cells c B.e (0,0))
 st:B.st=g.st
 sz:c.size=B.sz
 body:BodyRel Γ g.st g.body (c.toList.drop B.o)
 part:PartOk B g c.toList
def Ghost (g:Reg):Prop:=(∃ k,g.body=.ints k [])∨(∃ ks,g.body=.recs ks [])∨∃ sch,g.body=.tab sch []∧0<schSize sch
def RowV (Γ:Env) (sch:List Part) (row:List FC) (v:Value):Prop:=∃ vs:List Value,v=.agg vs.toArray∧R2 (FR Γ) (segFlat (rowSegs sch row 0)) vs∧SegOk (rowSegs sch row 0)
structure MapAt (Γ:Env) (g:Reg) (B:Blk) (w:World):Prop where
 mp:∃ ks sch xs es ck,g.body=.mp ks sch xs∧w.heap[B.blk]? = some (.map es ck)∧R2 (fun x (e:MapEntry)=>RowV Γ ks x.1 e.key∧RowV Γ sch x.2 e.val) xs es.toList
 post:B.post=some []
 st:B.st=g.st
def RegRel (Γ:Env) (g:Reg) (B:Blk) (w:World):Prop:=(B.gh=true∧Ghost g)∨(B.gh=false∧∃ c,RegAt Γ g B w c)∨(B.gh=false∧MapAt Γ g B w)
def live (rg:List (Option Reg)) (n:Nat):Prop:=∃ g,rg[n]? = some (some g)
structure WRel (Γ:Env) (rg:List (Option Reg)) (w:World):Prop where
 live:∀ n g,rg[n]? = some (some g)→∃ B,Γ.μ n=some B∧RegRel Γ g B w
 inj:∀ n m B B',n≠m→Nx.live rg n→Nx.live rg m→Γ.pt n=some B→Γ.pt m=some B'→B.blk≠B'.blk
 kp:∀ b o,Γ.kp b=some o→w.heap[b]? = some o
 apart:∀ n B,Nx.live rg n→Γ.pt n=some B→Γ.kp B.blk=none
 ro:∀ b,Γ.ro b=true→∃ o,Γ.kp b=some o
theorem WRel.at_or {Γ:Env} {rg:List (Option Reg)} {w:World} (h:WRel Γ rg w) {r:Nat} {B:Blk} {g:Reg} (hB:Γ.pt r=some B) (hg:rg[r]? = some (some g)):(∃ c,RegAt Γ g B w c)∨MapAt Γ g B w:=by
 obtain ⟨B',h1,h2⟩:=h.live r g hg
 obtain ⟨h3,h4⟩:=Env.pt_iff.1 hB
 rw [h3] at h1
 cases h1
 rcases h2 with ⟨h2,-⟩ | ⟨-,h2⟩ | ⟨-,h2⟩
 ·rw [h4] at h2; cases h2
 ·exact .inl h2
 ·exact .inr h2
theorem WRel.at {Γ:Env} {rg:List (Option Reg)} {w:World} (h:WRel Γ rg w) {r:Nat} {B:Blk} {g:Reg} (hB:Γ.pt r=some B) (hg:rg[r]? = some (some g)) (hm:g.body.isMp=false):∃ c,RegAt Γ g B w c:=by
 rcases h.at_or hB hg with h | h
 ·exact h
 ·obtain ⟨ks,sch,xs,es,ck,h1,-⟩:=h.mp
  rw [h1] at hm; cases hm
theorem WRel.st {Γ:Env} {rg:List (Option Reg)} {w:World} (h:WRel Γ rg w) {r:Nat} {B:Blk} {g:Reg} (hB:Γ.pt r=some B) (hg:rg[r]? = some (some g)):B.st=g.st:=by
 rcases h.at_or hB hg with ⟨c,h⟩ | h
 ·exact h.st
 ·exact h.st
theorem WRel.obj {Γ:Env} {rg:List (Option Reg)} {w:World} (h:WRel Γ rg w) {r:Nat} {B:Blk} {g:Reg} (hB:Γ.pt r=some B) (hg:rg[r]? = some (some g)):∃ o,w.heap[B.blk]? = some o:=by
 rcases h.at_or hB hg with ⟨c,h⟩ | h
 ·exact ⟨_,h.heap⟩
 ·obtain ⟨ks,sch,xs,es,ck,-,h2,-⟩:=h.mp
  exact ⟨_,h2⟩
theorem WRel.atW {Γ:Env} {rg:List (Option Reg)} {w:World} (h:WRel Γ rg w) {r:Nat} {B:Blk} {g:Reg} (hB:Γ.wh r=some B) (hg:rg[r]? = some (some g)) :
  ∃ c:Array Value,w.heap[B.blk]? = some (.cells c g.e (0,0))∧B.st=g.st∧c.size=B.sz∧BodyRel Γ g.st g.body c.toList:=by
 obtain ⟨-,-,hp,-⟩:=Env.wh_iff.1 hB
 rcases h.at_or (Env.wh_pt hB) hg with ⟨c,h1,h2,h3,h4,h5,h6⟩ | hm
 rotate_left
 ·rw [hm.post] at hp; cases hp
 rw [hp] at h6
 obtain ⟨h7,h8⟩:=h6
 refine ⟨c,h8 ▸ h1,h2,h3,?_⟩
 have:B.o=0:=by unfold Blk.o; rw [h7]; rfl
 rw [this] at h4
 exact h4
theorem WRel.o0 {Γ:Env} {rg:List (Option Reg)} {w:World} (_:WRel Γ rg w) {r:Nat} {B:Blk} {g:Reg} (hB:Γ.wh r=some B) (_:rg[r]? = some (some g)):B.o=0:=Env.wh_o hB
theorem WRel.whole {Γ:Env} {rg:List (Option Reg)} {w:World} (h:WRel Γ rg w) {r:Nat} {B:Blk} {g:Reg} (hB:Γ.pt r=some B) (hg:rg[r]? = some (some g)) (hl:g.body.len=none):Γ.wh r=some B:=by
 obtain ⟨c,h1,h2,h3,h4,h5,h6⟩:=h.at hB hg (by cases hb:g.body <;> first | rfl | (rw [hb] at hl; cases hl))
 refine Env.wh_iff.2 ⟨(Env.pt_iff.1 hB).1,(Env.pt_iff.1 hB).2,?_⟩
 cases hp:B.post with
 | none=>rw [hp] at h6; exact ⟨rfl,h6.1⟩
 | some post=>
   rw [hp] at h6
   obtain ⟨n,h7,-⟩:=h6
   rw [hl] at h7; cases h7
def FrRel (Γ:Env) (fr:List NS) (tmps:Array Value):Prop:=R2 (SRel Γ) fr tmps.toList
def GlobOk (glob:List Nat) (Γ:Env):Prop:=
 (∀ x∈glob.tail,∃ ad c e fz ca ta,Γ.er x=some (.iface (glob.headD 0) (.pointer (some ad)))∧Γ.kp x=some (.cells c e fz)∧c[0]? = some (.iface (glob.headD 0) (.pointer (some ad)))∧Γ.kp ad.block=some (.cells ca ta (0,0)))∧
 (∀ x∈glob.tail,∀ y∈glob.tail,x≠y→Γ.er x≠Γ.er y)
structure Env.le (Γ Γ' : Env):Prop where
 μ:∀ n B,Γ.μ n=some B→Γ'.μ n=some B
 kp:∀ b o,Γ.kp b=some o→Γ'.kp b=some o
 ro:∀ b,Γ.ro b=true→Γ'.ro b=true
 er:Γ'.er=Γ.er
theorem Env.le.refl (Γ:Env):Γ.le Γ:=⟨fun _ _ h=>h,fun _ _ h=>h,fun _ h=>h,rfl⟩
theorem Env.le.trans {a b c:Env} (h:a.le b) (k:b.le c):a.le c:=
 ⟨fun n B x=>k.μ n B (h.μ n B x),fun n B x=>k.kp n B (h.kp n B x),fun n x=>k.ro n (h.ro n x),k.er.trans h.er⟩
structure Wd (w w' : World):Prop where
 os:w'.os=w.os
 tape:w'.tape=w.tape
 output:w'.output=w.output
 size:w.heap.size≤w'.heap.size
theorem Wd.refl (w:World):Wd w w:=⟨rfl,rfl,rfl,Nat.le_refl _⟩
theorem Wd.trans {a b c:World} (h:Wd a b) (k:Wd b c):Wd a c:=⟨k.os.trans h.os,k.tape.trans h.tape,k.output.trans h.output,Nat.le_trans h.size k.size⟩
theorem Env.le.pt {Γ Γ' : Env} (h:Γ.le Γ') {n:Nat} {B:Blk} (hB:Γ.pt n=some B):Γ'.pt n=some B:=Env.pt_iff.2 ⟨h.μ _ _ (Env.pt_iff.1 hB).1,(Env.pt_iff.1 hB).2⟩
theorem Env.le.wh {Γ Γ' : Env} (h:Γ.le Γ') {n:Nat} {B:Blk} (hB:Γ.wh n=some B):Γ'.wh n=some B:=Env.wh_iff.2 ⟨h.μ _ _ (Env.wh_iff.1 hB).1,(Env.wh_iff.1 hB).2⟩
theorem RoRow.mono {Γ Γ' : Env} (h:Γ.le Γ') {b o:Nat} {vs:List Value} (r:RoRow Γ b o vs):RoRow Γ' b o vs:=by
 obtain ⟨h1,c,e,fz,h2,h3⟩:=r
 exact ⟨h.ro _ h1,c,e,fz,h.kp _ _ h2,h3⟩
theorem FRel.mono {Γ Γ' : Env} (h:Γ.le Γ') {x:NC} {v:Value} (r:FRel Γ x v):FRel Γ' x v:=by
 cases x with
 | l k xs=>
   obtain ⟨a,cap,h1,h2,h3⟩:=r
   refine ⟨a,cap,h1,h2,h3.imp id ?_⟩
   rintro ⟨blk,off,h4,h5⟩
   exact ⟨blk,off,h4,h5.mono h⟩
 | lr ks xs=>
   obtain ⟨a,cap,h1,h2,h0,h3⟩:=r
   refine ⟨a,cap,h1,h2,h0,h3.imp id ?_⟩
   rintro ⟨blk,off,h4,h5⟩
   exact ⟨blk,off,h4,h5.mono h⟩
 | _=>exact r
theorem FR.mono {Γ Γ' : Env} (h:Γ.le Γ') {x:NC} {v:Value} (r:FR Γ x v):FR Γ' x v:=⟨r.1.mono h,r.2⟩
theorem FRel.c {Γ:Env} {x:NC} {v:Value} (r:FRel Γ x v):CRel Γ x v:=by
 cases x <;> first | exact r | exact r.elim
theorem FR.c {Γ:Env} {x:NC} {v:Value} (r:FR Γ x v):CR Γ x v:=⟨r.1.c,r.2⟩
theorem RowV.mono {Γ Γ' : Env} (h:Γ.le Γ') {sch:List Part} {row:List FC} {v:Value} (r:RowV Γ sch row v):RowV Γ' sch row v:=by
 obtain ⟨vs,h1,h2,h3⟩:=r
 exact ⟨vs,h1,h2.imp fun _ _ r=>r.mono h,h3⟩
theorem CRel.mono {Γ Γ' : Env} (h:Γ.le Γ') {x:NC} {v:Value} (r:CRel Γ x v):CRel Γ' x v:=by
 cases x with
 | m r'=>obtain ⟨B,h1,h2⟩:=r; exact ⟨B,h.pt h1,h2⟩
 | lt sch xs=>
   obtain ⟨a,cap,h1,h2,h0,hk,h3⟩:=r
   refine ⟨a,cap,h1,h2,h0,hk,h3.imp id ?_⟩
   rintro ⟨blk,off,vs,h4,h5,h6⟩
   exact ⟨blk,off,vs,h4,h5.mono h,h6.imp fun _ _ r=>r.mono h⟩
 | pt sch xs i c=>
   obtain ⟨blk,off,vs,h1,h0,hk,h2,h3⟩:=r
   exact ⟨blk,off,vs,h1,h0,hk,h2.mono h,h3.imp fun _ _ r=>r.mono h⟩
 | p r' i c=>obtain ⟨B,h1,h2⟩:=r; exact ⟨B,h.pt h1,h2⟩
 | h r' o n=>obtain ⟨B,o,cap,h1,h2⟩:=r; exact ⟨B,o,cap,h.wh h1,h2⟩
 | hz r' n=>
   rcases r with ⟨h1,h2,B,h3⟩ | ⟨B,o,cap,h1,h2⟩
   ·exact .inl ⟨h1,h2,B,h.μ _ _ h3⟩
   ·exact .inr ⟨B,o,cap,h.wh h1,h2⟩
 | q r' o w i c=>obtain ⟨B,h1,h2⟩:=r; exact ⟨B,h.pt h1,h2⟩
 | hq r' o w i n=>obtain ⟨B,a,cap,h1,h2⟩:=r; exact ⟨B,a,cap,h.pt h1,h2⟩
 | l k xs=>
   obtain ⟨a,cap,h1,h2,h3⟩:=r
   refine ⟨a,cap,h1,h2,h3.imp id ?_⟩
   rintro ⟨blk,off,h4,h5⟩
   exact ⟨blk,off,h4,h5.mono h⟩
 | lr ks xs=>
   obtain ⟨a,cap,h1,h2,h0,h3⟩:=r
   refine ⟨a,cap,h1,h2,h0,h3.imp id ?_⟩
   rintro ⟨blk,off,h4,h5⟩
   exact ⟨blk,off,h4,h5.mono h⟩
 | pl k xs i=>obtain ⟨blk,off,h1,h2⟩:=r; exact ⟨blk,off,h1,h2.mono h⟩
 | pr ks xs i c=>obtain ⟨blk,off,h1,h2⟩:=r; exact ⟨blk,off,h1,h2.mono h⟩
 | e k=>have e:=h.er; simp only [CRel] at r ⊢; rw [e]; exact r
 | cl f cap=>
   obtain ⟨caps,h1,h2⟩:=r
   refine ⟨caps,h1,h2.imp ?_⟩
   rintro a b ⟨B,h3,h4⟩
   exact ⟨B,h.pt h3,h4⟩
 | _=>exact r
theorem CR.mono {Γ Γ' : Env} (h:Γ.le Γ') {x:NC} {v:Value} (r:CR Γ x v):CR Γ' x v:=⟨r.1.mono h,r.2⟩
theorem VRel.mono {Γ Γ' : Env} (h:Γ.le Γ') {x:NV} {v:Value} (r:VRel Γ x v):VRel Γ' x v:=by
 cases x with
 | c x=>exact CR.mono h r
 | ag xs=>obtain ⟨vs,h1,h2⟩:=r; exact ⟨vs,h1,h2.imp fun _ _ r=>CR.mono h r⟩
 | sg l=>obtain ⟨vs,h1,h2,h3⟩:=r; exact ⟨vs,h1,h2.imp fun _ _ r=>CR.mono h r,h3⟩
theorem SRel.mono {Γ Γ' : Env} (h:Γ.le Γ') {x:NS} {v:Value} (r:SRel Γ x v):SRel Γ' x v:=by
 cases x with
 | v x=>exact VRel.mono h r
 | tu l=>obtain ⟨vs,h1,h2⟩:=r; exact ⟨vs,h1,h2.imp fun _ _ r=>VRel.mono h r⟩
 | dead=>trivial
theorem BodyRel.mono {Γ Γ' : Env} (h:Γ.le Γ') {st:Nat} {b:Body} {l:List Value} (r:BodyRel Γ st b l):BodyRel Γ' st b l:=by
 cases b with
 | cells xs=>obtain ⟨l1,l2,h1,h2⟩:=r; exact ⟨l1,l2,h1,h2.imp fun _ _ r=>CR.mono h r⟩
 | sg s=>obtain ⟨l1,l2,h1,h2,h3⟩:=r; exact ⟨l1,l2,h1,h2.imp fun _ _ r=>CR.mono h r,h3⟩
 | tab sch xs=>obtain ⟨hs,h0,l1,l2,h1,h2,h3⟩:=r; exact ⟨hs,h0,l1,l2,h1,h2.imp fun _ _ r=>FR.mono h r,h3⟩
 | mp ks sch xs=>exact r
 | ints k xs=>exact r
 | recs ks xs=>exact r
theorem RegAt.mono {Γ Γ' : Env} (h:Γ.le Γ') {g:Reg} {B:Blk} {w:World} {c:Array Value} (r:RegAt Γ g B w c):RegAt Γ' g B w c:=⟨r.heap,r.st,r.sz,r.body.mono h,r.part⟩
theorem MapAt.mono {Γ Γ' : Env} (h:Γ.le Γ') {g:Reg} {B:Blk} {w:World} (r:MapAt Γ g B w):MapAt Γ' g B w:=by
 obtain ⟨⟨ks,sch,xs,es,ck,h1,h2,h3⟩,h4,h5⟩:=r
 exact ⟨⟨ks,sch,xs,es,ck,h1,h2,h3.imp fun _ _ r=>⟨r.1.mono h,r.2.mono h⟩⟩,h4,h5⟩
theorem RegRel.mono {Γ Γ' : Env} (h:Γ.le Γ') {g:Reg} {B:Blk} {w:World} (r:RegRel Γ g B w):RegRel Γ' g B w:=by
 rcases r with r | ⟨h0,c,r⟩ | ⟨h0,r⟩
 ·exact .inl r
 ·exact .inr (.inl ⟨h0,c,r.mono h⟩)
 ·exact .inr (.inr ⟨h0,r.mono h⟩)
theorem FrRel.mono {Γ Γ' : Env} (h:Γ.le Γ') {fr:List NS} {t:Array Value} (r:FrRel Γ fr t):FrRel Γ' fr t:=R2.imp r fun _ _ r=>r.mono h
theorem GlobOk.mono {Γ Γ' : Env} (h:Γ.le Γ') {g:List Nat} (r:GlobOk g Γ):GlobOk g Γ':=by
 refine ⟨fun x hx=>?_,fun x hx y hy hne=>by rw [h.er]; exact r.2 x hx y hy hne⟩
 obtain ⟨ad,c,e,fz,ca,ta,h1,h2,h3,h4⟩:=r.1 x hx
 exact ⟨ad,c,e,fz,ca,ta,by rw [h.er]; exact h1,h.kp _ _ h2,h3,h.kp _ _ h4⟩
def Env.add (Γ:Env) (n:Nat) (B:Blk):Env:={Γ with μ:=fun m=>if m=n then some B else Γ.μ m}
theorem Env.le_add (Γ:Env) (n:Nat) (B:Blk) (h:Γ.μ n=none):Γ.le (Γ.add n B):=
 ⟨fun m B' hm=>by
   simp only [Env.add]
   split
   ·rename_i e; rw [e,h] at hm; cases hm
   ·exact hm,fun _ _ h=>h,fun _ h=>h,rfl⟩
theorem sel_iff {c:Bool} {A B:Prop}:sel c A B↔(c=true∧A)∨(c=false∧B):=by cases c <;> simp [sel]
theorem Tr.run_bind {α β:Type} (t:Tr α) (f:α→Tr β) (R:β→Prop):(t.bind f).run R=t.run fun a=>(f a).run R:=by
 induction t with
 | ret a=>rfl
 | br c x y ihx ihy=>simp only [Tr.bind,Tr.run,ihx,ihy]
 | must p x ih=>simp only [Tr.bind,Tr.run,ih]
 | all p h g ih=>simp only [Tr.bind,Tr.run,ih]
 | fail=>rfl
theorem Tr.run_mono {α:Type} (t:Tr α) {R S:α→Prop} (h:∀ a,R a→S a) (hr:t.run R):t.run S:=by
 induction t with
 | ret a=>exact h a hr
 | br c x y ihx ihy=>
   simp only [Tr.run] at hr ⊢
   rcases sel_iff.1 hr with ⟨hc,hx⟩ | ⟨hc,hy⟩
   ·exact sel_iff.2 (.inl ⟨hc,ihx hx⟩)
   ·exact sel_iff.2 (.inr ⟨hc,ihy hy⟩)
 | must p x ih=>exact ⟨hr.1,ih hr.2⟩
 | all p h' g ih=>exact fun i hi=>ih i (hr i hi)
 | fail=>exact hr
theorem Tr.run_false {α:Type} (t:Tr α) (hr:t.run fun _=>False):False:=by
 induction t with
 | ret a=>exact hr
 | br c x y ihx ihy=>
   rcases sel_iff.1 hr with ⟨_,hx⟩ | ⟨_,hy⟩
   ·exact ihx hx
   ·exact ihy hy
 | must p x ih=>exact ih hr.2
 | all p h g ih=>
   obtain ⟨i,hi⟩:=h
   exact ih i (hr i hi)
 | fail=>exact hr
theorem Tr.run_all {α ι:Type} (t:Tr α) {p:ι→Prop} (h:∃ i,p i) {S:ι→α→Prop} (hr:∀ i,p i→t.run (S i)):t.run fun a=>∀ i,p i→S i a:=by
 induction t with
 | ret a=>exact hr
 | br c x y ihx ihy=>
   cases c with
   | true=>exact ihx hr
   | false=>exact ihy hr
 | must q x ih=>
   obtain ⟨i,hi⟩:=h
   exact ⟨(hr i hi).1,ih fun i hi=>(hr i hi).2⟩
 | all q h' g ih=>exact fun j hj=>ih j fun i hi=>hr i hi j hj
 | fail=>
   obtain ⟨i,hi⟩:=h
   exact hr i hi
theorem Tr.run_swap {α β:Type} (t:Tr α) (u:Tr β) {K:α→β→Prop} (h:t.run fun a=>u.run fun b=>K a b):u.run fun b=>t.run fun a=>K a b:=by
 induction t with
 | ret a=>exact h
 | br c x y ihx ihy=>
   cases c with
   | true=>exact ihx h
   | false=>exact ihy h
 | must p x ih=>exact Tr.run_mono _ (fun b hb=>⟨h.1,hb⟩) (ih h.2)
 | all p hp g ih=>exact Tr.run_all u hp fun i hi=>ih i (h i hi)
 | fail=>exact h.elim
def allT (l:List Bool):Prop:=∀ b∈l,b=true
theorem chkT_run {α:Type} (c:List Bool) (t:Tr α) (R:α→Prop):(chkT c t).run R↔allT c∧t.run R:=by
 induction c with
 | nil=>simp [chkT,allT]
 | cons b bs ih=>
   simp only [chkT,Tr.run,sel_iff,ih,allT]
   cases b <;> simp
theorem putAt_get (l:List (Option Reg)) (n:Nat) (x:Option Reg) (m:Nat) (g:Reg) :
  (putAt l n x)[m]? = some (some g)↔(m=n∧x=some g)∨(m≠n∧l[m]? = some (some g)):=by
 unfold putAt
 split
 ·rename_i h
  rw [List.getElem?_set]
  by_cases e:n=m
  ·subst e; simp [h]
  ·simp [e,Ne.symm e]
 ·rename_i h
  rw [List.append_assoc,List.getElem?_append]
  split
  ·rename_i h1
   have:m≠n:=by omega
   simp [this]
  ·rename_i h1
   have hl:l[m]? = none:=List.getElem?_eq_none (by omega)
   rw [hl,List.getElem?_append]
   simp only [List.length_replicate]
   split
   ·rename_i h2
    rw [List.getElem?_replicate]
    have:m≠n:=by omega
    simp [this]
   ·rename_i h2
    by_cases e:m=n
    ·subst e; simp
    ·have:m - l.length - (n - l.length)≠0:=by omega
     obtain ⟨k,hk⟩:=Nat.exists_eq_succ_of_ne_zero this
     simp [e,hk]
theorem putAt_live (l:List (Option Reg)) (n:Nat) (x:Option Reg) (m:Nat):live (putAt l n x) m↔(m=n∧x.isSome=true)∨(m≠n∧live l m):=by
 unfold live
 simp only [putAt_get]
 constructor
 ·rintro ⟨g,⟨h,e⟩ | ⟨h,e⟩⟩
  ·exact .inl ⟨h,by simp [e]⟩
  ·exact .inr ⟨h,g,e⟩
 ·rintro (⟨h,e⟩ | ⟨h,g,e⟩)
  ·obtain ⟨g,rfl⟩:=Option.isSome_iff_exists.1 e; exact ⟨g,.inl ⟨h,rfl⟩⟩
  ·exact ⟨g,.inr ⟨h,e⟩⟩
theorem reg_eq (s:St) (n:Nat) (g:Reg):s.reg n=some g↔s.rg[n]? = some (some g):=by
 unfold St.reg
 split
 ·rename_i r h; simp [h]
 ·rename_i h
  simp only [reduceCtorEq,false_iff]
  intro e
  exact h _ e
theorem heap_lt {w:World} {b:Nat} {o:Obj} (h:w.heap[b]? = some o):b<w.heap.size:=(Array.getElem?_eq_some_iff.1 h).1
theorem RegAt.move {Γ:Env} {g:Reg} {B:Blk} {w w' : World} {c:Array Value} (r:RegAt Γ g B w c) (h:w'.heap[B.blk]? = w.heap[B.blk]?):RegAt Γ g B w' c:=⟨h.trans r.heap,r.st,r.sz,r.body,r.part⟩
theorem MapAt.move {Γ:Env} {g:Reg} {B:Blk} {w w' : World} (r:MapAt Γ g B w) (h:w'.heap[B.blk]? = w.heap[B.blk]?):MapAt Γ g B w':=by
 obtain ⟨⟨ks,sch,xs,es,ck,h1,h2,h3⟩,h4,h5⟩:=r
 exact ⟨⟨ks,sch,xs,es,ck,h1,h.trans h2,h3⟩,h4,h5⟩
theorem MapAt.lt {Γ:Env} {g:Reg} {B:Blk} {w:World} (r:MapAt Γ g B w):B.blk<w.heap.size:=by
 obtain ⟨⟨ks,sch,xs,es,ck,h1,h2,h3⟩,h4,h5⟩:=r
 exact heap_lt h2
theorem RegRel.heap {Γ:Env} {g:Reg} {B:Blk} {w w' : World} (r:RegRel Γ g B w) (h:B.gh=false→w'.heap[B.blk]? = w.heap[B.blk]?):RegRel Γ g B w':=by
 rcases r with r | ⟨h0,c,r⟩ | ⟨h0,r⟩
 ·exact .inl r
 ·exact .inr (.inl ⟨h0,c,r.move (h h0)⟩)
 ·exact .inr (.inr ⟨h0,r.move (h h0)⟩)
theorem RegRel.lt {Γ:Env} {g:Reg} {B:Blk} {w:World} (r:RegRel Γ g B w) (h:B.gh=false):B.blk<w.heap.size:=by
 rcases r with ⟨r,-⟩ | ⟨-,c,r⟩ | ⟨-,r⟩
 ·rw [h] at r; cases r
 ·exact heap_lt r.heap
 ·exact r.lt
theorem WRel.mono_heap {Γ:Env} {rg:List (Option Reg)} {w w' : World} (r:WRel Γ rg w) (h:∀ b,b<w.heap.size→w'.heap[b]? = w.heap[b]?):WRel Γ rg w':=by
 refine ⟨fun n g hg=>?_,r.inj,fun b o hb=>?_,r.apart,r.ro⟩
 ·obtain ⟨B,h1,h2⟩:=r.live n g hg
  exact ⟨B,h1,h2.heap fun h0=>h _ (h2.lt h0)⟩
 ·have:=r.kp b o hb
  rw [h b (heap_lt this)]; exact this
theorem WRel.kill {Γ:Env} {rg:List (Option Reg)} {w:World} (r:WRel Γ rg w) (n:Nat):WRel Γ (putAt rg n none) w:=by
 have hl:∀ m,Nx.live (putAt rg n none) m→Nx.live rg m:=fun m h=>by
  rcases (putAt_live _ _ _ _).1 h with ⟨_,e⟩ | ⟨_,e⟩
  ·simp at e
  ·exact e
 refine ⟨fun m g hg=>?_,fun a b B B' hne ha hb=>r.inj a b B B' hne (hl a ha) (hl b hb),r.kp,fun m B hm=>r.apart m B (hl m hm),r.ro⟩
 rcases (putAt_get _ _ _ _ _).1 hg with ⟨_,e⟩ | ⟨_,e⟩
 ·cases e
 ·exact r.live m g e
theorem WRel.change {Γ:Env} {rg:List (Option Reg)} {w w' : World} (r:WRel Γ rg w) {n:Nat} {B:Blk} {g' : Reg} (hn:Nx.live rg n) (hB:Γ.pt n=some B)
  (h:∀ b,b≠B.blk→w'.heap[b]? = w.heap[b]?) (hg:RegRel Γ g' B w'):WRel Γ (putAt rg n (some g')) w':=by
 have hl:∀ m,Nx.live (putAt rg n (some g')) m→Nx.live rg m:=fun m h=>by
  rcases (putAt_live _ _ _ _).1 h with ⟨e,_⟩ | ⟨_,e⟩
  ·rw [e]; exact hn
  ·exact e
 refine ⟨fun m g hm=>?_,fun a b B B' hne ha hb=>r.inj a b B B' hne (hl a ha) (hl b hb),fun b o hb=>?_,fun m B hm=>r.apart m B (hl m hm),r.ro⟩
 ·rcases (putAt_get _ _ _ _ _).1 hm with ⟨rfl,e⟩ | ⟨hne,e⟩
  ·cases e; exact ⟨B,Env.pt_μ hB,hg⟩
  ·obtain ⟨B',h1,h2⟩:=r.live m g e
   exact ⟨B',h1,h2.heap fun h0=>h _ (r.inj m n B' B hne ⟨g,e⟩ hn (Env.pt_iff.2 ⟨h1,h0⟩) hB)⟩
 ·rw [h b]; exact r.kp b o hb
  rintro rfl
  rw [r.apart n B hn hB] at hb; cases hb
theorem heap_alloc_lt (w:World) (o:Obj) (b:Nat) (h:b<w.heap.size):(w.alloc o).heap[b]? = w.heap[b]?:=by
 show (w.heap.push o)[b]? = _
 rw [Array.getElem?_push,if_neg (by omega)]
theorem Env.add_self (Γ:Env) (n:Nat) (B:Blk):(Γ.add n B).μ n=some B:=by simp [Env.add]
theorem Env.add_pt {Γ:Env} {n:Nat} {B:Blk} (h:B.gh=false):(Γ.add n B).pt n=some B:=Env.pt_iff.2 ⟨Γ.add_self n B,h⟩
theorem Env.add_wh {Γ:Env} {n:Nat} {B:Blk} (h:B.gh=false) (h' : B.post=none) (h2:B.pre=[]):(Γ.add n B).wh n=some B:=Env.wh_iff.2 ⟨Γ.add_self n B,h,h',h2⟩
theorem Env.add_other {Γ:Env} {n:Nat} {B:Blk} {m:Nat} (h:m≠n):(Γ.add n B).pt m=Γ.pt m:=by
 have:(Γ.add n B).μ m=Γ.μ m:=by simp [Env.add,h]
 unfold Env.pt
 rw [this]
theorem RegRel.all {Γ:Env} {g:Reg} {w:World} {b st sz:Nat} {c:Array Value} (h:w.heap[b]? = some (.cells c g.e (0,0))) (hst:st=g.st) (hsz:c.size=sz) (hb:BodyRel Γ g.st g.body c.toList):RegRel Γ g (Blk.all b st sz g.e) w:=
 .inr (.inl ⟨rfl,c,h,hst,hsz,hb,rfl,rfl,rfl⟩)
theorem WRel.new {Γ:Env} {rg:List (Option Reg)} {w:World} (r:WRel Γ rg w) {nm:Nat} {g:Reg} {cs:Array Value} (hnm:Γ.μ nm=.none)
  (hb:BodyRel Γ g.st g.body cs.toList) :
  WRel (Γ.add nm (Blk.all w.heap.size g.st cs.size g.e)) (putAt rg nm (some g)) (w.alloc (.cells cs g.e)):=by
 generalize hBn:Blk.all w.heap.size g.st cs.size g.e=Bn
 have hgh:Bn.gh=false:=by rw [← hBn]; rfl
 have hblk:Bn.blk=w.heap.size:=by rw [← hBn]; rfl
 have hle:=Γ.le_add nm Bn hnm
 have hnl:¬ Nx.live rg nm:=by rintro ⟨g',hg'⟩; obtain ⟨B,hB,_⟩:=r.live nm g' hg'; rw [hnm] at hB; cases hB
 have hold:∀ m B,m≠nm→Nx.live rg m→(Γ.add nm Bn).pt m=some B→Γ.pt m=some B∧B.blk<w.heap.size:=by
  intro m B hne hm hB
  rw [Env.add_other hne] at hB
  obtain ⟨g',hg'⟩:=hm
  obtain ⟨o,ho⟩:=r.obj hB hg'
  exact ⟨hB,heap_lt ho⟩
 have hnew:(Γ.add nm Bn).pt nm=some Bn:=Env.add_pt hgh
 refine ⟨fun m g' hm=>?_,fun a b B B' hne ha hb ea eb=>?_,fun b o hb=>?_,fun m B hm eB=>?_,r.ro⟩
 ·rcases (putAt_get _ _ _ _ _).1 hm with ⟨rfl,e⟩ | ⟨hne,e⟩
  ·cases e
   refine ⟨_,Env.pt_μ hnew,?_⟩
   rw [← hBn]
   exact RegRel.all (heap_alloc_new w _) rfl rfl (hb.mono (hBn ▸ hle))
  ·obtain ⟨B',h3,h4⟩:=r.live m g' e
   exact ⟨B',hle.μ _ _ h3,(h4.heap fun h0=>heap_alloc_lt w _ _ (h4.lt h0)).mono hle⟩
 ·rcases (putAt_live _ _ _ _).1 ha with ⟨rfl,_⟩ | ⟨na,la⟩ <;> rcases (putAt_live _ _ _ _).1 hb with ⟨rfl,_⟩ | ⟨nb,lb⟩
  ·exact (hne rfl).elim
  ·rw [hnew] at ea; cases ea
   have:=(hold b B' nb lb eb).2
   omega
  ·rw [hnew] at eb; cases eb
   have:=(hold a B na la ea).2
   omega
  ·exact r.inj a b B B' hne la lb (hold a B na la ea).1 (hold b B' nb lb eb).1
 ·have:=r.kp b o hb
  rw [heap_alloc_lt w _ _ (heap_lt this)]; exact this
 ·rcases (putAt_live _ _ _ _).1 hm with ⟨rfl,_⟩ | ⟨nm',lm⟩
  ·rw [hnew] at eB; cases eB
   show Γ.kp Bn.blk=.none
   rw [hblk]
   cases e:Γ.kp w.heap.size with
   | none=>rfl
   | some o=>have:=heap_lt (r.kp _ _ e); omega
  ·exact r.apart m B lm (hold m B nm' lm eB).1
def Blk.map (blk:Nat) (e:TypeId):Blk:=⟨blk,0,0,e,false,[],some []⟩
theorem WRel.newMap {Γ:Env} {rg:List (Option Reg)} {w:World} (r:WRel Γ rg w) {nm:Nat} {g:Reg} {ks sch:List Part} (hnm:Γ.μ nm=.none) (hb:g.body=.mp ks sch []) (hst:g.st=0) :
  WRel (Γ.add nm (Blk.map w.heap.size g.e)) (putAt rg nm (some g)) (w.alloc (.map #[] 0)):=by
 generalize hBn:Blk.map w.heap.size g.e=Bn
 have hgh:Bn.gh=false:=by rw [← hBn]; rfl
 have hblk:Bn.blk=w.heap.size:=by rw [← hBn]; rfl
 have hle:=Γ.le_add nm Bn hnm
 have hnl:¬ Nx.live rg nm:=by rintro ⟨g',hg'⟩; obtain ⟨B,hB,_⟩:=r.live nm g' hg'; rw [hnm] at hB; cases hB
 have hold:∀ m B,m≠nm→Nx.live rg m→(Γ.add nm Bn).pt m=some B→Γ.pt m=some B∧B.blk<w.heap.size:=by
  intro m B hne hm hB
  rw [Env.add_other hne] at hB
  obtain ⟨g',hg'⟩:=hm
  obtain ⟨o,ho⟩:=r.obj hB hg'
  exact ⟨hB,heap_lt ho⟩
 have hnew:(Γ.add nm Bn).pt nm=some Bn:=Env.add_pt hgh
 refine ⟨fun m g' hm=>?_,fun a b B B' hne ha hb ea eb=>?_,fun b o hb=>?_,fun m B hm eB=>?_,r.ro⟩
 ·rcases (putAt_get _ _ _ _ _).1 hm with ⟨rfl,e⟩ | ⟨hne,e⟩
  ·cases e
   refine ⟨_,Env.pt_μ hnew,.inr (.inr ⟨hgh,⟨ks,sch,[],#[],0,hb,?_,.nil⟩,?_,?_⟩)⟩
   ·rw [hblk]; exact heap_alloc_new w _
   ·rw [← hBn]; rfl
   ·rw [← hBn]; exact hst.symm
  ·obtain ⟨B',h3,h4⟩:=r.live m g' e
   exact ⟨B',hle.μ _ _ h3,(h4.heap fun h0=>heap_alloc_lt w _ _ (h4.lt h0)).mono hle⟩
 ·rcases (putAt_live _ _ _ _).1 ha with ⟨rfl,_⟩ | ⟨na,la⟩ <;> rcases (putAt_live _ _ _ _).1 hb with ⟨rfl,_⟩ | ⟨nb,lb⟩
  ·exact (hne rfl).elim
  ·rw [hnew] at ea; cases ea
   have:=(hold b B' nb lb eb).2
   omega
  ·rw [hnew] at eb; cases eb
   have:=(hold a B na la ea).2
   omega
  ·exact r.inj a b B B' hne la lb (hold a B na la ea).1 (hold b B' nb lb eb).1
 ·have:=r.kp b o hb
  rw [heap_alloc_lt w _ _ (heap_lt this)]; exact this
 ·rcases (putAt_live _ _ _ _).1 hm with ⟨rfl,_⟩ | ⟨nm',lm⟩
  ·rw [hnew] at eB; cases eB
   show Γ.kp Bn.blk=.none
   rw [hblk]
   cases e:Γ.kp w.heap.size with
   | none=>rfl
   | some o=>have:=heap_lt (r.kp _ _ e); omega
  ·exact r.apart m B lm (hold m B nm' lm eB).1
theorem info_of_underlying {P:Program} {t:TypeId} {d:TypeDesc} (h:P.underlying t=some d):∃ i,P.info? t=some i:=by
 cases e:P.info? t with
 | some i=>exact ⟨i,rfl⟩
 | none=>simp [Program.underlying,e] at h
theorem info_of_size {P:Program} {t:TypeId} (h:0<sizeT P t):∃ i,P.info? t=some i∧i.size=sizeT P t:=by
 cases e:P.info? t with
 | some i=>exact ⟨i,rfl,by simp [sizeT,e]⟩
 | none=>simp [sizeT,e] at h
theorem run_typeInfo {P:Program} {t:TypeId} {i:TypeInfo} (h:P.info? t=some i) (w:World):(typeInfo t).run P w=.ok i w:=by simp [typeInfo,h]
theorem run_sizeOf {P:Program} {t:TypeId} {i:TypeInfo} (h:P.info? t=some i) (w:World):(sizeOf t).run P w=.ok (sizeT P t) w:=by simp [sizeOf,run_typeInfo h,sizeT,h]
theorem run_isAgg {P:Program} {t:TypeId} {d:TypeDesc} (h:P.underlying t=some d) (w:World):(isAgg t).run P w=.ok (isAggT P t) w:=by
 simp only [isAgg,Sem.run_bind,run_underlying h,Result.andThen_ok,isAggT,h]
 cases d <;> rfl
theorem zeroCells_spec {P:Program} {t:TypeId} {z:List NC} (h:zeroCells P t=some z) :
  ∃ i v,P.info? t=some i∧i.zero=some v∧v.cells.size=sizeT P t∧scals v.cells.toList=some z:=by
 unfold zeroCells at h
 split at h
 ·rename_i i hi
  split at h
  ·rename_i v hv
   split at h
   ·rename_i hs
    exact ⟨i,v,hi,hv,by simp [sizeT,hi,hs],h⟩
   ·cases h
  ·cases h
 ·cases h
theorem scal_rel {Γ:Env} {v:Value} {x:NC} (h:scal v=some x):CR Γ x v:=by
 unfold scal at h
 split at h <;> first
  | (cases h; exact ⟨rfl,rfl⟩)
  | cases h
theorem scals_rel {Γ:Env}:∀ {l:List Value} {z:List NC},scals l=some z→R2 (CR Γ) z l
 | [],z,h=>by simp [scals] at h; subst h; exact .nil
 | v::l,z,h=>by
   simp only [scals] at h
   split at h
   ·rename_i a r ha hr
    cases h
    exact .cons (scal_rel ha) (scals_rel hr)
   ·cases h
theorem run_zeroValue {P:Program} {t:TypeId} {i:TypeInfo} {v:Value} (h:P.info? t=some i) (hz:i.zero=some v) (w:World):(zeroValue t).run P w=.ok v w:=by
 simp [zeroValue,run_typeInfo h,hz]
theorem toSc_val {k:CK} {x:NC} {y:Sc} {Γ:Env} {v:Value} (h:toSc k x=some y) (r:CR Γ x v):v=ckVal k y:=by
 cases k with
 | i k=>
   cases x <;> simp only [toSc,reduceCtorEq] at h
   split at h
   ·rename_i e; cases h; subst e; exact r.1
   ·cases h
 | b=>cases x <;> simp only [toSc,reduceCtorEq,Option.some.injEq] at h; subst h; exact r.1
theorem rowFrom_shift {α:Type} (f:CK→Sc→α):∀ (ks:List CK) (a:Sc) (row:List Sc) (j:Nat),rowFrom f ks (a::row) (j+1)=rowFrom f ks row j
 | [],_,_,_=>rfl
 | k::ks,a,row,j=>by simp [rowFrom,rowFrom_shift f ks a row (j+1)]
theorem rowFrom_length {α:Type} (f:CK→Sc→α):∀ (ks:List CK) (row:List Sc) (j:Nat),(rowFrom f ks row j).length=ks.length
 | [],_,_=>rfl
 | k::ks,row,j=>by simp [rowFrom,rowFrom_length f ks row (j+1)]
theorem rowFrom_get {α:Type} (f:CK→Sc→α):∀ (ks:List CK) (row:List Sc) (j c:Nat) (k:CK),ks[c]? = some k→(rowFrom f ks row j)[c]? = some (f k (row.getD (j+c) (.i 0)))
 | [],_,_,_,_,h=>by simp at h
 | k::ks,row,j,0,k',h=>by simp at h; subst h; simp [rowFrom]
 | k::ks,row,j,c+1,k',h=>by
   simp at h
   rw [rowFrom,List.getElem?_cons_succ,rowFrom_get f ks row (j+1) c k' h]
   congr 3; omega
@[simp] theorem rowVals_length (ks:List CK) (row:List Sc):(rowVals ks row).length=ks.length:=rowFrom_length _ _ _ _
theorem ck_rel (Γ:Env) (k:CK) (s:Sc):CR Γ (ckNC k s) (ckVal k s):=by cases k <;> exact ⟨rfl,rfl⟩
theorem rowCells_rel (Γ:Env) (ks:List CK) (row:List Sc):R2 (CR Γ) (rowCells ks row) (rowVals ks row):=by
 unfold rowCells rowVals
 generalize 0=j
 induction ks generalizing j with
 | nil=>exact .nil
 | cons k ks ih=>exact .cons (ck_rel Γ k _) (ih (j+1))
theorem toRow_vals {Γ:Env}:∀ {ks:List CK} {xs:List NC} {row:List Sc} {l:List Value},toRow ks xs=some row→R2 (CR Γ) xs l→l=rowVals ks row
 | [],[],row,l,h,r=>by cases r; simp [rowVals,rowFrom]
 | [],_::_,_,_,h,_=>by simp [toRow] at h
 | _::_,[],_,_,h,_=>by simp [toRow] at h
 | k::ks,x::xs,row,l,h,r=>by
   simp only [toRow] at h
   split at h
   ·rename_i a t ha ht
    cases h
    cases r with
    | cons r1 r2=>
      rw [toSc_val ha r1,toRow_vals ht r2]
      simp [rowVals,rowFrom,rowFrom_shift]
   ·cases h
theorem toRows_vals {Γ:Env} {ks:List CK}:∀ {n:Nat} {xs:List NC} {rows:List (List Sc)} {l:List Value},toRows ks n xs=some rows→R2 (CR Γ) xs l→l=rowsV ks rows∧rows.length=n
 | 0,[],rows,l,h,r=>by simp [toRows] at h; subst h; cases r; simp [rowsV]
 | 0,_::_,_,_,h,_=>by simp [toRows] at h
 | n+1,xs,rows,l,h,r=>by
   simp only [toRows] at h
   split at h
   ·rename_i a t ha ht
    cases h
    have h1:=toRow_vals ha (r.take ks.length)
    obtain ⟨h2,h3⟩:=toRows_vals ht (r.drop ks.length)
    refine ⟨?_,by simp [h3]⟩
    rw [← List.take_append_drop ks.length l,h1,h2]
    simp [rowsV]
   ·cases h
theorem toInts_vals {Γ:Env} {k:IntKind}:∀ {xs:List NC} {l:List Int} {vs:List Value},toInts k xs=some l→R2 (CR Γ) xs vs→vs=l.map (.int k)
 | [],l,vs,h,r=>by simp [toInts] at h; subst h; cases r; rfl
 | x::xs,l,vs,h,r=>by
   cases x <;> simp only [toInts,reduceCtorEq] at h
   split at h
   ·rename_i e
    split at h
    ·rename_i l' hl
     cases h
     cases r with
     | cons r1 r2=>rw [toInts_vals hl r2,show _=_ from r1.1,e]; rfl
    ·cases h
   ·cases h
theorem elemBody_rel {Γ:Env} (P:Program) (e:TypeId) (n:Nat) {xs:List NC} {l:List Value} (r:R2 (CR Γ) xs l):BodyRel Γ (elemBody P e n xs).1 (elemBody P e n xs).2 l:=by
 have hc:BodyRel Γ (sizeT P e) (.cells xs) l:=⟨l,[],by simp,r⟩
 have hc1:BodyRel Γ 1 (.cells xs) l:=⟨l,[],by simp,r⟩
 unfold elemBody
 split
 ·split
  ·rename_i l' hl
   exact ⟨rfl,[],by simp [toInts_vals hl r]⟩
  ·exact hc1
 ·split
  ·rename_i ks hne hpos
   split
   ·rename_i rows hr
    exact ⟨rfl,hpos,[],by simp [(toRows_vals hr r).1]⟩
   ·exact hc
  ·exact hc
 ·exact hc
theorem varReg_rel {Γ:Env} (P:Program) (t:TypeId) {xs:List NC} {l:List Value} (r:R2 (CR Γ) xs l):BodyRel Γ (varReg P t xs).st (varReg P t xs).body l∧(varReg P t xs).e=t:=by
 unfold varReg
 split
 ·exact ⟨elemBody_rel P _ _ r,rfl⟩
 ·exact ⟨⟨l,[],by simp,r⟩,rfl⟩
theorem R2.oneCell {Γ:Env} {xs:List NC} {l:List Value} (r:R2 (CR Γ) xs l):∀ u∈l,u.oneCell'=true:=by
 induction r with
 | nil=>simp
 | cons h _ ih=>intro u hu; rcases List.mem_cons.1 hu with rfl | hu; exact h.2; exact ih u hu
theorem cells_of_one {v:Value} (h:v.oneCell'=true):v.cells=#[v]:=by cases v <;> simp [Value.oneCell',Value.cells] at h ⊢
theorem VRel.cells {Γ:Env} {x:NV} {v:Value} (r:VRel Γ x v):R2 (CR Γ) x.cells v.cells.toList:=by
 cases x with
 | c x=>rw [cells_of_one r.2]; exact .cons r .nil
 | ag xs=>obtain ⟨vs,rfl,h⟩:=r; simpa [Value.cells,NV.cells] using h
 | sg l=>obtain ⟨vs,rfl,h,-⟩:=r; simpa [Value.cells,NV.cells] using h
theorem ofConst_rel (Γ:Env) (v:Value):SRel Γ (ofConst v) v:=by
 unfold ofConst
 split
 ·rename_i cs
  split
  ·rename_i l hl
   exact ⟨cs.toList,by simp,scals_rel hl⟩
  ·trivial
 ·split
  ·rename_i x hx; exact scal_rel hx
  ·trivial
theorem ev_rel {Γ:Env} {s:St} {a:Act} (h:FrRel Γ s.fr a.tmps) (x:Operand):SRel Γ (s.ev x) (a.eval x):=by
 cases x with
 | tmp t=>
   simp only [St.ev,Act.eval,List.getD_eq_getElem?_getD]
   cases e:s.fr[t]? with
   | none=>trivial
   | some n=>
     obtain ⟨b,hb,r⟩:=R2.get h e
     simp only [Array.getElem?_toList] at hb
     simpa [Array.getD_eq_getD_getElem?,hb] using r
 | const v=>exact ofConst_rel Γ v
 | global g=>exact ⟨rfl,rfl⟩
 | func f=>exact ⟨⟨[],rfl,.nil⟩,rfl⟩
theorem nc_rel {Γ:Env} {n:NS} {v:Value} {x:NC} (r:SRel Γ n v) (h:n.nc=some x):CR Γ x v:=by
 unfold NS.nc at h
 split at h
 ·cases h; exact r
 ·cases h
theorem nv_rel {Γ:Env} {n:NS} {v:Value} {x:NV} (r:SRel Γ n v) (h:n.nv=some x):VRel Γ x v:=by
 unfold NS.nv at h
 split at h
 ·cases h; exact r
 ·cases h
section
variable {α β:Type} {g:α→List β} {w:Nat}
theorem fm_length (hg:∀ x,(g x).length=w) (xs:List α):(xs.flatMap g).length=xs.length * w:=by
 induction xs with
 | nil=>simp
 | cons a xs ih=>rw [List.flatMap_cons,List.length_append,hg,ih,List.length_cons,Nat.succ_mul]; omega
theorem fm_drop (hg:∀ x,(g x).length=w) (xs:List α) (i:Nat):(xs.flatMap g).drop (i * w)=(xs.drop i).flatMap g:=by
 induction i generalizing xs with
 | zero=>simp
 | succ i ih=>
   cases xs with
   | nil=>simp
   | cons a xs=>
     have h1:(g a++xs.flatMap g).drop w=xs.flatMap g:=by rw [List.drop_append,← hg a]; simp
     rw [List.flatMap_cons,Nat.succ_mul,Nat.add_comm,← List.drop_drop,h1,ih,List.drop_succ_cons]
theorem fm_take (hg:∀ x,(g x).length=w) (xs:List α) (i:Nat):(xs.flatMap g).take (i * w)=(xs.take i).flatMap g:=by
 induction i generalizing xs with
 | zero=>simp
 | succ i ih=>
   cases xs with
   | nil=>simp
   | cons a xs=>
     rw [List.take_succ_cons,List.flatMap_cons,List.flatMap_cons,Nat.succ_mul,Nat.add_comm,List.take_append,hg a,Nat.add_sub_cancel_left,ih,List.take_of_length_le (by rw [hg a]; omega)]
end
theorem rowCells_length (ks:List CK) (row:List Sc):(rowCells ks row).length=ks.length:=rowFrom_length _ _ _ _
theorem rowsNC_length (ks:List CK) (xs:List (List Sc)):(rowsNC ks xs).length=xs.length * ks.length:=fm_length (rowCells_length ks) xs
theorem rowsNC_drop (ks:List CK) (xs:List (List Sc)) (i:Nat):(rowsNC ks xs).drop (i * ks.length)=rowsNC ks (xs.drop i):=fm_drop (rowCells_length ks) xs i
theorem rowsNC_take (ks:List CK) (xs:List (List Sc)) (i:Nat):(rowsNC ks xs).take (i * ks.length)=rowsNC ks (xs.take i):=fm_take (rowCells_length ks) xs i
theorem rowsNC_append (ks:List CK) (xs ys:List (List Sc)):rowsNC ks (xs++ys)=rowsNC ks xs++rowsNC ks ys:=by simp [rowsNC]
theorem rowsNC_one (ks:List CK) (r:List Sc):rowsNC ks [r]=rowCells ks r:=by simp [rowsNC]
theorem rowsNC_sub (ks:List CK) (xs:List (List Sc)) (j q:Nat):((rowsNC ks xs).drop (j * ks.length)).take (q * ks.length)=rowsNC ks ((xs.drop j).take q):=by rw [rowsNC_drop,rowsNC_take]
theorem rowsNC_row (ks:List CK) (xs:List (List Sc)) (i:Nat) (h:i<xs.length):((rowsNC ks xs).drop (i * ks.length)).take ks.length=rowCells ks (xs.getD i []):=by
 have h1:=rowsNC_sub ks xs i 1
 rw [Nat.one_mul] at h1
 rw [h1]
 have e:(xs.drop i).take 1=[xs.getD i []]:=by
  rw [List.drop_eq_getElem_cons h,List.take_succ_cons,List.take_zero,List.getD_eq_getElem?_getD,List.getElem?_eq_getElem h,Option.getD_some]
 rw [e,rowsNC_one]
theorem rowsNC_get (ks:List CK) (xs:List (List Sc)) (i c:Nat) (k:CK) (h:i<xs.length) (hk:ks[c]? = some k) :
  (rowsNC ks xs)[i * ks.length+c]? = some (ckNC k ((xs.getD i []).getD c (.i 0))):=by
 have hc:c<ks.length:=(List.getElem?_eq_some_iff.1 hk).1
 have h1:=rowsNC_row ks xs i h
 have h2:(rowCells ks (xs.getD i []))[c]? = some (ckNC k ((xs.getD i []).getD c (.i 0))):=by
  have:=rowFrom_get ckNC ks (xs.getD i []) 0 c k hk
  simpa [rowCells] using this
 rw [← h1,List.getElem?_take,if_pos hc,List.getElem?_drop] at h2
 exact h2
theorem setRow_getD' (ks:List CK) (row:List Sc) (c:Nat) (z:Sc) (j:Nat) (hj:j<ks.length):(setRow ks row c z).getD j (.i 0)=if j=c then z else row.getD j (.i 0):=by
 simp [setRow,List.getD_eq_getElem?_getD,hj]
theorem rowsNC_setOne (ks:List CK) (xs:List (List Sc)) (i c:Nat) (k:CK) (z:Sc) (h:i<xs.length) (hk:ks[c]? = some k) :
  rowsNC ks (xs.set i (setRow ks (xs.getD i []) c z))=(rowsNC ks xs).set (i * ks.length+c) (ckNC k z):=by
 have hc:c<ks.length:=(List.getElem?_eq_some_iff.1 hk).1
 apply List.ext_getElem?
 intro m
 by_cases hm:m<xs.length * ks.length
 ·have hw:0<ks.length:=by omega
  have hi' : m / ks.length<xs.length:=(Nat.div_lt_iff_lt_mul hw).2 hm
  have hc' : m % ks.length<ks.length:=Nat.mod_lt _ hw
  have em:m / ks.length * ks.length+m % ks.length=m:=by rw [Nat.mul_comm]; exact Nat.div_add_mod m ks.length
  have hk' : ks[m % ks.length]? = some ks[m % ks.length]:=List.getElem?_eq_getElem hc'
  have g1:=rowsNC_get ks xs (m / ks.length) (m % ks.length) _ hi' hk'
  have g2:=rowsNC_get ks (xs.set i (setRow ks (xs.getD i []) c z)) (m / ks.length) (m % ks.length) _ (by simpa using hi') hk'
  rw [em] at g1 g2
  rw [g2,List.getElem?_set]
  by_cases e:i * ks.length+c=m
  ·have ei:m / ks.length=i:=by
    rw [← e,Nat.add_comm,Nat.add_mul_div_right _ _ hw,Nat.div_eq_of_lt hc]; simp
   have ec:m % ks.length=c:=by rw [← e,Nat.add_comm,Nat.add_mul_mod_self_right,Nat.mod_eq_of_lt hc]
   rw [if_pos e,if_pos (by rw [rowsNC_length]; omega)]
   have hkk:ks[m % ks.length]=k:=by
    have:ks[m % ks.length]? = some k:=by rw [ec]; exact hk
    rw [hk'] at this; exact Option.some.inj this
   rw [hkk]
   have:(xs.set i (setRow ks (xs.getD i []) c z)).getD (m / ks.length) []=setRow ks (xs.getD i []) c z:=by
    simp [List.getD_eq_getElem?_getD,ei,h]
   rw [this,setRow_getD' ks _ c z _ hc',if_pos ec]
  ·rw [if_neg e,g1]
   congr 2
   by_cases ei:m / ks.length=i
   ·have ec:m % ks.length≠c:=by intro ec; exact e (by rw [← ei,← ec]; exact em)
    have:(xs.set i (setRow ks (xs.getD i []) c z)).getD (m / ks.length) []=setRow ks (xs.getD i []) c z:=by
     simp [List.getD_eq_getElem?_getD,ei,h]
    rw [this,setRow_getD' ks _ c z _ hc',if_neg ec,ei]
   ·have:(xs.set i (setRow ks (xs.getD i []) c z)).getD (m / ks.length) []=xs.getD (m / ks.length) []:=by
     simp [List.getD_eq_getElem?_getD,Ne.symm ei]
    rw [this]
 ·rw [List.getElem?_eq_none (by rw [rowsNC_length,List.length_set]; omega),List.getElem?_eq_none (by rw [List.length_set,rowsNC_length]; omega)]
theorem toSc_nc {k:CK} {x:NC} {y:Sc} (h:toSc k x=some y):x=ckNC k y:=by
 cases k with
 | i k=>
   cases x <;> simp only [toSc,reduceCtorEq] at h
   split at h
   ·rename_i e; cases h; subst e; rfl
   ·cases h
 | b=>cases x <;> simp only [toSc,reduceCtorEq,Option.some.injEq] at h; subst h; rfl
theorem toRow_nc:∀ {ks:List CK} {xs:List NC} {row:List Sc},toRow ks xs=some row→xs=rowCells ks row
 | [],[],row,h=>by cases h; rfl
 | [],_::_,_,h=>by simp [toRow] at h
 | _::_,[],_,h=>by simp [toRow] at h
 | k::ks,x::xs,row,h=>by
   simp only [toRow] at h
   split at h
   ·rename_i a t ha ht
    cases h
    rw [toSc_nc ha,toRow_nc ht]
    simp [rowCells,rowFrom,rowFrom_shift]
   ·cases h
theorem toRows_nc {ks:List CK}:∀ {n:Nat} {xs:List NC} {rows:List (List Sc)},toRows ks n xs=some rows→xs=rowsNC ks rows∧rows.length=n
 | 0,[],rows,h=>by simp [toRows] at h; subst h; exact ⟨rfl,rfl⟩
 | 0,_::_,_,h=>by simp [toRows] at h
 | n+1,xs,rows,h=>by
   simp only [toRows] at h
   split at h
   ·rename_i a t ha ht
    cases h
    obtain ⟨h2,h3⟩:=toRows_nc ht
    refine ⟨?_,by simp [h3]⟩
    rw [← List.take_append_drop ks.length xs,toRow_nc ha,h2]
    simp [rowsNC]
   ·cases h
theorem toInts_nc {k:IntKind}:∀ {xs:List NC} {l:List Int},toInts k xs=some l→xs=intsNC k l
 | [],l,h=>by simp [toInts] at h; subst h; rfl
 | x::xs,l,h=>by
   cases x <;> simp only [toInts,reduceCtorEq] at h
   split at h
   ·rename_i e
    split at h
    ·rename_i l' hl
     cases h
     rw [toInts_nc hl,e]; rfl
    ·cases h
   ·cases h
theorem ck_unique {Γ:Env} {k:CK} {s:Sc} {v:Value} (h:CR Γ (ckNC k s) v):v=ckVal k s:=by cases k <;> exact h.1
theorem rowCells_vals {Γ:Env} {ks:List CK} {row:List Sc} {vs:List Value} (r:R2 (CR Γ) (rowCells ks row) vs):vs=rowVals ks row:=by
 unfold rowCells at r
 unfold rowVals
 generalize 0=j at r
 induction ks generalizing j vs with
 | nil=>cases r; rfl
 | cons k ks ih=>
   cases r with
   | cons a b=>rw [ck_unique a,ih _ b]; rfl
theorem rowsNC_vals {Γ:Env} {ks:List CK} {xs:List (List Sc)} {vs:List Value} (r:R2 (CR Γ) (rowsNC ks xs) vs):vs=rowsV ks xs:=by
 induction xs generalizing vs with
 | nil=>cases r; rfl
 | cons a xs ih=>
   have e:rowsNC ks (a::xs)=rowCells ks a++rowsNC ks xs:=by simp [rowsNC]
   rw [e] at r
   have h1:=r.take ks.length
   have h2:=r.drop ks.length
   rw [List.take_append_of_le_length (by rw [rowCells_length]; omega),List.take_of_length_le (by rw [rowCells_length]; omega)] at h1
   rw [List.drop_append,rowCells_length,Nat.sub_self,List.drop_of_length_le (by rw [rowCells_length]; omega),List.nil_append,List.drop_zero] at h2
   rw [← List.take_append_drop ks.length vs,rowCells_vals h1,ih h2]
   simp [rowsV]
theorem intsNC_vals {Γ:Env} {k:IntKind} {xs:List Int} {vs:List Value} (r:R2 (CR Γ) (intsNC k xs) vs):vs=xs.map (.int k):=by
 induction xs generalizing vs with
 | nil=>cases r; rfl
 | cons a xs ih=>
   cases r with
   | cons h1 h2=>rw [ih h2,show _=_ from h1.1]; rfl
theorem segFlat_cons (s:Seg) (l:List Seg):segFlat (s::l)=s.flat++segFlat l:=by cases l <;> simp [segFlat]
theorem SegOk.head {s:Seg} {l:List Seg} (h:SegOk (s::l)):s.ok:=h s (by simp)
theorem SegOk.tail {s:Seg} {l:List Seg} (h:SegOk (s::l)):SegOk l:=fun x hx=>h x (by simp [hx])
theorem SegOk.mk {s:Seg} {l:List Seg} (h:s.ok) (h' : SegOk l):SegOk (s::l):=fun x hx=>by
 rcases List.mem_cons.1 hx with rfl | hx
 ·exact h
 ·exact h' x hx
theorem SegOk.none:SegOk []:=fun x hx=>by cases hx
theorem Seg.flat_length {s:Seg} (h:s.ok):s.flat.length=s.size:=by
 cases s with
 | cells xs=>rfl
 | ints k n xs=>simp only [Seg.flat,Seg.size,intsNC,List.length_map]; exact h
 | recs ks n xs=>simp only [Seg.flat,Seg.size,rowsNC_length]; rw [h.1]
theorem segFlat_length {l:List Seg} (h:SegOk l):(segFlat l).length=segSize l:=by
 induction l with
 | nil=>rfl
 | cons s l ih=>rw [segFlat_cons,List.length_append,Seg.flat_length h.head,ih h.tail]; rfl
theorem NV.segs_flat (v:NV):segFlat v.segs=v.cells:=by cases v <;> rfl
theorem VRel.segs {Γ:Env} {x:NV} {v:Value} (r:VRel Γ x v):SegOk x.segs∧x.cells.length=x.size:=by
 cases x with
 | c x=>exact ⟨SegOk.mk trivial SegOk.none,rfl⟩
 | ag xs=>exact ⟨SegOk.mk trivial SegOk.none,rfl⟩
 | sg l=>obtain ⟨vs,-,-,h⟩:=r; exact ⟨h,segFlat_length h⟩
theorem segNcs_mem {l:List Seg} {x:NC} (h:x∈segFlat l):x∈segNcs l∨∃ k s,x=ckNC k s:=by
 induction l with
 | nil=>cases h
 | cons s l ih=>
   rw [segFlat_cons,List.mem_append] at h
   simp only [segNcs,List.mem_append]
   rcases h with h | h
   ·cases s with
    | cells xs=>exact .inl (.inl h)
    | ints k n xs=>
      simp only [Seg.flat,intsNC,List.mem_map] at h
      obtain ⟨z,-,rfl⟩:=h
      exact .inr ⟨.i k,.i z,rfl⟩
    | recs ks n xs=>
      simp only [Seg.flat,rowsNC,List.mem_flatMap] at h
      obtain ⟨row,-,h⟩:=h
      unfold rowCells at h
      generalize 0=j at h
      right
      induction ks generalizing j with
      | nil=>cases h
      | cons k ks ihk=>
        simp only [rowFrom,List.mem_cons] at h
        rcases h with rfl | h
        ·exact ⟨k,_,rfl⟩
        ·exact ihk _ h
   ·rcases ih h with h | h
    ·exact .inl (.inr h)
    ·exact .inr h
theorem dt_take {α:Type} (a b:List α) (o n:Nat) (h:o+n≤a.length):((a++b).drop o).take n=(a.drop o).take n:=by
 rw [List.drop_append_of_le_length (by omega),List.take_append_of_le_length (by simp; omega)]
theorem dt_skip {α:Type} (a b:List α) (o n:Nat) (h:a.length≤o):((a++b).drop o).take n=(b.drop (o - a.length)).take n:=by
 rw [List.drop_append,List.drop_of_length_le h,List.nil_append]
theorem dt_split {α:Type} (a b:List α) (o n:Nat) (h:o≤a.length) (h2:a.length≤o+n):((a++b).drop o).take n=(a.drop o).take (a.length - o)++(b.drop 0).take (n - (a.length - o)):=by
 rw [List.drop_append_of_le_length h,List.take_append]
 simp only [List.length_drop,List.drop_zero]
 rw [List.take_of_length_le (l:=a.drop o) (by simp; omega),List.take_of_length_le (l:=a.drop o) (by simp)]
theorem Seg.cut_spec {s t:Seg} {o n:Nat} (hs:s.ok) (h:s.cut o n=some t) (hb:o+n≤s.size):t.ok∧t.flat=(s.flat.drop o).take n:=by
 cases s with
 | cells xs=>
   simp only [Seg.cut] at h
   split at h
   ·cases h; exact ⟨trivial,rfl⟩
   ·cases h
 | ints k m xs=>
   have hs:xs.length=m:=hs
   simp only [Seg.cut] at h
   split at h
   ·rename_i e
    split at h
    ·rename_i e0
     cases h
     subst e0 e
     refine ⟨hs,?_⟩
     simp only [Seg.flat,List.drop_zero]
     rw [List.take_of_length_le (by simp [intsNC,hs])]
    ·cases h
   ·split at h
    ·rename_i hle
     cases h
     refine ⟨?_,?_⟩
     ·show ((xs.drop o).take n).length=n
      simp; omega
     ·simp only [Seg.flat,intsNC,List.map_take,List.map_drop]
    ·cases h
 | recs ks m xs=>
   obtain ⟨hl,h0⟩:xs.length=m∧0<ks.length:=hs
   simp only [Seg.cut] at h
   split at h
   ·rename_i e
    split at h
    ·rename_i e0
     cases h
     subst e0
     refine ⟨⟨hl,h0⟩,?_⟩
     simp only [Seg.flat,List.drop_zero]
     rw [List.take_of_length_le (by rw [rowsNC_length,hl,e]; omega)]
    ·cases h
   ·split at h
    ·rename_i hc
     cases h
     obtain ⟨-,ho,hn,hle⟩:=hc
     have eo:o / ks.length * ks.length=o:=by rw [Nat.mul_comm]; exact Nat.mul_div_cancel' (Nat.dvd_of_mod_eq_zero ho)
     have en:n / ks.length * ks.length=n:=by rw [Nat.mul_comm]; exact Nat.mul_div_cancel' (Nat.dvd_of_mod_eq_zero hn)
     refine ⟨⟨?_,h0⟩,?_⟩
     ·simp; omega
     ·simp only [Seg.flat]
      rw [← rowsNC_sub,eo,en]
    ·cases h
theorem segSub_spec:∀ {l r:List Seg} {o n:Nat},SegOk l→segSub l o n=some r→SegOk r∧segFlat r=((segFlat l).drop o).take n∧(n=0∨o+n≤(segFlat l).length)
 | [],r,o,n,_,h=>by
   simp only [segSub] at h
   split at h
   ·rename_i e; cases h; subst e; exact ⟨SegOk.none,by simp [segFlat],.inl rfl⟩
   ·cases h
 | s::l,r,o,n,hl,h=>by
   simp only [segSub] at h
   have hlen:=Seg.flat_length hl.head
   split at h
   ·rename_i e; cases h; subst e; exact ⟨SegOk.none,by simp [segFlat],.inl rfl⟩
   ·rename_i hn
    split at h
    ·rename_i hle
     obtain ⟨h1,h2,h3⟩:=segSub_spec hl.tail h
     refine ⟨h1,?_,.inr ?_⟩
     ·rw [h2,segFlat_cons,dt_skip _ _ _ _ (by omega),hlen]
     ·rw [segFlat_cons,List.length_append,hlen]; omega
    ·rename_i hgt
     split at h
     case h_2=>cases h
     rename_i a q ha hq
     cases h
     obtain ⟨h1,h2⟩:=Seg.cut_spec hl.head ha (by omega)
     obtain ⟨h3,h4,h5⟩:=segSub_spec hl.tail hq
     refine ⟨SegOk.mk h1 h3,?_,.inr ?_⟩
     ·rw [segFlat_cons,segFlat_cons,h2,h4]
      by_cases hc:n≤s.size - o
      ·rw [Nat.min_eq_left hc,Nat.sub_self,dt_take _ _ _ _ (by omega)]; simp
      ·rw [Nat.min_eq_right (by omega),dt_split _ _ _ _ (by omega) (by omega),hlen]
     ·rw [segFlat_cons,List.length_append,hlen]; omega
theorem segOne_spec:∀ {l:List Seg} {o:Nat} {x:NC},SegOk l→segOne l o=some x→(segFlat l)[o]? = some x
 | [],_,_,_,h=>by simp [segOne] at h
 | s::l,o,x,hl,h=>by
   simp only [segOne] at h
   have hlen:=Seg.flat_length hl.head
   rw [segFlat_cons]
   split at h
   ·rename_i hle
    rw [List.getElem?_append_right (by omega),hlen]
    exact segOne_spec hl.tail h
   ·rename_i hgt
    rw [List.getElem?_append_left (by omega)]
    cases s with
    | cells xs=>exact h
    | ints k n xs=>
      simp only [Option.some.injEq] at h
      have hs:xs.length=n:=hl.head
      have ho:o<xs.length:=by rw [hs]; simp only [Seg.size] at hgt; omega
      simp only [Seg.flat,intsNC,List.getElem?_map,List.getElem?_eq_getElem ho,Option.map_some,← h,List.getD_eq_getElem?_getD,Option.getD_some]
    | recs ks n xs=>
      obtain ⟨hs,h0⟩:xs.length=n∧0<ks.length:=hl.head
      simp only at h
      split at h
      case h_2=>cases h
      rename_i k hk
      cases h
      have hi:o / ks.length<xs.length:=by
       rw [Nat.div_lt_iff_lt_mul h0,hs]
       simp only [Seg.size] at hgt
       omega
      have:=rowsNC_get ks xs (o / ks.length) (o % ks.length) k hi hk
      have em:o / ks.length * ks.length+o % ks.length=o:=by rw [Nat.mul_comm]; exact Nat.div_add_mod o ks.length
      rw [em] at this
      exact this
structure GetOk (fl:List NC) (o n:Nat) (agg:Bool) (v:NV):Prop where
 all:agg=true→v.cells=(fl.drop o).take n∧v.cells.length=n∧SegOk v.segs∧∀ x,v≠.c x
 one:agg=false→∃ x,v=.c x∧fl[o]? = some x
theorem mkSub_spec {n:Nat} {l:List Seg} (h:SegOk l):(mkSub n l).cells=segFlat l∧SegOk (mkSub n l).segs∧∀ x,mkSub n l≠.c x:=by
 unfold mkSub
 split
 ·exact ⟨rfl,SegOk.mk trivial SegOk.none,fun x h=>by cases h⟩
 ·exact ⟨rfl,h,fun x h=>by cases h⟩
theorem GetOk.of_sub {fl:List NC} {o n:Nat} {l:List Seg} (hl:SegOk l) (h:segFlat l=(fl.drop o).take n) (hb:n=0∨o+n≤fl.length):GetOk fl o n true (mkSub n l):=by
 obtain ⟨h1,h2,h3⟩:=mkSub_spec (n:=n) hl
 refine ⟨fun _=>⟨h1.trans h,?_,h2,h3⟩,fun h=>by cases h⟩
 rw [h1,h]
 simp only [List.length_take,List.length_drop]
 omega
theorem GetOk.of_one {fl:List NC} {o n:Nat} {x:NC} (h:fl[o]? = some x):GetOk fl o n false (.c x):=⟨fun e=>Bool.noConfusion e,fun _=>⟨x,rfl,h⟩⟩
theorem GetOk.skip {a fl:List NC} {o n:Nat} {agg:Bool} {v:NV} (h:GetOk fl o n agg v):GetOk (a++fl) (a.length+o) n agg v:=by
 refine ⟨fun e=>?_,fun e=>?_⟩
 ·obtain ⟨h1,h2⟩:=h.all e
  exact ⟨by rw [dt_skip _ _ _ _ (by omega),Nat.add_sub_cancel_left]; exact h1,h2⟩
 ·obtain ⟨x,h1,h2⟩:=h.one e
  exact ⟨x,h1,by rw [List.getElem?_append_right (by omega),Nat.add_sub_cancel_left]; exact h2⟩
theorem segGet_spec {l:List Seg} {o n:Nat} {agg:Bool} {v:NV} (hl:SegOk l) (h:segGet l o n agg=some v):GetOk (segFlat l) o n agg v:=by
 unfold segGet at h
 cases agg with
 | true=>
   simp only at h
   split at h
   ·rename_i r hr
    cases h
    obtain ⟨h1,h2,h3⟩:=segSub_spec hl hr
    exact GetOk.of_sub h1 h2 h3
   ·cases h
 | false=>
   simp only at h
   split at h
   ·rename_i x hx
    cases h
    exact GetOk.of_one (segOne_spec hl hx)
   ·cases h
theorem mulQ_eq (i q:Nat):mulQ i q=i * q:=by
 unfold mulQ
 split
 ·simp
 ·rfl
theorem addJ_eq (j i:Nat):addJ j i=j+i:=by
 unfold addJ
 split
 ·simp
 ·rfl
theorem row_at {o w i q:Nat} (ho:o % q=0) (hw:w % q=0):addJ (o / q) (mulQ i (w / q)) * q=o+i * w:=by
 rw [addJ_eq,mulQ_eq,Nat.add_mul,Nat.mul_assoc]
 congr 1
 ·rw [Nat.mul_comm]; exact Nat.mul_div_cancel' (Nat.dvd_of_mod_eq_zero ho)
 ·congr 1
  rw [Nat.mul_comm]; exact Nat.mul_div_cancel' (Nat.dvd_of_mod_eq_zero hw)
theorem allT_sing {p:Prop} [Decidable p] (h:allT [decide p]):p:=by simpa [allT] using h
theorem segGetQ_spec:∀ {l:List Seg} {o w i c n:Nat} {agg:Bool} {cs:List Bool} {v:NV},SegOk l→segGetQ l o w i c n agg=some (cs,v)→allT cs→GetOk (segFlat l) (o+i * w+c) n agg v
 | [],_,_,_,_,_,_,_,_,_,h,_=>by simp [segGetQ] at h
 | s::l,o,w,i,c,n,agg,cs,v,hl,h,hc=>by
   simp only [segGetQ] at h
   have hlen:=Seg.flat_length hl.head
   split at h
   ·rename_i hle
    have:=GetOk.skip (a:=s.flat) (segGetQ_spec hl.tail h hc)
    rw [← segFlat_cons,hlen] at this
    have e:s.size+(o - s.size+i * w+c)=o+i * w+c:=by omega
    rw [e] at this
    exact this
   ·rename_i hgt
    cases s with
    | cells xs=>
      simp only at h
      split at h
      ·rename_i v' hv
       cases h
       exact segGet_spec hl hv
      ·cases h
    | ints k m xs=>
      have hs:xs.length=m:=hl.head
      simp only at h
      have er:addJ o (mulQ i w)=o+i * w:=by rw [addJ_eq,mulQ_eq]
      rw [er] at h
      split at h
      ·cases h
       have hle:=allT_sing hc
       rw [Nat.add_zero]
       refine GetOk.of_sub (SegOk.mk ?_ SegOk.none) ?_ (.inr ?_)
       ·show ((xs.drop (o+i * w)).take n).length=n
        simp; omega
       ·rw [segFlat_cons _ l,dt_take _ _ _ _ (by rw [hlen]; exact hle)]
        simp only [segFlat,Seg.flat,intsNC,List.map_take,List.map_drop]
       ·rw [segFlat_cons,List.length_append,hlen]; simp only [Seg.size]; omega
      ·cases h
       have hlt:=allT_sing hc
       rw [Nat.add_zero]
       refine GetOk.of_one ?_
       have ho:o+i * w<xs.length:=by omega
       rw [segFlat_cons,List.getElem?_append_left (by rw [hlen]; exact hlt)]
       simp only [Seg.flat,intsNC,List.getElem?_map,List.getElem?_eq_getElem ho,Option.map_some,List.getD_eq_getElem?_getD,Option.getD_some]
      ·cases h
    | recs ks m xs=>
      obtain ⟨hs,h0⟩:xs.length=m∧0<ks.length:=hl.head
      simp only at h
      split at h
      case isFalse=>cases h
      rename_i hal
      have er:=row_at (i:=i) hal.2.1 hal.2.2
      generalize addJ (o / ks.length) (mulQ i (w / ks.length))=row at h er
      cases agg with
      | true=>
        simp only at h
        split at h
        case h_2=>cases h
        split at h
        case isFalse=>cases h
        rename_i hn
        rw [Nat.add_zero,← er]
        have hrow:∀ q,row+q≤m→row * ks.length+q * ks.length≤(Seg.recs ks m xs).flat.length:=fun q hq=>by
         show _≤(rowsNC ks xs).length
         rw [rowsNC_length,← Nat.add_mul,hs]
         exact Nat.mul_le_mul_right _ hq
        split at h
        ·rename_i hnk
         cases h
         have hlt:=allT_sing hc
         have h1:=hrow 1 hlt
         rw [Nat.one_mul] at h1
         refine GetOk.of_sub (SegOk.mk trivial SegOk.none) ?_ (.inr ?_)
         ·rw [segFlat_cons _ l,hnk,dt_take _ _ _ _ h1]
          simp only [segFlat,Seg.flat]
          rw [rowsNC_row ks xs row (by omega)]
         ·rw [segFlat_cons,List.length_append,hnk]
          omega
        ·cases h
         have hle:=allT_sing hc
         have en:n / ks.length * ks.length=n:=by rw [Nat.mul_comm]; exact Nat.mul_div_cancel' (Nat.dvd_of_mod_eq_zero hn)
         have h1:=hrow _ hle
         rw [en] at h1
         refine GetOk.of_sub (SegOk.mk ⟨?_,h0⟩ SegOk.none) ?_ (.inr ?_)
         ·simp; omega
         ·rw [segFlat_cons _ l,dt_take _ _ _ _ h1]
          simp only [segFlat,Seg.flat]
          rw [← rowsNC_sub,en]
         ·rw [segFlat_cons,List.length_append]
          omega
      | false=>
        simp only at h
        split at h
        case h_2=>cases h
        rename_i k hk
        cases h
        have hlt:=allT_sing hc
        have hcc:c<ks.length:=(List.getElem?_eq_some_iff.1 hk).1
        refine GetOk.of_one ?_
        rw [← er,segFlat_cons,List.getElem?_append_left]
        ·exact rowsNC_get ks xs row c k (by omega) hk
        ·rw [hlen]
         simp only [Seg.size]
         have:(row+1) * ks.length≤m * ks.length:=Nat.mul_le_mul_right _ hlt
         rw [Nat.succ_mul] at this
         omega
theorem splice_skip {α:Type} (a b:List α) (o:Nat) (ys:List α) (h:a.length≤o):splice (a++b) o ys=a++splice b (o - a.length) ys:=by
 simp only [splice,List.take_append,List.drop_append]
 rw [List.take_of_length_le h,List.drop_of_length_le (by omega),List.nil_append,List.append_assoc,List.append_assoc,List.append_assoc]
 congr 3
 congr 1
 omega
theorem splice_split {α:Type} (a b:List α) (o:Nat) (p q:List α) (h:o+p.length=a.length):splice (a++b) o (p++q)=splice a o p++splice b 0 q:=by
 simp only [splice,List.take_append,List.drop_append,List.length_append]
 rw [List.drop_of_length_le (l:=a) (i:=o+(p.length+q.length)) (by omega),List.drop_of_length_le (l:=a) (i:=o+p.length) (by omega),show o - a.length=0 by omega,show o+(p.length+q.length) - a.length=0+q.length by omega]
 simp
theorem splice_left {α:Type} (a b:List α) (o:Nat) (p:List α) (h:o+p.length≤a.length):splice (a++b) o p=splice a o p++b:=by
 simp only [splice]
 rw [List.take_append_of_le_length (by omega),List.drop_append_of_le_length h]
 simp
theorem splice_nil {α:Type} (a:List α) (o:Nat):splice a o []=a:=by simp [splice]
theorem splice_len {α:Type} (xs:List α) (o:Nat) (ys:List α) (h:o+ys.length≤xs.length):(splice xs o ys).length=xs.length:=by
 simp only [splice,List.length_append,List.length_take,List.length_drop]; omega
theorem splice_all {α:Type} (xs ys:List α) (h:ys.length=xs.length):splice xs 0 ys=ys:=by simp [splice,h]
theorem splice_sing {α:Type} (xs:List α) (o:Nat) (y:α) (h:o<xs.length):splice xs o [y]=xs.set o y:=by
 simp only [splice,List.length_singleton]
 rw [List.set_eq_take_append_cons_drop,if_pos h]; simp
theorem spl_eq {α:Type} {xs:List α} {o n:Nat} {ys:List α} (h:ys.length=n) (hb:o+n≤xs.length):spl xs o n ys=splice xs o ys:=by
 unfold spl
 split
 ·rw [splice_sing _ _ _ (by simp at h; omega)]
 ·rw [splice,h]
theorem ints_splice (k:IntKind) (xs ys:List Int) (o:Nat):intsNC k (splice xs o ys)=splice (intsNC k xs) o (intsNC k ys):=by
 simp [intsNC,splice,List.map_take,List.map_drop]
theorem rows_splice (ks:List CK) (xs ys:List (List Sc)) (o:Nat):rowsNC ks (splice xs o ys)=splice (rowsNC ks xs) (o * ks.length) (rowsNC ks ys):=by
 simp only [splice,rowsNC_append,rowsNC_length,← Nat.add_mul,rowsNC_take,rowsNC_drop]
theorem asInts_spec {k:IntKind} {p:List Seg} {ys:List Int} (h:asInts k p=some ys):segFlat p=intsNC k ys:=by
 unfold asInts at h
 split at h
 ·exact toInts_nc h
 ·split at h
  ·rename_i e; cases h; subst e; rfl
  ·cases h
 ·cases h
theorem asRows_spec {ks:List CK} {q:Nat} {p:List Seg} {ys:List (List Sc)} (hp:SegOk p) (h:asRows ks q p=some ys):segFlat p=rowsNC ks ys∧ys.length=q:=by
 unfold asRows at h
 split at h
 ·exact toRows_nc h
 ·split at h
  ·rename_i e
   cases h
   obtain ⟨rfl,rfl⟩:=e
   exact ⟨rfl,hp.head.1⟩
  ·cases h
 ·cases h
theorem Seg.put_spec {s t:Seg} {o n:Nat} {p:List Seg} (hs:s.ok) (hp:SegOk p) (hn:(segFlat p).length=n) (hb:o+n≤s.size) (h:s.put o n p=some t):t.ok∧t.flat=splice s.flat o (segFlat p):=by
 cases s with
 | cells xs=>simp only [Seg.put,Option.some.injEq] at h; subst h; exact ⟨trivial,rfl⟩
 | ints k m xs=>
   have hs:xs.length=m:=hs
   simp only [Seg.put] at h
   split at h
   case h_2=>cases h
   rename_i ys hy
   have e:=asInts_spec hy
   have hyl:ys.length=n:=by rw [e] at hn; simpa [intsNC] using hn
   simp only [Seg.size] at hb
   split at h
   ·rename_i enm
    cases h
    have o0:o=0:=by omega
    subst o0
    refine ⟨by show ys.length=m; omega,?_⟩
    rw [splice_all _ _ (by rw [hn,Seg.flat,intsNC,List.length_map]; omega),e]; rfl
   ·cases h
    rw [spl_eq hyl (by omega)]
    refine ⟨?_,?_⟩
    ·show (splice xs o ys).length=m
     rw [splice_len _ _ _ (by omega)]; exact hs
    ·simp only [Seg.flat]
     rw [ints_splice,e]
 | recs ks m xs=>
   obtain ⟨hs,h0⟩:xs.length=m∧0<ks.length:=hs
   simp only [Seg.put] at h
   simp only [Seg.size] at hb
   split at h
   ·rename_i hal
    split at h
    case h_2=>cases h
    rename_i ys hy
    obtain ⟨e,hyl⟩:=asRows_spec hp hy
    have en:n / ks.length * ks.length=n:=by rw [Nat.mul_comm]; exact Nat.mul_div_cancel' (Nat.dvd_of_mod_eq_zero hal.2.2)
    have eo:o / ks.length * ks.length=o:=by rw [Nat.mul_comm]; exact Nat.mul_div_cancel' (Nat.dvd_of_mod_eq_zero hal.2.1)
    have hle:o / ks.length+n / ks.length≤m:=by
     have:(o / ks.length+n / ks.length) * ks.length≤m * ks.length:=by rw [Nat.add_mul,eo,en]; exact hb
     exact Nat.le_of_mul_le_mul_right this h0
    split at h
    ·rename_i enm
     cases h
     have o0:o=0:=by
      have:n=m * ks.length:=by rw [← enm]; exact en.symm
      omega
     subst o0
     refine ⟨⟨by omega,h0⟩,?_⟩
     rw [splice_all _ _ (by rw [hn,Seg.flat,rowsNC_length,hs,← enm,en]),e]; rfl
    ·cases h
     rw [spl_eq hyl (by omega)]
     refine ⟨⟨?_,h0⟩,?_⟩
     ·rw [splice_len _ _ _ (by omega)]; exact hs
     ·simp only [Seg.flat]
      rw [rows_splice,eo,e]
   ·split at h
    case h_2=>cases h
    rename_i y
    split at h
    case h_2=>cases h
    rename_i k hk
    split at h
    case h_2=>cases h
    rename_i z hz
    cases h
    have n1:n=1:=by rw [← hn]; rfl
    have hlt:o<m * ks.length:=by omega
    have hi:o / ks.length<xs.length:=by rw [Nat.div_lt_iff_lt_mul h0,hs]; exact hlt
    refine ⟨⟨by simpa using hs,h0⟩,?_⟩
    simp only [Seg.flat]
    have em:o / ks.length * ks.length+o % ks.length=o:=by rw [Nat.mul_comm]; exact Nat.div_add_mod o ks.length
    rw [rowsNC_setOne ks xs (o / ks.length) (o % ks.length) k z hi hk,em]
    have:segFlat [Seg.cells [y]]=[y]:=rfl
    rw [this,splice_sing _ _ _ (by rw [rowsNC_length,hs]; exact hlt),toSc_nc hz]
theorem segPut_spec:∀ {l l' : List Seg} {o n:Nat} {v:List Seg},SegOk l→SegOk v→(segFlat v).length=n→o+n≤(segFlat l).length→segPut l o n v=some l'→SegOk l'∧segFlat l'=splice (segFlat l) o (segFlat v)
 | [],l',o,n,v,hl,hv,hn,hb,h=>by
   simp only [segPut] at h
   split at h
   ·rename_i e
    cases h
    have:segFlat v=[]:=List.eq_nil_of_length_eq_zero (by omega)
    exact ⟨SegOk.none,by rw [this,splice_nil]⟩
   ·cases h
 | s::l,l',o,n,v,hl,hv,hn,hb,h=>by
   have hlen:=Seg.flat_length hl.head
   rw [segFlat_cons,List.length_append,hlen] at hb
   simp only [segPut] at h
   split at h
   ·rename_i e
    cases h
    have:segFlat v=[]:=List.eq_nil_of_length_eq_zero (by omega)
    exact ⟨hl,by rw [this,splice_nil]⟩
   ·rename_i hn0
    split at h
    ·rename_i hle
     split at h
     case h_2=>cases h
     rename_i r hr
     cases h
     obtain ⟨h1,h2⟩:=segPut_spec hl.tail hv hn (by omega) hr
     refine ⟨SegOk.mk hl.head h1,?_⟩
     rw [segFlat_cons,segFlat_cons,splice_skip _ _ _ _ (by omega),hlen,h2]
    ·rename_i hgt
     split at h
     case h_2=>cases h
     rename_i p q hp hq
     split at h
     case h_2=>cases h
     rename_i a r ha hr
     cases h
     obtain ⟨p1,p2,-⟩:=segSub_spec hv hp
     obtain ⟨q1,q2,-⟩:=segSub_spec hv hq
     have pl:(segFlat p).length=min n (s.size - o):=by rw [p2]; simp; omega
     have ql:(segFlat q).length=n - min n (s.size - o):=by rw [q2]; simp; omega
     have ev:segFlat v=segFlat p++segFlat q:=by
      rw [p2,q2,List.drop_zero,List.take_of_length_le (l:=(segFlat v).drop _) (by simp; omega),List.take_append_drop]
     obtain ⟨a1,a2⟩:=Seg.put_spec hl.head p1 pl (by omega) ha
     obtain ⟨r1,r2⟩:=segPut_spec hl.tail q1 ql (by omega) hr
     refine ⟨SegOk.mk a1 r1,?_⟩
     rw [segFlat_cons,segFlat_cons,a2,r2,ev]
     by_cases hc:n≤s.size - o
     ·have hq0:segFlat q=[]:=List.eq_nil_of_length_eq_zero (by omega)
      rw [hq0,splice_nil,List.append_nil,splice_left _ _ _ _ (by omega)]
     ·rw [splice_split _ _ _ _ _ (by omega)]
theorem segPutQ_spec:∀ {l l' : List Seg} {o w i c:Nat} {v:NV} {cs:List Bool},SegOk l→SegOk v.segs→segPutQ l o w i c v=some (cs,l')→allT cs→
  SegOk l'∧o+i * w+c+v.size≤(segFlat l).length∧segFlat l'=splice (segFlat l) (o+i * w+c) v.cells
 | [],_,_,_,_,_,_,_,_,_,h,_=>by simp [segPutQ] at h
 | s::l,l',o,w,i,c,v,cs,hl,hv,h,hc=>by
   simp only [segPutQ] at h
   have hlen:=Seg.flat_length hl.head
   have hvl:v.cells.length=v.size:=by
    rw [← NV.segs_flat,segFlat_length hv]
    cases v <;> rfl
   split at h
   ·rename_i hle
    split at h
    case h_2=>cases h
    rename_i r hr
    cases h
    obtain ⟨h1,h2,h3⟩:=segPutQ_spec hl.tail hv hr hc
    refine ⟨SegOk.mk hl.head h1,?_,?_⟩
    ·rw [segFlat_cons,List.length_append,hlen]; omega
    ·rw [segFlat_cons,segFlat_cons,splice_skip _ _ _ _ (by omega),hlen,h3]
     congr 2
     omega
   ·rename_i hgt
    cases s with
    | cells xs=>
      simp only at h
      split at h
      case isFalse=>cases h
      rename_i hle
      split at h
      case h_2=>cases h
      rename_i r hr
      cases h
      have hb:o+i * w+c+v.size≤(segFlat (.cells xs::l)).length:=by rw [segFlat_length hl]; exact hle
      obtain ⟨h1,h2⟩:=segPut_spec hl hv (by rw [NV.segs_flat]; exact hvl) hb hr
      refine ⟨h1,hb,?_⟩
      rw [h2,NV.segs_flat]
    | ints k m xs=>
      have hs:xs.length=m:=hl.head
      simp only at h
      have er:addJ o (mulQ i w)=o+i * w:=by rw [addJ_eq,mulQ_eq]
      rw [er] at h
      generalize o+i * w=row at h er ⊢
      have gen:∀ {ys:List Int},asInts k v.segs=some ys→(if v.size=m then some ([decide (row=0)],Seg.ints k m ys::l) else some ([decide (row+v.size≤m)],Seg.ints k m (spl xs row v.size ys)::l))=some (cs,l')→
        SegOk l'∧row+0+v.size≤(segFlat (.ints k m xs::l)).length∧segFlat l'=splice (segFlat (.ints k m xs::l)) (row+0) v.cells:=by
       intro ys hy h
       have e:=asInts_spec hy
       rw [NV.segs_flat] at e
       have hyl:ys.length=v.size:=by rw [← hvl,e]; simp [intsNC]
       rw [Nat.add_zero,segFlat_cons]
       split at h
       ·rename_i em
        cases h
        have r0:=allT_sing hc
        subst r0
        refine ⟨SegOk.mk (by show ys.length=m; omega) hl.tail,by rw [List.length_append,hlen]; simp only [Seg.size]; omega,?_⟩
        rw [splice_left _ _ _ _ (by rw [hvl,hlen]; simp only [Seg.size]; omega),splice_all _ _ (by rw [hvl,hlen]; simp only [Seg.size]; omega),segFlat_cons,e]
        rfl
       ·cases h
        have hle:=allT_sing hc
        rw [spl_eq hyl (by omega)]
        refine ⟨SegOk.mk (by show (splice xs row ys).length=m; rw [splice_len _ _ _ (by omega)]; exact hs) hl.tail,by rw [List.length_append,hlen]; simp only [Seg.size]; omega,?_⟩
        rw [splice_left _ _ _ _ (by rw [hvl,hlen]; simp only [Seg.size]; omega),segFlat_cons,e]
        simp only [Seg.flat]
        rw [ints_splice]
      split at h
      case h_2=>cases h
      split at h
      ·rename_i k' z
       split at h
       case isFalse=>cases h
       rename_i ek
       cases h
       subst ek
       have hlt:=allT_sing hc
       rw [Nat.add_zero,segFlat_cons,segFlat_cons]
       refine ⟨SegOk.mk (by show (xs.set row z).length=m; simpa using hs) hl.tail,by rw [List.length_append,hlen]; simp only [Seg.size,NV.size]; omega,?_⟩
       simp only [NV.cells]
       rw [splice_left _ _ _ _ (by rw [hlen]; simp only [Seg.size,List.length_singleton]; omega),splice_sing _ _ _ (by rw [hlen]; exact hlt)]
       simp only [Seg.flat,intsNC,List.map_set]
      ·cases h
      ·split at h
       case h_2=>cases h
       rename_i ys hy
       exact gen hy h
    | recs ks m xs=>
      obtain ⟨hs,h0⟩:xs.length=m∧0<ks.length:=hl.head
      simp only at h
      split at h
      case isFalse=>cases h
      rename_i hal
      have er:=row_at (i:=i) hal.2.1 hal.2.2
      generalize addJ (o / ks.length) (mulQ i (w / ks.length))=row at h er
      rw [← er]
      split at h
      ·rename_i y
       split at h
       case h_2=>cases h
       rename_i k hk
       split at h
       case h_2=>cases h
       rename_i z hz
       cases h
       have hlt:=allT_sing hc
       have hcc:c<ks.length:=(List.getElem?_eq_some_iff.1 hk).1
       have hb:row * ks.length+c<m * ks.length:=by
        have:(row+1) * ks.length≤m * ks.length:=Nat.mul_le_mul_right _ hlt
        rw [Nat.succ_mul] at this
        omega
       rw [segFlat_cons,segFlat_cons]
       refine ⟨SegOk.mk ⟨by simpa using hs,h0⟩ hl.tail,by rw [List.length_append,hlen]; simp only [Seg.size,NV.size]; omega,?_⟩
       simp only [NV.cells]
       rw [splice_left _ _ _ _ (by rw [hlen]; simp only [Seg.size,List.length_singleton]; omega),splice_sing _ _ _ (by rw [hlen]; exact hb)]
       simp only [Seg.flat]
       rw [rowsNC_setOne ks xs row c k z (by omega) hk,toSc_nc hz]
      ·split at h
       case h_2=>cases h
       split at h
       case isFalse=>cases h
       rename_i hvm
       split at h
       case h_2=>cases h
       rename_i ys hy
       obtain ⟨e,hyl⟩:=asRows_spec hv hy
       rw [NV.segs_flat] at e
       have en:v.size / ks.length * ks.length=v.size:=by rw [Nat.mul_comm]; exact Nat.mul_div_cancel' (Nat.dvd_of_mod_eq_zero hvm)
       rw [Nat.add_zero,segFlat_cons]
       split at h
       ·rename_i em
        cases h
        have r0:=allT_sing hc
        subst r0
        have hsz:v.size=m * ks.length:=by rw [← en,em]
        rw [Nat.zero_mul]
        refine ⟨SegOk.mk ⟨by omega,h0⟩ hl.tail,by rw [List.length_append,hlen]; simp only [Seg.size]; omega,?_⟩
        rw [splice_left _ _ _ _ (by rw [hvl,hlen]; simp only [Seg.size]; omega),splice_all _ _ (by rw [hvl,hlen]; simp only [Seg.size]; omega),segFlat_cons,e]
        rfl
       ·cases h
        have hle:=allT_sing hc
        have hb:row * ks.length+v.size≤m * ks.length:=by
         rw [← en,← Nat.add_mul]
         exact Nat.mul_le_mul_right _ hle
        rw [spl_eq hyl (by omega)]
        refine ⟨SegOk.mk ⟨by rw [splice_len _ _ _ (by omega)]; exact hs,h0⟩ hl.tail,by rw [List.length_append,hlen]; simp only [Seg.size]; omega,?_⟩
        rw [splice_left _ _ _ _ (by rw [hvl,hlen]; simp only [Seg.size]; omega),segFlat_cons,e]
        simp only [Seg.flat]
        rw [rows_splice]
theorem segAs_spec:∀ {sh:List Shp} {z:List NC} {l:List Seg},segAs sh z=some l→SegOk l∧segFlat l=z
 | [],[],l,h=>by simp [segAs] at h; subst h; exact ⟨SegOk.none,rfl⟩
 | [],_::_,l,h=>by simp [segAs] at h
 | .c n::sh,z,l,h=>by
   simp only [segAs] at h
   split at h
   case isFalse=>cases h
   split at h
   case h_2=>cases h
   rename_i r hr
   cases h
   obtain ⟨h1,h2⟩:=segAs_spec hr
   refine ⟨SegOk.mk trivial h1,?_⟩
   rw [segFlat_cons,h2]
   exact List.take_append_drop n z
 | .r ks n::sh,z,l,h=>by
   simp only [segAs] at h
   split at h
   ·rename_i k
    split at h
    case h_2=>cases h
    rename_i xs r hx hr
    split at h
    case isFalse=>cases h
    rename_i hl
    cases h
    obtain ⟨h1,h2⟩:=segAs_spec hr
    refine ⟨SegOk.mk hl h1,?_⟩
    rw [segFlat_cons,h2]
    simp only [Seg.flat]
    rw [← toInts_nc hx]
    exact List.take_append_drop n z
   ·split at h
    case isFalse=>cases h
    rename_i h0
    split at h
    case h_2=>cases h
    rename_i xs r hx hr
    cases h
    obtain ⟨h1,h2⟩:=segAs_spec hr
    obtain ⟨h3,h4⟩:=toRows_nc hx
    refine ⟨SegOk.mk ⟨h4,h0⟩ h1,?_⟩
    rw [segFlat_cons,h2]
    simp only [Seg.flat]
    rw [← h3]
    exact List.take_append_drop _ z
theorem eqV_spec {a b:Value} (h:eqV a b=true):a=b:=by
 unfold eqV at h
 split at h
 ·simp only [Bool.and_eq_true,beq_iff_eq] at h; rw [h.1,h.2]
 ·rw [beq_iff_eq] at h; rw [h]
 ·cases h
theorem eqPre_spec:∀ {r z z' : List Value},eqPre r z=some z'→z=r++z'
 | [],z,z',h=>by simp only [eqPre,Option.some.injEq] at h; subst h; rfl
 | _::_,[],z',h=>by simp [eqPre] at h
 | a::r,b::z,z',h=>by
   simp only [eqPre] at h
   split at h
   ·rename_i he
    rw [eqV_spec he,eqPre_spec h]; rfl
   ·cases h
theorem eqRep_spec {row:List Value}:∀ {n:Nat} {z z' : List Value},eqRep row n z=some z'→z=(List.replicate n row).flatten++z'
 | 0,z,z',h=>by simp only [eqRep,Option.some.injEq] at h; subst h; rfl
 | n+1,z,z',h=>by
   simp only [eqRep] at h
   split at h
   ·rename_i z1 h1
    rw [eqPre_spec h1,eqRep_spec h,List.replicate_succ,List.flatten_cons,List.append_assoc]
   ·cases h
theorem repSeg_spec {Γ:Env} {ks:List CK} {n:Nat} {row:List Sc} (h0:0<ks.length):(repSeg ks n row).ok∧R2 (CR Γ) (repSeg ks n row).flat (List.replicate n (rowVals ks row)).flatten:=by
 unfold repSeg
 split
 ·rename_i k x
  refine ⟨by simp [Seg.ok],?_⟩
  have:(List.replicate n (rowVals [CK.i k] [Sc.i x])).flatten=(List.replicate n x).map (Value.int k):=by
   induction n with
   | zero=>rfl
   | succ n ih=>rw [List.replicate_succ,List.flatten_cons,ih,List.replicate_succ,List.map_cons]; rfl
  rw [this]
  exact R2.self_map _ _ _ fun _=>⟨rfl,rfl⟩
 ·refine ⟨⟨by simp,h0⟩,?_⟩
  simp only [Seg.flat]
  induction n with
  | zero=>exact .nil
  | succ n ih=>
    have e:rowsNC ks (List.replicate (n+1) row)=rowCells ks row++rowsNC ks (List.replicate n row):=by rw [List.replicate_succ]; simp [rowsNC]
    rw [e,List.replicate_succ,List.flatten_cons]
    exact (rowCells_rel Γ ks row).append ih
theorem zsegs_spec {Γ:Env}:∀ {sh:List Shp} {z:List Value} {l:List Seg},zsegs sh z=some l→SegOk l∧R2 (CR Γ) (segFlat l) z
 | [],[],l,h=>by simp [zsegs] at h; subst h; exact ⟨SegOk.none,.nil⟩
 | [],_::_,l,h=>by simp [zsegs] at h
 | .c n::sh,z,l,h=>by
   simp only [zsegs] at h
   split at h
   case h_2=>cases h
   rename_i xs r hx hr
   cases h
   obtain ⟨h1,h2⟩:=zsegs_spec hr
   refine ⟨SegOk.mk trivial h1,?_⟩
   rw [segFlat_cons,← List.take_append_drop n z]
   exact (scals_rel hx).append h2
 | .r ks n::sh,z,l,h=>by
   simp only [zsegs] at h
   split at h
   case isFalse=>cases h
   rename_i h0
   split at h
   case h_2=>cases h
   rename_i r0 hr0
   split at h
   case h_2=>cases h
   rename_i row hrow
   split at h
   case h_2=>cases h
   rename_i z' hz
   split at h
   case h_2=>cases h
   rename_i r hr
   cases h
   obtain ⟨h1,h2⟩:=zsegs_spec hr
   obtain ⟨h3,h4⟩:=repSeg_spec (Γ:=Γ) (n:=n) (row:=row) h0
   refine ⟨SegOk.mk h3 h1,?_⟩
   rw [segFlat_cons,eqRep_spec hz]
   exact h4.append h2
theorem zeroSegs_spec {P:Program} {t:TypeId} {l:List Seg} (h:zeroSegs P t=some l):∃ i v,P.info? t=some i∧i.zero=some v∧SegOk l∧∀ Γ,R2 (CR Γ) (segFlat l) v.cells.toList:=by
 unfold zeroSegs at h
 split at h
 case h_2=>cases h
 rename_i i hi
 split at h
 case h_2=>cases h
 rename_i v hv
 split at h
 case h_2=>cases h
 rename_i l' hl
 split at h
 case isFalse=>cases h
 cases h
 exact ⟨i,v,hi,hv,(zsegs_spec (Γ:=⟨fun _=>none,fun _=>none,fun _=>false,fun _=>none⟩) hl).1,fun Γ=>(zsegs_spec hl).2⟩
theorem segEls_spec:∀ {l:List Seg} {o w i len:Nat} {cs:List Bool} {ys:Els},SegOk l→segEls l o w i len=some (cs,ys)→allT cs→
  (∃ k xs,ys=.ints k xs∧w=1∧xs.length=len∧((segFlat l).drop (o+i * w)).take (len * w)=intsNC k xs)∨(∃ ks xs,ys=.recs ks xs∧w=ks.length∧0<ks.length∧xs.length=len∧((segFlat l).drop (o+i * w)).take (len * w)=rowsNC ks xs)
 | [],_,_,_,_,_,_,_,h,_=>by simp [segEls] at h
 | s::l,o,w,i,len,cs,ys,hl,h,hc=>by
   simp only [segEls] at h
   have hlen:=Seg.flat_length hl.head
   split at h
   ·rename_i hle
    have:=segEls_spec hl.tail h hc
    rw [segFlat_cons,dt_skip _ _ _ _ (by omega),hlen,show o+i * w - s.size=o - s.size+i * w by omega]
    exact this
   ·rename_i hgt
    cases s with
    | cells xs=>cases h
    | ints k m xs=>
      have hs:xs.length=m:=hl.head
      simp only at h
      split at h
      case isFalse=>cases h
      rename_i hw
      cases h
      subst hw
      have hle:=allT_sing hc
      rw [addJ_eq] at hle ⊢
      left
      refine ⟨k,_,rfl,rfl,by simp; omega,?_⟩
      rw [Nat.mul_one,Nat.mul_one,segFlat_cons,dt_take _ _ _ _ (by rw [hlen]; exact hle)]
      simp only [Seg.flat,intsNC,List.map_take,List.map_drop]
    | recs ks m xs=>
      obtain ⟨hs,h0⟩:xs.length=m∧0<ks.length:=hl.head
      simp only at h
      split at h
      case isFalse=>cases h
      rename_i hal
      cases h
      have hle:=allT_sing hc
      obtain ⟨-,ho,rfl⟩:=hal
      rw [addJ_eq] at hle ⊢
      right
      refine ⟨ks,_,rfl,rfl,h0,by simp; omega,?_⟩
      have eo:o / ks.length * ks.length=o:=by rw [Nat.mul_comm]; exact Nat.mul_div_cancel' (Nat.dvd_of_mod_eq_zero ho)
      have ea:o+i * ks.length=(o / ks.length+i) * ks.length:=by rw [Nat.add_mul,eo]
      rw [ea,segFlat_cons,dt_take]
      ·simp only [Seg.flat]
       rw [rowsNC_sub]
      ·rw [hlen,← Nat.add_mul]
       exact Nat.mul_le_mul_right _ hle
theorem segFlat_consC (x:NC) (l:List Seg):segFlat (consC x l)=x::segFlat l:=by
 unfold consC
 split
 ·rw [segFlat_cons,segFlat_cons]; rfl
 ·rw [segFlat_cons]; rfl
theorem segOk_consC {x:NC} {l:List Seg}:SegOk (consC x l)↔SegOk l:=by
 unfold consC
 split
 ·exact ⟨fun h=>SegOk.mk trivial h.tail,fun h=>SegOk.mk trivial h.tail⟩
 ·exact ⟨fun h=>h.tail,fun h=>SegOk.mk trivial h⟩
theorem segSize_consC (x:NC) (l:List Seg):segSize (consC x l)=1+segSize l:=by
 unfold consC
 split
 ·simp [segSize,Seg.size]; omega
 ·simp [segSize,Seg.size]
theorem rowSegs_shift:∀ (sch:List Part) (a:FC) (row:List FC) (j:Nat),rowSegs sch (a::row) (j+1)=rowSegs sch row j
 | [],_,_,_=>rfl
 | p::sch,a,row,j=>by
   simp only [rowSegs,rowSegs_shift sch a row (j+1)]
   simp
theorem rowSegs_size:∀ (sch:List Part) (row:List FC) (j:Nat),segSize (rowSegs sch row j)=schSize sch
 | [],_,_=>rfl
 | p::sch,row,j=>by
   have ih:=rowSegs_size sch row (j+1)
   cases p <;> simp only [rowSegs,Part.put,segSize_consC,schSize,Part.size,ih] <;> simp [segSize,Seg.size,ih]
theorem rowSegs_len {sch:List Part} {row:List FC} {j:Nat} (h:SegOk (rowSegs sch row j)):(segFlat (rowSegs sch row j)).length=schSize sch:=by
 rw [segFlat_length h,rowSegs_size]
theorem tabNC_cons (sch:List Part) (r:List FC) (xs:List (List FC)):tabNC sch (r::xs)=segFlat (rowSegs sch r 0)++tabNC sch xs:=by simp [tabNC]
theorem tabNC_append (sch:List Part) (xs ys:List (List FC)):tabNC sch (xs++ys)=tabNC sch xs++tabNC sch ys:=by simp [tabNC]
theorem TabOk.cons {sch:List Part} {r:List FC} {xs:List (List FC)} (h:TabOk sch (r::xs)):SegOk (rowSegs sch r 0)∧TabOk sch xs:=⟨h r (by simp),fun x hx=>h x (by simp [hx])⟩
theorem TabOk.append {sch:List Part} {xs ys:List (List FC)} (h:TabOk sch xs) (k:TabOk sch ys):TabOk sch (xs++ys):=fun x hx=>by
 rcases List.mem_append.1 hx with hx | hx
 ·exact h x hx
 ·exact k x hx
theorem TabOk.take {sch:List Part} {xs:List (List FC)} (h:TabOk sch xs) (n:Nat):TabOk sch (xs.take n):=fun x hx=>h x (List.mem_of_mem_take hx)
theorem TabOk.drop {sch:List Part} {xs:List (List FC)} (h:TabOk sch xs) (n:Nat):TabOk sch (xs.drop n):=fun x hx=>h x (List.mem_of_mem_drop hx)
theorem tabNC_length {sch:List Part}:∀ {xs:List (List FC)},TabOk sch xs→(tabNC sch xs).length=xs.length * schSize sch
 | [],_=>by simp [tabNC]
 | r::xs,h=>by
   obtain ⟨h1,h2⟩:=h.cons
   rw [tabNC_cons,List.length_append,rowSegs_len h1,tabNC_length h2,List.length_cons,Nat.succ_mul]; omega
theorem tabNC_drop {sch:List Part}:∀ {xs:List (List FC)},TabOk sch xs→∀ i,(tabNC sch xs).drop (i * schSize sch)=tabNC sch (xs.drop i)
 | [],_,i=>by simp [tabNC]
 | r::xs,h,0=>by simp
 | r::xs,h,i+1=>by
   obtain ⟨h1,h2⟩:=h.cons
   rw [tabNC_cons,List.drop_succ_cons,← tabNC_drop h2 i,Nat.succ_mul,List.drop_append,rowSegs_len h1,List.drop_of_length_le (by rw [rowSegs_len h1]; omega),List.nil_append]
   congr 1; omega
theorem tabNC_take {sch:List Part}:∀ {xs:List (List FC)},TabOk sch xs→∀ i,(tabNC sch xs).take (i * schSize sch)=tabNC sch (xs.take i)
 | [],_,i=>by simp [tabNC]
 | r::xs,h,0=>by simp [tabNC]
 | r::xs,h,i+1=>by
   obtain ⟨h1,h2⟩:=h.cons
   rw [tabNC_cons,List.take_succ_cons,tabNC_cons,← tabNC_take h2 i,Nat.succ_mul,List.take_append,rowSegs_len h1,List.take_of_length_le (by rw [rowSegs_len h1]; omega)]
   congr 2; omega
theorem TabOk.row {sch:List Part} {xs:List (List FC)} (h:TabOk sch xs) {i:Nat} (hi:i<xs.length):SegOk (rowSegs sch (xs.getD i []) 0):=h _ (by simp [List.getD_eq_getElem?_getD,hi])
theorem GetOk.row {sch:List Part} {xs:List (List FC)} (h:TabOk sch xs) {i c n:Nat} {agg:Bool} {v:NV} (hi:i<xs.length) (hg:GetOk (segFlat (rowSegs sch (xs.getD i []) 0)) c n agg v):GetOk (tabNC sch xs) (i * schSize sch+c) n agg v:=by
 have e:tabNC sch xs=tabNC sch (xs.take i)++(segFlat (rowSegs sch (xs.getD i []) 0)++tabNC sch (xs.drop (i+1))):=by
  rw [← tabNC_cons,← tabNC_append]
  congr 1
  conv=>lhs; rw [← List.take_append_drop i xs]
  rw [List.drop_eq_getElem_cons hi]; simp [List.getD_eq_getElem?_getD,hi]
 have hl:(tabNC sch (xs.take i)).length=i * schSize sch:=by rw [tabNC_length (h.take i),List.length_take,Nat.min_eq_left (by omega)]
 rw [e,← hl]
 refine GetOk.skip ⟨fun ha=>?_,fun ha=>?_⟩
 ·obtain ⟨h1,h2,h3,h4⟩:=hg.all ha
  refine ⟨?_,h2,h3,h4⟩
  have hb:((segFlat (rowSegs sch (xs.getD i []) 0)).drop c).length ≥ n:=by
   have:=congrArg List.length h1
   rw [h2,List.length_take] at this
   omega
  rw [List.length_drop] at hb
  rw [h1]
  by_cases hn:n=0
  ·subst hn; simp
  ·rw [dt_take _ _ _ _ (by omega)]
 ·obtain ⟨x,h1,h2⟩:=hg.one ha
  exact ⟨x,h1,by rw [List.getElem?_append_left (List.getElem?_eq_some_iff.1 h2).1]; exact h2⟩
theorem ncFC_rel {Γ:Env} {p:Part} {x:NC} {a:FC} {v:Value} (h:ncFC p x=some a) (r:CR Γ x v):(∀ l,∃ y,p.put a l=consC y l∧FR Γ y v):=by
 unfold ncFC at h
 split at h
 ·split at h
  ·rename_i e; cases h; subst e; exact fun l=>⟨_,rfl,r⟩
  ·cases h
 ·cases h; exact fun l=>⟨_,rfl,r⟩
 ·cases h; exact fun l=>⟨_,rfl,r⟩
 ·split at h
  ·rename_i e; cases h; subst e; exact fun l=>⟨_,rfl,r⟩
  ·cases h
 ·cases h
  refine fun l=>⟨_,rfl,?_,r.2⟩
  have h1:v=.slice none 0 0:=r.1
  exact ⟨none,0,h1,Nat.le_refl _,.inl rfl⟩
 ·split at h
  ·rename_i e; cases h; subst e; exact fun l=>⟨_,rfl,r⟩
  ·cases h
 ·split at h
  ·rename_i hk
   cases h
   refine fun l=>⟨_,rfl,?_,r.2⟩
   have h1:v=.slice none 0 0:=r.1
   exact ⟨none,0,h1,Nat.le_refl _,hk,.inl rfl⟩
  ·cases h
 ·cases h
theorem intsNC_fr {Γ:Env} {k:IntKind} {xs:List Int} {vs:List Value} (r:R2 (CR Γ) (intsNC k xs) vs):R2 (FR Γ) (intsNC k xs) vs:=by
 rw [intsNC_vals r]
 exact R2.self_map _ _ _ fun _=>⟨rfl,rfl⟩
theorem ck_fr (Γ:Env) (k:CK) (s:Sc):FR Γ (ckNC k s) (ckVal k s):=by cases k <;> exact ⟨rfl,rfl⟩
theorem rowCells_fr (Γ:Env) (ks:List CK) (row:List Sc):R2 (FR Γ) (rowCells ks row) (rowVals ks row):=by
 unfold rowCells rowVals
 generalize 0=j
 induction ks generalizing j with
 | nil=>exact .nil
 | cons k ks ih=>exact .cons (ck_fr Γ k _) (ih (j+1))
theorem rowsNC_fr {Γ:Env} {ks:List CK} {xs:List (List Sc)} {vs:List Value} (r:R2 (CR Γ) (rowsNC ks xs) vs):R2 (FR Γ) (rowsNC ks xs) vs:=by
 rw [rowsNC_vals r]
 clear r vs
 induction xs with
 | nil=>exact .nil
 | cons a xs ih=>
   have e1:rowsNC ks (a::xs)=rowCells ks a++rowsNC ks xs:=by simp [rowsNC]
   have e2:rowsV ks (a::xs)=rowVals ks a++rowsV ks xs:=by simp [rowsV]
   rw [e1,e2]
   exact (rowCells_fr Γ ks a).append ih
theorem R2.app_split {α β:Type} {R:α→β→Prop} {a b:List α} {m:List β} (h:R2 R (a++b) m):∃ m1 m2,m=m1++m2∧R2 R a m1∧R2 R b m2:=by
 induction a generalizing m with
 | nil=>exact ⟨[],m,rfl,.nil,h⟩
 | cons x a ih=>
   cases h with
   | cons r h=>
     obtain ⟨m1,m2,h1,h2,h3⟩:=ih h
     exact ⟨_::m1,m2,by rw [h1]; rfl,.cons r h2,h3⟩
theorem fcRow_sound {Γ:Env}:∀ {sch:List Part} {xs:List NC} {l:List Seg} {row:List FC} {vs:List Value},fcRow sch xs l=some row→SegOk l→R2 (CR Γ) (xs++segFlat l) vs→
  R2 (FR Γ) (segFlat (rowSegs sch row 0)) vs∧SegOk (rowSegs sch row 0):=by
 intro sch
 induction sch with
 | nil=>
   intro xs l row vs h hl hr
   cases xs with
   | cons x xs=>cases h
   | nil=>
     cases l with
     | cons s l=>cases h
     | nil=>
       cases h
       cases hr
       exact ⟨.nil,SegOk.none⟩
 | cons p sch ih=>
   intro xs l row vs h hl hr
   have step:∀ {a:FC} {r:List FC} {x:NC} {ys:List NC} {rest:List Seg} {ws:List Value},ncFC p x=some a→fcRow sch ys rest=some r→SegOk rest→R2 (CR Γ) (x::(ys++segFlat rest)) ws→
     R2 (FR Γ) (segFlat (rowSegs (p::sch) (a::r) 0)) ws∧SegOk (rowSegs (p::sch) (a::r) 0):=by
    intro a r x ys rest ws h1 h2 h3 h4
    cases h4 with
    | cons h5 h6=>
      obtain ⟨i1,i2⟩:=ih h2 h3 h6
      obtain ⟨y,hy,hf⟩:=ncFC_rel h1 h5 (rowSegs sch r 0)
      have e:rowSegs (p::sch) (a::r) 0=consC y (rowSegs sch r 0):=by
       simp only [rowSegs,rowSegs_shift,List.getD_cons_zero]
       exact hy
      rw [e,segFlat_consC]
      exact ⟨.cons hf i1,segOk_consC.2 i2⟩
   unfold fcRow at h
   split at h
   ·exact absurd (by assumption:p::sch=[]) (by simp)
   ·exact absurd (by assumption:p::sch=[]) (by simp)
   ·rename_i k n sch' k' n' zs rest e
    cases e
    split at h
    case isFalse=>cases h
    rename_i hk
    obtain ⟨rfl,rfl⟩:=hk
    split at h
    case h_2=>cases h
    rename_i r hr'
    cases h
    rw [List.nil_append,segFlat_cons] at hr
    obtain ⟨m1,m2,rfl,h1,h2⟩:=hr.app_split
    obtain ⟨i1,i2⟩:=ih hr' hl.tail h2
    have e:rowSegs (.ai k n::sch) (.is zs::r) 0=.ints k n zs::rowSegs sch r 0:=by simp only [rowSegs,rowSegs_shift,List.getD_cons_zero]; rfl
    rw [e,segFlat_cons]
    exact ⟨(intsNC_fr h1).append i1,SegOk.mk hl.head i2⟩
   ·rename_i ks n sch' ks' n' zs rest e
    cases e
    split at h
    case isFalse=>cases h
    rename_i hk
    obtain ⟨rfl,rfl⟩:=hk
    split at h
    case h_2=>cases h
    rename_i r hr'
    cases h
    rw [List.nil_append,segFlat_cons] at hr
    obtain ⟨m1,m2,rfl,h1,h2⟩:=hr.app_split
    obtain ⟨i1,i2⟩:=ih hr' hl.tail h2
    have e:rowSegs (.ar ks n::sch) (.rs zs::r) 0=.recs ks n zs::rowSegs sch r 0:=by simp only [rowSegs,rowSegs_shift,List.getD_cons_zero]; rfl
    rw [e,segFlat_cons]
    exact ⟨(rowsNC_fr h1).append i1,SegOk.mk hl.head i2⟩
   ·rename_i p' sch' x ys rest e
    cases e
    split at h
    case h_2=>cases h
    rename_i a r h1 h2
    cases h
    exact step h1 h2 hl hr
   ·rename_i p' sch' x ys rest e
    cases e
    split at h
    case h_2=>cases h
    rename_i a r h1 h2
    cases h
    rw [List.nil_append,segFlat_cons] at hr
    exact step h1 h2 hl.tail hr
   ·cases h
theorem nvRow_sound {Γ:Env} {sch:List Part} {y:NV} {row:List FC} {v:Value} (h:nvRow sch y=some row) (r:VRel Γ y v):RowV Γ sch row v:=by
 cases y with
 | c x=>cases h
 | ag xs=>
   obtain ⟨vs,rfl,hr⟩:=r
   obtain ⟨h1,h2⟩:=fcRow_sound (Γ:=Γ) (sch:=sch) (xs:=xs) (l:=[]) h SegOk.none (by simpa [segFlat] using hr)
   exact ⟨vs,rfl,h1,h2⟩
 | sg l=>
   obtain ⟨vs,rfl,hr,hok⟩:=r
   obtain ⟨h1,h2⟩:=fcRow_sound (Γ:=Γ) (sch:=sch) (xs:=[]) (l:=l) h hok (by simpa using hr)
   exact ⟨vs,rfl,h1,h2⟩
theorem R2.c {Γ:Env} {xs:List NC} {vs:List Value} (h:R2 (FR Γ) xs vs):R2 (CR Γ) xs vs:=h.imp fun _ _ r=>r.c
theorem RowV.rel {Γ:Env} {sch:List Part} {row:List FC} {v:Value} (h:RowV Γ sch row v) (n:Nat):VRel Γ (mkSub n (rowSegs sch row 0)) v:=by
 obtain ⟨vs,rfl,h1,h2⟩:=h
 unfold mkSub
 split
 ·exact ⟨vs,rfl,h1.c⟩
 ·exact ⟨vs,rfl,h1.c,h2⟩
theorem rowsV_length (ks:List CK) (xs:List (List Sc)):(rowsV ks xs).length=xs.length * ks.length:=by
 induction xs with
 | nil=>simp [rowsV]
 | cons a xs ih=>
   have e:rowsV ks (a::xs)=rowVals ks a++rowsV ks xs:=by simp [rowsV]
   rw [e,List.length_append,ih,rowVals_length,List.length_cons,Nat.succ_mul]; omega
theorem rowsV_drop (ks:List CK) (xs:List (List Sc)) (i:Nat):(rowsV ks xs).drop (i * ks.length)=rowsV ks (xs.drop i):=by
 induction i generalizing xs with
 | zero=>simp
 | succ i ih=>
   cases xs with
   | nil=>simp [rowsV]
   | cons a xs=>
     have e:rowsV ks (a::xs)=rowVals ks a++rowsV ks xs:=by simp [rowsV]
     rw [e,Nat.succ_mul,Nat.add_comm,← List.drop_drop]
     have:(rowVals ks a++rowsV ks xs).drop ks.length=rowsV ks xs:=by
      rw [List.drop_append]
      simp
     rw [this,ih]
     simp
theorem rowsV_take (ks:List CK) (xs:List (List Sc)) (i:Nat):(rowsV ks xs).take (i * ks.length)=rowsV ks (xs.take i):=by
 induction i generalizing xs with
 | zero=>simp [rowsV]
 | succ i ih=>
   cases xs with
   | nil=>simp [rowsV]
   | cons a xs=>
     have e:rowsV ks (a::xs)=rowVals ks a++rowsV ks xs:=by simp [rowsV]
     have e2:rowsV ks ((a::xs).take (i+1))=rowVals ks a++rowsV ks (xs.take i):=by simp [rowsV]
     rw [e,e2,Nat.succ_mul,Nat.add_comm,List.take_append]
     simp only [rowVals_length,Nat.add_sub_cancel_left]
     rw [ih,List.take_of_length_le (by simp)]
theorem rowsV_row (ks:List CK) (xs:List (List Sc)) (i:Nat) (h:i<xs.length):((rowsV ks xs).drop (i * ks.length)).take ks.length=rowVals ks (xs.getD i []):=by
 rw [rowsV_drop]
 have e:xs.drop i=xs[i]::xs.drop (i+1):=List.drop_eq_getElem_cons h
 have e2:rowsV ks (xs[i]::xs.drop (i+1))=rowVals ks xs[i]++rowsV ks (xs.drop (i+1)):=by unfold rowsV; rw [List.flatMap_cons]
 have e3:xs.getD i []=xs[i]:=by simp [List.getD_eq_getElem?_getD,h]
 rw [e,e2,List.take_append_of_le_length (by simp),e3,List.take_of_length_le (by simp)]
theorem rowsV_get (ks:List CK) (xs:List (List Sc)) (i c:Nat) (k:CK) (h:i<xs.length) (hk:ks[c]? = some k) :
  (rowsV ks xs)[i * ks.length+c]? = some (ckVal k ((xs.getD i []).getD c (.i 0))):=by
 have hc:c<ks.length:=(List.getElem?_eq_some_iff.1 hk).1
 have h1:=rowsV_row ks xs i h
 have h2:(rowVals ks (xs.getD i []))[c]? = some (ckVal k ((xs.getD i []).getD c (.i 0))):=by
  have:=rowFrom_get ckVal ks (xs.getD i []) 0 c k hk
  simpa [rowVals] using this
 rw [← h1,List.getElem?_take,if_pos hc,List.getElem?_drop] at h2
 exact h2
theorem rowsV_set (ks:List CK) (xs:List (List Sc)) (i:Nat) (row:List Sc) (h:i<xs.length):rowsV ks (xs.set i row)=splice (rowsV ks xs) (i * ks.length) (rowVals ks row):=by
 have e:xs.set i row=xs.take i++row::xs.drop (i+1):=List.set_eq_take_append_cons_drop.trans (by simp [h])
 have e2:rowsV ks (xs.take i++row::xs.drop (i+1))=rowsV ks (xs.take i)++rowVals ks row++rowsV ks (xs.drop (i+1)):=by simp [rowsV]
 rw [e,e2,splice,rowsV_take,rowVals_length]
 have:i * ks.length+ks.length=(i+1) * ks.length:=by rw [Nat.succ_mul]
 rw [this,rowsV_drop]
theorem rowsNC_rel (Γ:Env) (ks:List CK) (xs:List (List Sc)):R2 (CR Γ) (rowsNC ks xs) (rowsV ks xs):=by
 induction xs with
 | nil=>exact .nil
 | cons a xs ih=>
   have e1:rowsNC ks (a::xs)=rowCells ks a++rowsNC ks xs:=by simp [rowsNC]
   have e2:rowsV ks (a::xs)=rowVals ks a++rowsV ks xs:=by simp [rowsV]
   rw [e1,e2]
   exact (rowCells_rel Γ ks a).append ih
theorem intsNC_rel (Γ:Env) (k:IntKind) (xs:List Int):R2 (CR Γ) (intsNC k xs) (xs.map (.int k)):=R2.self_map _ _ _ fun _=>⟨rfl,rfl⟩
section
variable {P:Program} {w:World} {t:TypeId} {d:TypeDesc}
theorem run_loadAt_one {a:Addr} {v:Value} (hu:P.underlying t=some d) (ha:isAggT P t=false) (hc:w.cell? a=some v):(Instr.loadAt t (.pointer (some a))).run P w=.ok v w:=by
 simp [Instr.loadAt,Instr.sureAddr,loadVar,run_isAgg hu,ha,hc]
theorem run_loadAt_agg {b o:Nat} {vs:List Value} (hu:P.underlying t=some d) (ha:isAggT P t=true) (hn:vs.length=sizeT P t)
  (hc:∀ j v,vs[j]? = some v→w.cell? ⟨b,o+j,none⟩=some v):(Instr.loadAt t (.pointer (some ⟨b,o,none⟩))).run P w=.ok (.agg vs.toArray) w:=by
 obtain ⟨i,hi⟩:=info_of_underlying hu
 have hl:=run_loadCells_list (P:=P) w ⟨b,o,none⟩ vs (fun j v hj=>by rw [Addr.add_lit]; exact hc j v hj)
 rw [hn] at hl
 simp [Instr.loadAt,Instr.sureAddr,loadVar,run_isAgg hu,ha,run_sizeOf hi,hl]
end
theorem prefix_get {pre l2:List Value} {j:Nat} {v:Value} (h:pre[j]? = some v):(pre++l2)[j]? = some v:=by
 rw [List.getElem?_append_left (List.getElem?_eq_some_iff.1 h).1]; exact h
theorem heap_cell {w:World} {b o:Nat} {c:Array Value} {e:TypeId} {fz:Nat × Nat} {v:Value} (h:w.heap[b]? = some (.cells c e fz)) (hv:c.toList[o]? = some v):w.cell? ⟨b,o,none⟩=some v:=by
 rw [cell_of_row w b o c e fz h]; simpa using hv
theorem RoRow.cell {Γ:Env} {rg:List (Option Reg)} {w:World} (hw:WRel Γ rg w) {b o:Nat} {vs:List Value} (h:RoRow Γ b o vs) {j:Nat} {v:Value} (hj:vs[j]? = some v):w.cell? ⟨b,o+j,none⟩=some v:=by
 obtain ⟨_,c,e,fz,h1,h2⟩:=h
 exact heap_cell (hw.kp _ _ h1) (by simpa using h2 j v hj)
theorem drop_take_get {α:Type} {l:List α} {o n j:Nat} {v:α} (h:((l.drop o).take n)[j]? = some v):l[o+j]? = some v:=by
 rw [List.getElem?_take] at h
 split at h
 ·rwa [List.getElem?_drop] at h
 ·cases h
theorem int_pre {k:IntKind} {xs:List Int} {i:Nat} (h:i<xs.length):(xs.map (Value.int k))[i]? = some (.int k (xs.getD i 0)):=by
 simp [List.getD_eq_getElem?_getD,h]
theorem BodyRel.segOk {Γ:Env} {st:Nat} {l:List Seg} {vs:List Value} (h:BodyRel Γ st (.sg l) vs):SegOk l:=by
 obtain ⟨_,_,_,_,h⟩:=h
 exact h
theorem vrel_of_cells {Γ:Env} {y:NV} {vs:List Value} (h1:R2 (CR Γ) y.cells vs) (h2:SegOk y.segs) (h3:∀ x,y≠.c x):VRel Γ y (.agg vs.toArray):=by
 cases y with
 | c x=>exact (h3 x rfl).elim
 | ag xs=>exact ⟨vs,rfl,h1⟩
 | sg l=>exact ⟨vs,rfl,h1,h2⟩
theorem RegAt.cell {Γ:Env} {g:Reg} {B:Blk} {w:World} {c:Array Value} (h:RegAt Γ g B w c) {k:Nat} {v:Value} (hk:(c.toList.drop B.o)[k]? = some v):w.cell? ⟨B.blk,B.o+k,none⟩=some v:=
 heap_cell h.heap (by rwa [List.getElem?_drop] at hk)
theorem got_load {P:Program} {Γ:Env} {w:World} {t:TypeId} {d:TypeDesc} {b a o:Nat} {L:List Value} {st:Nat} {l:List Seg} {y:NV} (hcs:∀ {k:Nat} {v:Value},L[k]? = some v→w.cell? ⟨b,a+k,none⟩=some v) (hbody:BodyRel Γ st (.sg l) L) (hu:P.underlying t=some d)
  (hg:GetOk (segFlat l) o (sizeT P t) (isAggT P t) y):∃ u,(Instr.loadAt t (.pointer (some ⟨b,a+o,none⟩))).run P w=.ok u w∧SRel Γ (.v y) u:=by
 obtain ⟨l1,l2,hl,hr,-⟩:=hbody
 cases ha:isAggT P t with
 | true=>
   obtain ⟨h1,h2,h3,h4⟩:=hg.all ha
   have hr' : R2 (CR Γ) y.cells ((l1.drop o).take (sizeT P t)):=h1 ▸ (hr.drop _).take _
   refine ⟨_,run_loadAt_agg (vs:=(l1.drop o).take (sizeT P t)) hu ha (by rw [← hr'.length]; exact h2) (fun j v hj=>?_),vrel_of_cells hr' h3 h4⟩
   rw [Nat.add_assoc]
   exact hcs (by rw [hl]; exact prefix_get (drop_take_get hj))
 | false=>
   obtain ⟨x,rfl,hx⟩:=hg.one ha
   obtain ⟨u,hu1,hu2⟩:=hr.get hx
   exact ⟨u,run_loadAt_one hu ha (hcs (by rw [hl]; exact prefix_get hu1)),hu2⟩
theorem got_row {P:Program} {Γ:Env} {w:World} {t:TypeId} {d:TypeDesc} {b a o:Nat} {L:List Value} {fl:List NC} {y:NV} (hcs:∀ {k:Nat} {v:Value},L[k]? = some v→w.cell? ⟨b,a+k,none⟩=some v) (hr:∃ l1 l2,L=l1++l2∧R2 (FR Γ) fl l1) (hu:P.underlying t=some d)
  (hg:GetOk fl o (sizeT P t) (isAggT P t) y):∃ u,(Instr.loadAt t (.pointer (some ⟨b,a+o,none⟩))).run P w=.ok u w∧SRel Γ (.v y) u:=by
 obtain ⟨l1,l2,hl,hr⟩:=hr
 replace hr:=hr.c
 cases ha:isAggT P t with
 | true=>
   obtain ⟨h1,h2,h3,h4⟩:=hg.all ha
   have hr' : R2 (CR Γ) y.cells ((l1.drop o).take (sizeT P t)):=h1 ▸ (hr.drop _).take _
   refine ⟨_,run_loadAt_agg (vs:=(l1.drop o).take (sizeT P t)) hu ha (by rw [← hr'.length]; exact h2) (fun j v hj=>?_),vrel_of_cells hr' h3 h4⟩
   rw [Nat.add_assoc]
   exact hcs (by rw [hl]; exact prefix_get (drop_take_get hj))
 | false=>
   obtain ⟨x,rfl,hx⟩:=hg.one ha
   obtain ⟨u,hu1,hu2⟩:=hr.get hx
   exact ⟨u,run_loadAt_one hu ha (hcs (by rw [hl]; exact prefix_get hu1)),hu2⟩
theorem nload_sound {P:Program} {s:St} {Γ:Env} {w:World} {t:TypeId} {x:NC} {v:Value} {c:List Bool} {nv:NS} {glob:List Nat} (hw:WRel Γ s.rg w) (hG:GlobOk glob Γ)
  (hu:(P.underlying t).isSome=true) (hx:CR Γ x v) (h:nload P glob s t x=some (c,nv)) (hc:allT c) :
  ∃ u,(Instr.loadAt t v).run P w=.ok u w∧SRel Γ nv u:=by
 obtain ⟨d,hu⟩:=Option.isSome_iff_exists.1 hu
 unfold nload at h
 split at h
 ·rename_i r i cc
  obtain ⟨⟨B,hB,rfl⟩,_⟩:=hx
  split at h
  ·rename_i g hg
   obtain ⟨cs,hA⟩:=hw.at hB ((reg_eq s r g).1 hg) (by cases hb:g.body <;> first | rfl | (rw [hb] at h; cases h))
   have hbody:=hA.body
   have hcs:∀ {k:Nat} {v:Value},(cs.toList.drop B.o)[k]? = some v→w.cell? ⟨B.blk,B.o+k,none⟩=some v:=hA.cell
   rw [hA.st]
   generalize cs.toList.drop B.o=L at hbody hcs
   split at h
   ·rename_i xs hb ha
    rw [hb] at hbody
    obtain ⟨l1,l2,hl,hr⟩:=hbody
    split at h
    ·rename_i l hsub
     cases h
     have hl' : l=(xs.drop (i * g.st+cc)).take (sizeT P t)∧l.length=sizeT P t:=by
      unfold sub at hsub
      simp only at hsub
      split at hsub
      ·rename_i e; cases hsub; exact ⟨rfl,e⟩
      ·cases hsub
     have hr' : R2 (CR Γ) l ((l1.drop (i * g.st+cc)).take (sizeT P t)):=hl'.1 ▸ (hr.drop _).take _
     refine ⟨_,run_loadAt_agg (vs:=(l1.drop (i * g.st+cc)).take (sizeT P t)) hu ha (by rw [← hr'.length]; exact hl'.2) (fun j v hj=>?_),⟨_,rfl,hr'⟩⟩
     rw [Nat.add_assoc]
     exact hcs (by rw [hl]; exact prefix_get (drop_take_get hj))
    ·cases h
   ·rename_i xs hb ha
    rw [hb] at hbody
    obtain ⟨l1,l2,hl,hr⟩:=hbody
    split at h
    ·rename_i y hy
     cases h
     obtain ⟨u,hu1,hu2⟩:=hr.get hy
     exact ⟨u,run_loadAt_one hu ha (hcs (by rw [hl]; exact prefix_get hu1)),hu2⟩
    ·cases h
   ·rename_i k xs hb ha
    rw [hb] at hbody
    obtain ⟨h1,l2,hl⟩:=hbody
    split at h
    ·cases h
     have hi:i<xs.length:=by simpa [allT] using hc
     exact ⟨_,run_loadAt_one hu ha (hcs (by rw [hl,h1]; simpa using prefix_get (int_pre hi))),⟨rfl,rfl⟩⟩
    ·cases h
   ·rename_i k xs hb ha
    rw [hb] at hbody
    obtain ⟨h1,l2,hl⟩:=hbody
    split at h
    ·split at h
     ·rename_i hn
      cases h
      refine ⟨_,run_loadAt_agg (vs:=xs.map (.int k)) hu ha (by simpa using hn) (fun j v hj=>?_),⟨_,rfl,intsNC_rel Γ k xs⟩⟩
      rw [Nat.add_assoc]
      exact hcs (by rw [hl]; exact prefix_get (by simpa using hj))
     ·cases h
    ·cases h
   ·rename_i ks xs hb ha
    rw [hb] at hbody
    obtain ⟨h1,h0,l2,hl⟩:=hbody
    split at h
    ·rename_i k hk
     cases h
     have hi:i<xs.length:=by simpa [allT] using hc
     refine ⟨_,run_loadAt_one hu ha (hcs (by rw [hl,h1]; exact prefix_get (rowsV_get ks xs i cc k hi hk))),ck_rel Γ k _⟩
    ·cases h
   ·rename_i ks xs hb ha
    rw [hb] at hbody
    obtain ⟨h1,h0,l2,hl⟩:=hbody
    split at h
    ·split at h
     ·rename_i hn
      cases h
      have hi:i<xs.length:=by simpa [allT] using hc
      refine ⟨_,run_loadAt_agg (vs:=rowVals ks (xs.getD i [])) hu ha (by simp [hn]) (fun j v hj=>?_),⟨_,rfl,rowCells_rel Γ ks _⟩⟩
      rw [← rowsV_row ks xs i hi] at hj
      rw [Nat.add_assoc]
      exact hcs (by rw [hl,h1]; exact prefix_get (drop_take_get hj))
     ·split at h
      ·rename_i h0'
       split at h
       ·rename_i hn
        cases h
        refine ⟨_,run_loadAt_agg (vs:=rowsV ks xs) hu ha (by rw [rowsV_length,hn]) (fun j v hj=>?_),⟨_,rfl,rowsNC_rel Γ ks xs⟩⟩
        rw [Nat.add_assoc]
        exact hcs (by rw [hl,h0']; exact prefix_get (by simpa using hj))
       ·cases h
      ·cases h
    ·cases h
   ·rename_i l hb
    rw [hb] at hbody
    split at h
    case h_2=>cases h
    split at h
    case h_2=>cases h
    rename_i y hy
    cases h
    obtain ⟨u,hu1,hu2⟩:=got_load hcs hbody hu (segGet_spec hbody.segOk hy)
    rw [Nat.zero_mul,Nat.zero_add]
    exact ⟨u,hu1,hu2⟩
   ·rename_i sch xs hb
    rw [hb] at hbody
    obtain ⟨h1,h0,l1,l2,hl,hr,hk⟩:=hbody
    split at h
    case h_2=>cases h
    rename_i y hy
    cases h
    have hi:i<xs.length:=by simpa [allT] using hc
    rw [h1]
    exact got_row hcs ⟨l1,l2,hl,hr⟩ hu (GetOk.row hk hi (segGet_spec (hk.row hi) hy))
   ·cases h
  ·cases h
 ·rename_i sch xs i cc
  obtain ⟨⟨blk,off,vs,rfl,h0,hk,hro,hr⟩,_⟩:=hx
  split at h
  case h_2=>cases h
  rename_i y hy
  cases h
  have hi:i<xs.length:=by simpa [allT] using hc
  exact got_row (L:=vs) (fun hk=>hro.cell hw hk) ⟨vs,[],by simp,hr⟩ hu (GetOk.row hk hi (segGet_spec (hk.row hi) hy))
 ·rename_i r o ww i cc
  obtain ⟨⟨B,hB,rfl⟩,_⟩:=hx
  split at h
  case h_2=>cases h
  rename_i g hg
  obtain ⟨cs,hA⟩:=hw.at hB ((reg_eq s r g).1 hg) (by cases hb:g.body <;> first | rfl | (rw [hb] at h; cases h))
  have hbody:=hA.body
  have hcs:∀ {k:Nat} {v:Value},(cs.toList.drop B.o)[k]? = some v→w.cell? ⟨B.blk,B.o+k,none⟩=some v:=hA.cell
  generalize cs.toList.drop B.o=L at hbody hcs
  split at h
  case h_2=>cases h
  rename_i l hb
  rw [hb] at hbody
  split at h
  case h_2=>cases h
  rename_i y hy
  cases h
  exact got_load hcs hbody hu (segGetQ_spec hbody.segOk hy hc)
 ·rename_i k xs i
  obtain ⟨⟨blk,off,rfl,hro⟩,_⟩:=hx
  split at h
  ·cases h
  ·rename_i ha
   cases h
   have hi:i<xs.length:=by simpa [allT] using hc
   exact ⟨_,run_loadAt_one hu (by simpa using ha) (hro.cell hw (int_pre hi)),⟨rfl,rfl⟩⟩
 ·rename_i ks xs i cc
  obtain ⟨⟨blk,off,rfl,hro⟩,_⟩:=hx
  split at h
  ·rename_i ha
   split at h
   ·split at h
    ·rename_i hn
     cases h
     have hi:i<xs.length:=by simpa [allT] using hc
     refine ⟨_,run_loadAt_agg (vs:=rowVals ks (xs.getD i [])) hu ha (by simp [hn]) (fun j v hj=>?_),⟨_,rfl,rowCells_rel Γ ks _⟩⟩
     rw [← rowsV_row ks xs i hi] at hj
     have:=hro.cell hw (drop_take_get hj)
     simpa [Nat.add_assoc] using this
    ·cases h
   ·cases h
  ·rename_i ha
   split at h
   ·rename_i k hk
    cases h
    have hi:i<xs.length:=by simpa [allT] using hc
    have:=hro.cell hw (rowsV_get ks xs i cc k hi hk)
    exact ⟨_,run_loadAt_one hu (by simpa using ha) (by simpa [Nat.add_assoc] using this),ck_rel Γ k _⟩
   ·cases h
 ·rename_i g
  obtain ⟨rfl,_⟩:=hx
  split at h
  ·cases h
  ·rename_i ha
   split at h
   case isFalse=>cases h
   rename_i hg
   cases h
   obtain ⟨ad,c,e,fz,ca,ta,h1,h2,h3,-⟩:=hG.1 g (List.contains_iff_mem.1 hg)
   exact ⟨_,run_loadAt_one hu (by simpa using ha) (heap_cell (hw.kp _ _ h2) (by simpa using h3)),⟨h1,rfl⟩⟩
 ·cases h
theorem splice_length {α:Type} (xs:List α) (o:Nat) (ys:List α) (h:o+ys.length≤xs.length):(splice xs o ys).length=xs.length:=by
 simp only [splice,List.length_append,List.length_take,List.length_drop]; omega
theorem splice_append {α:Type} (xs zs:List α) (o:Nat) (ys:List α) (h:o+ys.length≤xs.length):splice (xs++zs) o ys=splice xs o ys++zs:=by
 simp only [splice]
 rw [List.take_append_of_le_length (by omega),List.drop_append_of_le_length h]
 simp
theorem splice_one {α:Type} (xs:List α) (o:Nat) (y:α) (h:o<xs.length):splice xs o [y]=xs.set o y:=by
 simp only [splice,List.length_singleton]
 rw [List.set_eq_take_append_cons_drop,if_pos h]; simp
theorem R2.splice {α β:Type} {R:α→β→Prop} {l:List α} {m:List β} (h:R2 R l m) (o:Nat) {a:List α} {b:List β} (r:R2 R a b):R2 R (Nx.splice l o a) (Nx.splice m o b):=by
 unfold Nx.splice
 rw [r.length]
 exact ((h.take _).append r).append (h.drop _)
theorem setI_eq (xs:List Int) (i:Nat) (v:Int):∀ j,setI xs (j+i) v j=xs.set i v:=by
 induction xs generalizing i with
 | nil=>intro j; simp [setI]
 | cons x xs ih=>
   intro j
   cases i with
   | zero=>
     have:∀ (l:List Int) (a b:Nat),a<b→setI l a v b=l:=by
      intro l
      induction l with
      | nil=>intro a b _; rfl
      | cons y l ihl=>
        intro a b hab
        have hne:(a==b)=false:=by simp; omega
        rw [setI,hne,ihl a (b+1) (by omega)]
        rfl
     rw [setI,this xs (j+0) (j+1) (by omega)]
     simp
   | succ i=>
     have hne:(j+(i+1)==j)=false:=by simp
     have e:j+(i+1)=(j+1)+i:=by omega
     rw [setI,hne,e,ih i (j+1)]
     rfl
theorem setI_set (xs:List Int) (i:Nat) (v:Int):setI xs i v 0=xs.set i v:=by simpa using setI_eq xs i v 0
theorem setRow_getD (ks:List CK) (row:List Sc) (c:Nat) (z:Sc) (j:Nat) (hj:j<ks.length):(setRow ks row c z).getD j (.i 0)=if j=c then z else row.getD j (.i 0):=by
 simp [setRow,List.getD_eq_getElem?_getD,hj]
theorem rowsV_setOne (ks:List CK) (xs:List (List Sc)) (i c:Nat) (k:CK) (z:Sc) (h:i<xs.length) (hk:ks[c]? = some k) :
  rowsV ks (xs.set i (setRow ks (xs.getD i []) c z))=(rowsV ks xs).set (i * ks.length+c) (ckVal k z):=by
 have hc:c<ks.length:=(List.getElem?_eq_some_iff.1 hk).1
 apply List.ext_getElem?
 intro m
 by_cases hm:m<xs.length * ks.length
 ·have hw:0<ks.length:=by omega
  have hi' : m / ks.length<xs.length:=(Nat.div_lt_iff_lt_mul hw).2 hm
  have hc' : m % ks.length<ks.length:=Nat.mod_lt _ hw
  have em:m / ks.length * ks.length+m % ks.length=m:=by rw [Nat.mul_comm]; exact Nat.div_add_mod m ks.length
  have hk' : ks[m % ks.length]? = some ks[m % ks.length]:=List.getElem?_eq_getElem hc'
  have g1:=rowsV_get ks xs (m / ks.length) (m % ks.length) _ hi' hk'
  have g2:=rowsV_get ks (xs.set i (setRow ks (xs.getD i []) c z)) (m / ks.length) (m % ks.length) _ (by simpa using hi') hk'
  rw [em] at g1 g2
  rw [g2,List.getElem?_set]
  by_cases e:i * ks.length+c=m
  ·have ei:m / ks.length=i:=by
    rw [← e,Nat.add_comm,Nat.add_mul_div_right _ _ hw,Nat.div_eq_of_lt hc]; simp
   have ec:m % ks.length=c:=by rw [← e,Nat.add_comm,Nat.add_mul_mod_self_right,Nat.mod_eq_of_lt hc]
   rw [if_pos e,if_pos (by rw [rowsV_length]; omega)]
   have hkk:ks[m % ks.length]=k:=by
    have:ks[m % ks.length]? = some k:=by rw [ec]; exact hk
    rw [hk'] at this; exact Option.some.inj this
   rw [hkk]
   have:(xs.set i (setRow ks (xs.getD i []) c z)).getD (m / ks.length) []=setRow ks (xs.getD i []) c z:=by
    simp [List.getD_eq_getElem?_getD,ei,h]
   rw [this,setRow_getD ks _ c z _ hc',if_pos ec]
  ·rw [if_neg e,g1]
   congr 2
   by_cases ei:m / ks.length=i
   ·have ec:m % ks.length≠c:=by intro ec; exact e (by rw [← ei,← ec]; exact em)
    have:(xs.set i (setRow ks (xs.getD i []) c z)).getD (m / ks.length) []=setRow ks (xs.getD i []) c z:=by
     simp [List.getD_eq_getElem?_getD,ei,h]
    rw [this,setRow_getD ks _ c z _ hc',if_neg ec,ei]
   ·have:(xs.set i (setRow ks (xs.getD i []) c z)).getD (m / ks.length) []=xs.getD (m / ks.length) []:=by
     simp [List.getD_eq_getElem?_getD,Ne.symm ei]
    rw [this]
 ·rw [List.getElem?_eq_none (by rw [rowsV_length,List.length_set]; omega),List.getElem?_eq_none (by rw [List.length_set,rowsV_length]; omega)]
theorem R2.one {Γ:Env} {x:NC} {l:List Value} (h:R2 (CR Γ) [x] l):∃ v,l=[v]∧CR Γ x v:=by
 cases h with
 | cons a b=>cases b; exact ⟨_,rfl,a⟩
theorem splice_drop {α:Type} (l:List α) (o off:Nat) (ys:List α) (h:o≤l.length):(splice l (o+off) ys).drop o=splice (l.drop o) off ys:=by
 have e:l=l.take o++l.drop o:=(List.take_append_drop o l).symm
 have hl:(l.take o).length=o:=by rw [List.length_take]; omega
 have:=splice_skip (l.take o) (l.drop o) (o+off) ys (by omega)
 rw [← e,hl,Nat.add_sub_cancel_left] at this
 rw [this,List.drop_append_of_le_length (by omega),List.drop_of_length_le (by omega),List.nil_append]
theorem splice_take {α:Type} (l:List α) (o off:Nat) (ys:List α) (h:o≤l.length):(splice l (o+off) ys).take o=l.take o:=by
 have e:l=l.take o++l.drop o:=(List.take_append_drop o l).symm
 have hl:(l.take o).length=o:=by rw [List.length_take]; omega
 have:=splice_skip (l.take o) (l.drop o) (o+off) ys (by omega)
 rw [← e] at this
 rw [this,List.take_append_of_le_length (by omega),List.take_of_length_le (by omega)]
theorem splice_behind {α:Type} (l:List α) (o k:Nat) (ys:List α) (h:o+ys.length≤k) (hk:k≤l.length):(splice l o ys).drop k=l.drop k:=by
 have e:l=l.take k++l.drop k:=(List.take_append_drop k l).symm
 have hl:(l.take k).length=k:=by rw [List.length_take]; omega
 have:=splice_left (l.take k) (l.drop k) o ys (by omega)
 rw [← e] at this
 have h2:(splice (l.take k) o ys).length=k:=by rw [splice_len _ _ _ (by omega),hl]
 rw [this,List.drop_append_of_le_length (by omega),List.drop_of_length_le (by omega),List.nil_append]
theorem PartOk.le {B:Blk} {g:Reg} {l:List Value} (h:PartOk B g l):B.o≤l.length:=by
 have:=congrArg List.length h.1
 rw [List.length_take] at this
 unfold Blk.o at this ⊢
 omega
theorem PartOk.splice {B:Blk} {g g' : Reg} {l ys:List Value} {off:Nat} (h:PartOk B g l) (he:g'.e=g.e) (hln:∀ n,g.body.len=some n→g'.body.len=some n∧off+ys.length≤n) (hfit:B.o+off+ys.length≤l.length):PartOk B g' (Nx.splice l (B.o+off) ys):=by
 have hle:=h.le
 refine ⟨(splice_take _ _ _ _ hle).trans h.1,?_⟩
 have h2:=h.2
 cases hp:B.post with
 | none=>
   rw [hp] at h2
   exact ⟨h2.1,h2.2.trans he.symm⟩
 | some post=>
   rw [hp] at h2
   obtain ⟨n,h3,h4,h5⟩:=h2
   obtain ⟨h6,h7⟩:=hln n h3
   exact ⟨n,h6,(splice_behind _ _ _ _ (by omega) h5).trans h4,by rw [splice_len _ _ _ hfit]; exact h5⟩
theorem store_at {P:Program} {s:St} {Γ:Env} {w:World} {t:TypeId} {u:Value} {r off:Nat} {g g' : Reg} {B:Blk} {i:TypeInfo} {cs:Array Value} {xs:List NC} (hw:WRel Γ s.rg w) (hi:P.info? t=some i) (hgl:s.rg[r]? = some (some g)) (hB:Γ.pt r=some B)
  (hA:RegAt Γ g B w cs) (hyc:R2 (CR Γ) xs u.cells.toList) (hsz:u.cells.toList.length=sizeT P t)
  (hfit:off+u.cells.toList.length≤(cs.toList.drop B.o).length) (hst' : g'.st=g.st) (he' : g'.e=g.e) (hln:∀ n,g.body.len=some n→g'.body.len=some n∧off+u.cells.toList.length≤n) (hb' : BodyRel Γ g.st g'.body (splice (cs.toList.drop B.o) off u.cells.toList)) :
  ∃ w',(Instr.storeAt t (.pointer (some ⟨B.blk,B.o+off,none⟩)) u).run P w=.ok () w'∧WRel Γ (putAt s.rg r (some g')) w'∧Wd w w':=by
 have hle:=hA.part.le
 rw [List.length_drop] at hfit
 have hfit:B.o+off+u.cells.toList.length≤cs.toList.length:=by omega
 have hcs:=hA.heap
 have hrun:=run_storeCells_at P B.blk (B.o+off) B.e u.cells.toList 0 cs w hcs (by simpa using hfit) hyc.oneCell
 simp only [Nat.add_zero] at hrun
 have hgr:RegRel Γ g' B (w.setRow B.blk (splice cs.toList (B.o+off) u.cells.toList).toArray):=by
  refine .inr (.inl ⟨(Env.pt_iff.1 hB).2,_,setRow_heap w _ _ _ _ _ hcs,by rw [hst']; exact hA.st,?_,?_,?_⟩)
  ·simp only [List.size_toArray]
   rw [splice_length _ _ _ (by simpa using hfit)]
   simpa using hA.sz
  ·simp only [hst']
   rw [splice_drop _ _ _ _ hle]
   exact hb'
  ·exact hA.part.splice he' hln hfit
 refine ⟨w.setRow B.blk (splice cs.toList (B.o+off) u.cells.toList).toArray,?_,hw.change ⟨g,hgl⟩ hB (fun b hb=>setRow_other w _ _ _ hb) hgr,⟨rfl,rfl,rfl,by simp⟩⟩
 have h1:u.cells.size=sizeT P t:=by rw [← hsz]; simp
 simp only [Instr.storeAt,Instr.sureAddr,storeVar,Sem.run_bind,Sem.run_pure,Result.andThen_ok,run_sizeOf hi,h1,ne_eq,not_true,if_false]
 exact hrun
theorem nstore_sound {P:Program} {s:St} {Γ:Env} {w:World} {t:TypeId} {x:NC} {y:NV} {v u:Value} {c:List Bool} {n:Nat} {g' : Reg} {i:TypeInfo} (hw:WRel Γ s.rg w) (hi:P.info? t=some i)
  (hx:CR Γ x v) (hy:VRel Γ y u) (h:nstore P s t x y=some (c,n,g')) (hc:allT c) :
  ∃ w',(Instr.storeAt t v u).run P w=.ok () w'∧WRel Γ (putAt s.rg n (some g')) w'∧Wd w w':=by
 have hyc:=hy.cells
 have hlen:=hyc.length
 obtain ⟨hyo,hys⟩:=hy.segs
 unfold nstore at h
 split at h
 case isFalse=>cases h
 rename_i hsz'
 have hsz:y.cells.length=sizeT P t:=by rw [hys]; exact hsz'
 split at h
 case h_3=>cases h
 case h_1=>
  rename_i r o ww ii cc
  obtain ⟨⟨B,hB,rfl⟩,-⟩:=hx
  split at h
  case h_2=>cases h
  rename_i g hg
  have hgl:=(reg_eq s r g).1 hg
  obtain ⟨cs,hA⟩:=hw.at hB hgl (by cases hb:g.body <;> first | rfl | (rw [hb] at h; cases h))
  have hbody:=hA.body
  split at h
  case h_2=>cases h
  rename_i l hb
  rw [hb] at hbody
  split at h
  case h_2=>cases h
  rename_i v hv
  cases h
  have hok:=hbody.segOk
  obtain ⟨h1,h2,h3⟩:=segPutQ_spec hok hyo hv hc
  obtain ⟨l1,l2,hl,hr,-⟩:=hbody
  have hl1:=hr.length
  have hcsz:(cs.toList.drop B.o).length=l1.length+l2.length:=by rw [hl]; simp
  have hfl:=segFlat_length hok
  have hfv:=segFlat_length h1
  have hlv:=congrArg List.length h3
  rw [splice_len _ _ _ (by omega)] at hlv
  refine store_at hw hi hgl hB hA hyc (by rw [← hlen]; exact hsz) (by omega) rfl rfl (fun n hn=>?_) ⟨splice l1 (o+ii * ww+cc) u.cells.toList,l2,by rw [hl,splice_append _ _ _ _ (by omega)],by rw [h3]; exact hr.splice _ hyc,h1⟩
  rw [hb] at hn
  cases hn
  exact ⟨congrArg some (by omega),by omega⟩
 rename_i r ii cc
 obtain ⟨⟨B,hB,rfl⟩,-⟩:=hx
 split at h
 case h_2=>cases h
 rename_i g hg
 have hgl:=(reg_eq s r g).1 hg
 obtain ⟨cs,hA⟩:=hw.at hB hgl (by cases hb:g.body <;> first | rfl | (rw [hb] at h; cases h))
 have hbody:=hA.body
 -- what is wanted of the place and the new body
 suffices H:ii * g.st+cc+u.cells.toList.length≤(cs.toList.drop B.o).length∧n=r∧g'.st=g.st∧g'.e=g.e∧(∀ n,g.body.len=some n→g'.body.len=some n∧ii * g.st+cc+u.cells.toList.length≤n)∧BodyRel Γ g.st g'.body (splice (cs.toList.drop B.o) (ii * g.st+cc) u.cells.toList) by
  obtain ⟨hfit,rfl,hst',he',hln,hb'⟩:=H
  rw [hA.st]
  exact store_at hw hi hgl hB hA hyc (by rw [← hlen]; exact hsz) hfit hst' he' hln hb'
 generalize cs.toList.drop B.o=L at hbody ⊢
 have ln0:∀ {b:Body} {m:Nat},g.body.len=none→∀ n,g.body.len=some n→b.len=some n∧m≤n:=fun h n hn=>by rw [h] at hn; cases hn
 split at h
 ·rename_i xs hb
  rw [hb] at hbody
  obtain ⟨l1,l2,hl,hr⟩:=hbody
  split at h
  case isFalse=>cases h
  rename_i hfit
  cases h
  have hl1:=hr.length
  have hcsz:L.length=l1.length+l2.length:=by rw [hl]; simp
  refine ⟨by omega,rfl,rfl,rfl,fun n hn=>?_,splice l1 (ii * g.st+cc) u.cells.toList,l2,?_,hr.splice _ hyc⟩
  ·rw [hb] at hn
   cases hn
   exact ⟨congrArg some (splice_len _ _ _ (by omega)),by omega⟩
  rw [hl,splice_append _ _ _ _ (by omega)]
 ·rename_i l hb
  rw [hb] at hbody
  have hok:=hbody.segOk
  obtain ⟨l1,l2,hl,hr,-⟩:=hbody
  split at h
  case h_2=>cases h
  split at h
  case isFalse=>cases h
  rename_i hfit
  split at h
  case h_2=>cases h
  rename_i l' hput
  cases h
  have hl1:=hr.length
  have hcsz:L.length=l1.length+l2.length:=by rw [hl]; simp
  have hfl:=segFlat_length hok
  obtain ⟨h1,h2⟩:=segPut_spec hok hyo (by rw [NV.segs_flat]; exact hys) (by omega) hput
  have hfv:=segFlat_length h1
  have hlv:=congrArg List.length h2
  rw [splice_len _ _ _ (by rw [NV.segs_flat]; omega)] at hlv
  rw [Nat.zero_mul,Nat.zero_add]
  refine ⟨by omega,rfl,rfl,rfl,fun n hn=>?_,splice l1 cc u.cells.toList,l2,?_,?_,h1⟩
  ·rw [hb] at hn
   cases hn
   exact ⟨congrArg some (by omega),by omega⟩
  ·rw [hl,splice_append _ _ _ _ (by omega)]
  ·rw [h2,NV.segs_flat]; exact hr.splice _ hyc
 ·rename_i k xs hb
  rw [hb] at hbody
  obtain ⟨h1,l2,hl⟩:=hbody
  have hcsz:L.length=xs.length+l2.length:=by rw [hl]; simp
  have hlb:g.body.len=none:=by rw [hb]; rfl
  split at h
  case h_2=>cases h
  split at h
  ·rename_i k' m
   split at h
   case isFalse=>cases h
   rename_i hk
   cases h
   subst hk
   have hii:ii<xs.length:=by simpa [allT] using hc
   obtain ⟨z,hz,hz1⟩:=R2.one hyc
   have hz2:z=.int k m:=hz1.1
   rw [hz,hz2,h1]
   simp only [List.length_singleton]
   refine ⟨by omega,trivial,trivial,trivial,ln0 hlb,rfl,l2,?_⟩
   rw [hl,splice_append _ _ _ _ (by simp; omega),splice_one _ _ _ (by simp; omega),setI_set]
   simp
  ·cases h
  ·cases h
  ·rename_i ys
   split at h
   case h_2=>cases h
   rename_i l hi0
   split at h
   case isFalse=>cases h
   rename_i hll
   cases h
   have hv:=toInts_vals hi0 hyc
   rw [hv]
   simp only [List.length_map,Nat.zero_mul,Nat.add_zero]
   refine ⟨by omega,trivial,trivial,trivial,ln0 hlb,h1,l2,?_⟩
   rw [hl]
   simp [splice,hll]
 ·rename_i ks xs hb
  rw [hb] at hbody
  obtain ⟨h1,h0,l2,hl⟩:=hbody
  have hcsz:L.length=xs.length * ks.length+l2.length:=by rw [hl]; simp [rowsV_length]
  have hlb:g.body.len=none:=by rw [hb]; rfl
  split at h
  ·rename_i y'
   split at h
   case h_2=>cases h
   rename_i k hk
   split at h
   case h_2=>cases h
   rename_i z hz
   cases h
   have hii:ii<xs.length:=by simpa [allT] using hc
   have hcc:cc<ks.length:=(List.getElem?_eq_some_iff.1 hk).1
   obtain ⟨z',hz',hz1⟩:=R2.one hyc
   have hz2:=toSc_val hz hz1
   have hlt:ii * ks.length+cc<xs.length * ks.length:=by
    have:(ii+1) * ks.length≤xs.length * ks.length:=Nat.mul_le_mul_right _ hii
    rw [Nat.succ_mul] at this; omega
   rw [hz',hz2,h1]
   simp only [List.length_singleton]
   refine ⟨by omega,trivial,trivial,trivial,ln0 hlb,rfl,h0,l2,?_⟩
   rw [hl,splice_append _ _ _ _ (by rw [rowsV_length]; simp; omega),splice_one _ _ _ (by rw [rowsV_length]; omega),rowsV_setOne ks xs ii cc k z hii hk]
  ·cases h
  ·rename_i ys
   split at h
   case h_2=>cases h
   split at h
   ·rename_i hyl
    split at h
    case h_2=>cases h
    rename_i row hrow
    cases h
    have hii:ii<xs.length:=by simpa [allT] using hc
    have hv:=toRow_vals hrow hyc
    have hle:(ii+1) * ks.length≤xs.length * ks.length:=Nat.mul_le_mul_right _ hii
    rw [Nat.succ_mul] at hle
    rw [hv,h1]
    simp only [rowVals_length,Nat.add_zero]
    refine ⟨by omega,trivial,trivial,trivial,ln0 hlb,rfl,h0,l2,?_⟩
    rw [hl,splice_append _ _ _ _ (by rw [rowsV_length,rowVals_length]; omega),rowsV_set ks xs ii row hii]
   ·split at h
    case h_2=>cases h
    rename_i rows hrows
    cases h
    obtain ⟨hv,hn⟩:=toRows_vals hrows hyc
    rw [hv]
    simp only [Nat.zero_mul,Nat.add_zero]
    have hll:(rowsV ks rows).length=(rowsV ks xs).length:=by rw [rowsV_length,rowsV_length,hn]
    refine ⟨by rw [hll,rowsV_length]; omega,trivial,trivial,trivial,ln0 hlb,h1,h0,l2,?_⟩
    rw [hl]
    simp [splice,hll]
 ·cases h
 ·cases h
theorem allT_two {a b:Prop} [Decidable a] [Decidable b] (h:allT [decide a,decide b]):a∧b:=by simpa [allT] using h
theorem nbinI_sound {P:Program} {op:BinOp} {t:TypeId} {k:IntKind} {x y:Int} {c:List Bool} {r:NC} (w:World) (Γ:Env) (h:nbinI op k x y=some (c,r)) (hc:allT c) :
  ∃ u,(binOp op t (.int k x) (.int k y)).run P w=.ok u w∧CR Γ r u:=by
 cases op <;> simp only [nbinI,Option.some.injEq,Prod.mk.injEq,reduceCtorEq] at h <;> obtain ⟨rfl,rfl⟩:=h <;> refine ⟨_,?_,⟨rfl,rfl⟩⟩
 case quo=>
  have hy:y≠0:=by simpa [allT] using hc
  rw [binOp_quo]; simp [Op.intDiv,hy]
 case rem=>
  have hy:y≠0:=by simpa [allT] using hc
  rw [binOp_rem]; simp [Op.intDiv,hy]
 case and=>rw [binOp_and,intBits_and]; rfl
 case or=>rw [binOp_or,intBits_or]; rfl
 case xor=>rw [binOp_xor,intBits_xor]; rfl
 case andNot=>rw [binOp_andNot,intBits_andNot]; rfl
 all_goals simp [binOp,Op.intArith,Op.intCmp]
theorem run_eql_slice_none {P:Program} (w:World) (t e:TypeId) (a:Option Addr) (n c n' c' : Nat) (h:P.underlying t=some (.slice e)) :
  (binOp .eql t (.slice a n c) (.slice none n' c')).run P w=.ok (.bool a.isNone) w:=by
 simp only [binOp]
 simp [Op.equal,Op.maxDepth,Lib.run_equalIn_slice_nil w 9999 t e a n c n' c' h]
theorem eqGuard_at_slice {op:BinOp} {t:TypeId} {x y:Operand} {v:Value} (a:Option Addr) (n c:Nat):eqGuard op t x y (.slice a n c) v=pure ():=by cases op <;> rfl
theorem run_eql_ptr_none {P:Program} (w:World) (t e:TypeId) (a:Option Addr) (h:P.underlying t=some (.pointer e)):(binOp .eql t (.pointer a) (.pointer none)).run P w=.ok (.bool a.isNone) w:=by
 have q:∀ d:Nat,(Op.equalIn (d+1) t (.pointer a) (.pointer none)).run P w=.ok a.isNone w:=fun d=>by cases a <;> simp [Op.equalIn,run_underlying h]
 have e' : (Op.equal t (.pointer a) (.pointer none)).run P w=.ok a.isNone w:=q 9999
 simp only [binOp]
 simp [e']
theorem run_neq_ptr_none {P:Program} (w:World) (t e:TypeId) (a:Option Addr) (h:P.underlying t=some (.pointer e)):(binOp .neq t (.pointer a) (.pointer none)).run P w=.ok (.bool (!a.isNone)) w:=by
 have q:∀ d:Nat,(Op.equalIn (d+1) t (.pointer a) (.pointer none)).run P w=.ok a.isNone w:=fun d=>by cases a <;> simp [Op.equalIn,run_underlying h]
 have e' : (Op.equal t (.pointer a) (.pointer none)).run P w=.ok a.isNone w:=q 9999
 simp only [binOp]
 simp [e']
theorem eqGuard_at_ptr {op:BinOp} {t:TypeId} {x y:Operand} {v:Value} (a:Option Addr):eqGuard op t x y (.pointer a) v=pure ():=by cases op <;> rfl
theorem nbin_sound {P:Program} {op:BinOp} {t:TypeId} {a b:NC} {u v:Value} {c:List Bool} {r:NC} {Γ:Env} (w:World) (x y:Operand) (ha:CR Γ a u) (hb:CR Γ b v)
  (h:nbin P op t a b=some (c,r)) (hc:allT c) :
  ∃ z,(do eqGuard op t x y u v; binOp op t u v:Sem Value).run P w=.ok z w∧CR Γ r z:=by
 unfold nbin at h
 split at h
 ·rename_i k m k' n
  obtain ⟨rfl,-⟩:=ha
  obtain ⟨rfl,-⟩:=hb
  rw [eqGuard_at_int]
  simp only [pure_bind]
  split at h
  ·cases h
   have hn:0≤n:=by simpa [allT] using hc
   refine ⟨.int k (shlv k m n),?_,rfl,rfl⟩
   have:¬ n<0:=by omega
   simp [binOp,Op.shift,this,shlv]
  ·cases h
   have hn:0≤n:=by simpa [allT] using hc
   refine ⟨.int k (shrv k m n),?_,rfl,rfl⟩
   have:¬ n<0:=by omega
   simp [binOp,Op.shift,this,shrv]
  ·split at h
   ·rename_i e; subst e
    exact nbinI_sound w Γ h hc
   ·cases h
 ·rename_i m n
  obtain ⟨rfl,-⟩:=ha
  obtain ⟨rfl,-⟩:=hb
  rw [eqGuard_at_bool]
  simp only [pure_bind]
  split at h
  ·rename_i hu
   split at h <;> first
    | (cases h; done)
    | (cases h; exact ⟨_,run_eql_bool w t m n hu,⟨rfl,rfl⟩⟩)
    | (cases h; exact ⟨_,run_neq_bool w t m n hu,⟨rfl,rfl⟩⟩)
  ·cases h
 ·rename_i m n
  obtain ⟨rfl,-⟩:=ha
  obtain ⟨rfl,-⟩:=hb
  rw [eqGuard_at_string]
  simp only [pure_bind]
  split at h
  ·cases h
   have hn:((m.size+n.size:Nat):Int)≤9223372036854775807:=of_decide_eq_true (hc _ (List.mem_singleton.2 rfl))
   have hm:¬ ((m.size+n.size:Nat):Int) > IntKind.i64.max:=by
    show ¬ ((m.size+n.size:Nat):Int) > 9223372036854775807
    omega
   exact ⟨.string (m++n),by simp only [binOp,Op.stringOp,if_neg hm,Sem.run_pure],⟨rfl,rfl⟩⟩
  ·cases h
   exact ⟨_,by simp only [binOp,Op.stringOp,Sem.run_pure],⟨rfl,rfl⟩⟩
  ·cases h
   exact ⟨_,by simp only [binOp,Op.stringOp,Sem.run_pure],⟨rfl,rfl⟩⟩
  ·cases h
 ·obtain ⟨⟨B,-,rfl⟩,-⟩:=ha
  obtain ⟨rfl,-⟩:=hb
  rw [eqGuard_at_ptr]
  simp only [pure_bind]
  split at h
  ·rename_i e hu
   split at h <;> first
    | (cases h; done)
    | (cases h; exact ⟨_,run_eql_ptr_none w t e _ hu,⟨rfl,rfl⟩⟩)
    | (cases h; exact ⟨_,run_neq_ptr_none w t e _ hu,⟨rfl,rfl⟩⟩)
  ·cases h
 ·obtain ⟨rfl,-⟩:=ha
  obtain ⟨rfl,-⟩:=hb
  rw [eqGuard_at_ptr]
  simp only [pure_bind]
  split at h
  ·rename_i e hu
   split at h <;> first
    | (cases h; done)
    | (cases h; exact ⟨_,run_eql_ptr_none w t e _ hu,⟨rfl,rfl⟩⟩)
    | (cases h; exact ⟨_,run_neq_ptr_none w t e _ hu,⟨rfl,rfl⟩⟩)
  ·cases h
 ·obtain ⟨⟨B,oo,cap,-,rfl,-⟩,-⟩:=ha
  obtain ⟨rfl,-⟩:=hb
  rw [eqGuard_at_slice]
  simp only [pure_bind]
  split at h
  ·rename_i e hu
   split at h <;> first
    | (cases h; done)
    | (cases h; exact ⟨_,run_eql_slice_none w t e _ _ _ _ _ hu,⟨rfl,rfl⟩⟩)
    | (cases h; exact ⟨_,run_neq_slice_nil_any w t e _ _ _ _ _ hu,⟨rfl,rfl⟩⟩)
  ·cases h
 ·obtain ⟨⟨B,aa,cap,-,rfl,-⟩,-⟩:=ha
  obtain ⟨rfl,-⟩:=hb
  rw [eqGuard_at_slice]
  simp only [pure_bind]
  split at h
  ·rename_i e hu
   split at h <;> first
    | (cases h; done)
    | (cases h; exact ⟨_,run_eql_slice_none w t e _ _ _ _ _ hu,⟨rfl,rfl⟩⟩)
    | (cases h; exact ⟨_,run_neq_slice_nil_any w t e _ _ _ _ _ hu,⟨rfl,rfl⟩⟩)
  ·cases h
 ·obtain ⟨⟨aa,cap,rfl,-,hx⟩,-⟩:=ha
  obtain ⟨rfl,-⟩:=hb
  rw [eqGuard_at_slice]
  simp only [pure_bind]
  split at h
  ·rename_i e hu
   split at h <;> first
    | (cases h; done)
    | skip
   all_goals
    cases h
    have hne:=hc _ (List.mem_singleton.2 rfl)
    rcases hx with rfl | ⟨blk,off,rfl,-⟩
    ·simp at hne
    ·first
      | exact ⟨_,run_eql_slice_none w t e _ _ _ _ _ hu,⟨rfl,rfl⟩⟩
      | exact ⟨_,run_neq_slice_nil_any w t e _ _ _ _ _ hu,⟨rfl,rfl⟩⟩
  ·cases h
 ·obtain ⟨⟨aa,cap,rfl,-,-,hx⟩,-⟩:=ha
  obtain ⟨rfl,-⟩:=hb
  rw [eqGuard_at_slice]
  simp only [pure_bind]
  split at h
  ·rename_i e hu
   split at h <;> first
    | (cases h; done)
    | skip
   all_goals
    cases h
    have hne:=hc _ (List.mem_singleton.2 rfl)
    rcases hx with rfl | ⟨blk,off,rfl,-⟩
    ·simp at hne
    ·first
      | exact ⟨_,run_eql_slice_none w t e _ _ _ _ _ hu,⟨rfl,rfl⟩⟩
      | exact ⟨_,run_neq_slice_nil_any w t e _ _ _ _ _ hu,⟨rfl,rfl⟩⟩
  ·cases h
 ·obtain ⟨rfl,-⟩:=ha
  obtain ⟨rfl,-⟩:=hb
  rw [eqGuard_at_slice]
  simp only [pure_bind]
  split at h
  ·rename_i e hu
   split at h <;> first
    | (cases h; done)
    | (cases h; exact ⟨_,run_eql_slice_none w t e _ _ _ _ _ hu,⟨rfl,rfl⟩⟩)
    | (cases h; exact ⟨_,run_neq_slice_nil_any w t e _ _ _ _ _ hu,⟨rfl,rfl⟩⟩)
  ·cases h
 ·cases h
theorem eqGuard_at_iface {op:BinOp} {t:TypeId} {x y:Operand} {v:Value} (tx:TypeId) (vx:Value):eqGuard op t x y (.iface tx vx) v=pure ():=by cases op <;> rfl
theorem eqGuard_nil_iface {op:BinOp} {t:TypeId} {x y:Operand} (tx:TypeId) (vx:Value):eqGuard op t x y .nilIface (.iface tx vx)=pure ():=by cases op <;> rfl
theorem eqGuard_nil_nil {op:BinOp} {t:TypeId} {x y:Operand} (h:(isConst x||isConst y)=true):eqGuard op t x y .nilIface .nilIface=pure ():=by
 unfold eqGuard
 cases x <;> cases y <;> first | (simp [isConst] at h; done) | (cases op <;> rfl)
theorem isIface_spec {P:Program} {t:TypeId} (h:isIface P t=true):∃ ms,P.underlying t=some (.interface ms):=by
 unfold isIface at h
 split at h
 ·rename_i ms hu; exact ⟨ms,hu⟩
 ·cases h
theorem errEq_sound {P:Program} {gl:List Nat} {t:TypeId} {x y:Operand} {a b:NC} {u v:Value} {r:Bool} {Γ:Env} {rg:List (Option Reg)} {w:World} (hw:WRel Γ rg w) (hG:GlobOk gl Γ) (ht:isIface P t=true) (ha:CR Γ a u) (hb:CR Γ b v)
  (h:errEq P gl x y a b=some r):(∀ op,eqGuard op t x y u v=pure ())∧(Op.equal t u v).run P w=.ok r w∧((∃ tx vx,u=.iface tx vx)∨u=.nilIface)∧((∃ tx vx,v=.iface tx vx)∨v=.nilIface):=by
 obtain ⟨ms,hms⟩:=isIface_spec ht
 have er:∀ {k:Nat} {z:Value},gl.tail.contains k=true→CR Γ (.e k) z→∃ ad ca ta,z=.iface (gl.headD 0) (.pointer (some ad))∧Γ.er k=some z∧w.heap[ad.block]? = some (.cells ca ta (0,0)):=by
  intro k z hk hz
  obtain ⟨ad,c,e,fz,ca,ta,h1,h2,h3,h4⟩:=hG.1 k (List.contains_iff_mem.1 hk)
  have hz1:Γ.er k=some z:=hz.1
  rw [h1] at hz1
  cases hz1
  exact ⟨ad,ca,ta,rfl,h1,hw.kp _ _ h4⟩
 unfold errEq at h
 split at h
 ·rename_i k
  split at h
  ·rename_i hk
   cases h
   obtain ⟨ad,ca,ta,rfl,-,-⟩:=er hk ha
   obtain ⟨rfl,-⟩:=hb
   have q:∀ (d:Nat) (tx:TypeId) (vx:Value),(Op.equalIn (d+1) t (.iface tx vx) .nilIface).run P w=.ok false w:=fun d tx vx=>by simp [Op.equalIn,run_underlying hms]
   exact ⟨fun op=>eqGuard_at_iface _ _,q 9999 _ _,.inl ⟨_,_,rfl⟩,.inr rfl⟩
  ·cases h
 ·rename_i k
  split at h
  ·rename_i hk
   cases h
   obtain ⟨ad,ca,ta,rfl,-,-⟩:=er hk hb
   obtain ⟨rfl,-⟩:=ha
   have q:∀ (d:Nat) (tx:TypeId) (vx:Value),(Op.equalIn (d+1) t .nilIface (.iface tx vx)).run P w=.ok false w:=fun d tx vx=>by simp [Op.equalIn,run_underlying hms]
   exact ⟨fun op=>eqGuard_nil_iface _ _,q 9999 _ _,.inr rfl,.inl ⟨_,_,rfl⟩⟩
  ·cases h
 ·split at h
  ·rename_i hc
   cases h
   obtain ⟨rfl,-⟩:=ha
   obtain ⟨rfl,-⟩:=hb
   have q:∀ (d:Nat),(Op.equalIn (d+1) t .nilIface .nilIface).run P w=.ok true w:=fun d=>by simp [Op.equalIn,run_underlying hms]
   exact ⟨fun op=>eqGuard_nil_nil hc,q 9999,.inr rfl,.inr rfl⟩
  ·cases h
 ·rename_i k l
  split at h
  ·rename_i hk
   simp only [Bool.and_eq_true] at hk
   obtain ⟨⟨hty,hk⟩,hl⟩:=hk
   obtain ⟨ad,ca,ta,rfl,e1,c1⟩:=er hk ha
   obtain ⟨bd,cb,tb,rfl,e2,c2⟩:=er hl hb
   unfold errTy at hty
   split at hty
   case h_2=>cases hty
   rename_i te hte
   split at hty
   case h_2=>cases hty
   rename_i i j hi hj
   simp only [Bool.and_eq_true,bne_iff_ne] at hty
   refine ⟨fun op=>eqGuard_at_iface _ _,?_,.inl ⟨_,_,rfl⟩,.inl ⟨_,_,rfl⟩⟩
   by_cases hkl:k=l
   ·subst hkl
    rw [e1] at e2
    cases e2
    cases h
    rw [beq_self_eq_true]
    exact run_equalIn_iface_ptr_same w 9998 ad hms hte hi hty.1 hj
   ·have hne:=hG.2 k (List.contains_iff_mem.1 hk) l (List.contains_iff_mem.1 hl) hkl
    have hab:ad≠bd:=by
     rintro rfl
     exact hne (e1.trans e2.symm)
    have hr:r=false:=by
     have:(k==l)=false:=by simpa using hkl
     rw [this] at h
     cases h
     rfl
    subst hr
    exact run_equalIn_iface_ptr_other w 9998 hms hte hi hty.1 hj hty.2 hab c1 c2
  ·cases h
 ·cases h
theorem nbinE_sound {P:Program} {gl:List Nat} {op:BinOp} {t:TypeId} {x y:Operand} {a b:NC} {u v:Value} {c:List Bool} {r:NC} {Γ:Env} {rg:List (Option Reg)} {w:World} (hw:WRel Γ rg w) (hG:GlobOk gl Γ) (ha:CR Γ a u) (hb:CR Γ b v)
  (h:nbinE P gl op t x y a b=some (c,r)) (hc:allT c) :
  ∃ z,(do eqGuard op t x y u v; binOp op t u v:Sem Value).run P w=.ok z w∧CR Γ r z:=by
 unfold nbinE at h
 split at h
 ·rename_i ht
  have fin:∀ {q:Bool},errEq P gl x y a b=some q→(op=.eql∧r=.b q∨op=.neq∧r=.b (!q))→∃ z,(do eqGuard op t x y u v; binOp op t u v:Sem Value).run P w=.ok z w∧CR Γ r z:=by
   intro q hq hr
   obtain ⟨h1,h2,h3,h4⟩:=errEq_sound hw hG ht ha hb hq
   rw [h1 op]
   simp only [pure_bind]
   rcases hr with ⟨rfl,rfl⟩ | ⟨rfl,rfl⟩
   ·refine ⟨.bool q,?_,rfl,rfl⟩
    rcases h3 with ⟨tx,vx,rfl⟩ | rfl <;> rcases h4 with ⟨ty,vy,rfl⟩ | rfl <;> (simp only [binOp]; simp [h2])
   ·refine ⟨.bool (!q),?_,rfl,rfl⟩
    rcases h3 with ⟨tx,vx,rfl⟩ | rfl <;> rcases h4 with ⟨ty,vy,rfl⟩ | rfl <;> (simp only [binOp]; simp [h2])
  split at h
  ·rename_i q hq; cases h; exact fin hq (.inl ⟨rfl,rfl⟩)
  ·rename_i q hq; cases h; exact fin hq (.inr ⟨rfl,rfl⟩)
  ·cases h
 ·exact nbin_sound w x y ha hb h hc
theorem nun_sound {P:Program} {op:UnOp} {a r:NC} {u:Value} {Γ:Env} (w:World) (ha:CR Γ a u) (h:nun op a=some r):∃ z,(Op.unary op u).run P w=.ok z w∧CR Γ r z:=by
 unfold nun at h
 split at h <;> first
  | (cases h; done)
  | (cases h; obtain ⟨rfl,-⟩:=ha; exact ⟨_,by simp [Op.unary,Op.intArith,Op.intBits]; try rfl,⟨rfl,rfl⟩⟩)
theorem qAt_spec {r o w i c es n:Nat}:(qAt r o w i c es n).1=r∧(qAt r o w i c es n).2.1+(qAt r o w i c es n).2.2.2 * (qAt r o w i c es n).2.2.1=o+i * w+c+n * es:=by
 unfold qAt
 split
 ·split
  ·rename_i h
   refine ⟨rfl,?_⟩
   simp only [mulQ_eq,Nat.add_mul,Nat.mul_assoc]
   rw [Nat.mul_comm (w / es) es,Nat.mul_div_cancel' (Nat.dvd_of_mod_eq_zero h.2)]
   omega
  ·exact ⟨rfl,rfl⟩
 ·exact ⟨rfl,rfl⟩
theorem nindexAddr_sound {P:Program} {s:St} {Γ:Env} {w:World} {t:TypeId} {x ix:NC} {v u:Value} {c:List Bool} {r:NS} (hw:WRel Γ s.rg w)
  (hx:CR Γ x v) (hix:CR Γ ix u) (h:nindexAddr P s t x ix=some (c,r)) (hc:allT c):∃ z,(Instr.indexAt t v u).run P w=.ok z w∧SRel Γ r z:=by
 unfold nindexAddr at h
 split at h
 case h_2=>cases h
 rename_i k n
 obtain ⟨rfl,-⟩:=hix
 split at h
 ·rename_i len e r' o ww i cc hu
  obtain ⟨⟨B,hB,rfl⟩,-⟩:=hx
  split at h
  case isFalse=>cases h
  rename_i hl
  cases h
  obtain ⟨ei,hei,-⟩:=info_of_size hl.2
  have h0:0≤n:=(allT_two hc).1
  have h1:n<len:=(allT_two hc).2
  obtain ⟨q1,q2⟩:=qAt_spec (r:=r') (o:=o) (w:=ww) (i:=i) (c:=cc) (es:=sizeT P e) (n:=n.toNat)
  refine ⟨.pointer (some ⟨B.blk,B.o+(o+i * ww+cc+n.toNat * sizeT P e),none⟩),?_,⟨⟨B,by rw [q1]; exact hB,by rw [Nat.add_zero,q2]⟩,rfl⟩⟩
  simp [Instr.indexAt,asIntOf,run_underlying hu,Instr.sureAddr,h0,h1,run_sizeOf hei,Addr.add_lit,Nat.add_assoc]
 ·rename_i e r' o ww i len hu
  obtain ⟨⟨B,ad,cap,hB,rfl,hlc,hcm,had⟩,-⟩:=hx
  split at h
  case isFalse=>cases h
  rename_i hl
  cases h
  have h0:0≤n:=(allT_two hc).1
  have h1:n<len:=(allT_two hc).2
  obtain ⟨ei,hei,-⟩:=info_of_size (P:=P) (t:=e) (by omega)
  rcases had with rfl | hc0
  ·refine ⟨.pointer (some ⟨B.blk,B.o+(o+(addJ i n.toNat) * ww+0),none⟩),?_,⟨⟨B,hB,rfl⟩,rfl⟩⟩
   simp [Instr.indexAt,asIntOf,run_underlying hu,h0,h1,run_sizeOf hei,Addr.add_lit,hl.1,addJ_eq,Nat.add_mul,Nat.add_assoc]
  ·omega
 ·rename_i len e r' i cc hu
  obtain ⟨⟨B,hB,rfl⟩,-⟩:=hx
  split at h
  case h_2=>cases h
  rename_i g hg
  have hst:=hw.st hB ((reg_eq s r' g).1 hg)
  split at h
  case isFalse=>cases h
  rename_i hl
  obtain ⟨ei,hei,-⟩:=info_of_size hl.2
  have key:∀ {r0:NS},c=[decide (0≤n),decide (n<len)]→r0=.v (.c (.p r' i (cc+n.toNat * sizeT P e)))→∃ z,(Instr.indexAt t (.pointer (some ⟨B.blk,B.o+(i * B.st+cc),none⟩)) (.int k n)).run P w=.ok z w∧SRel Γ r0 z:=by
   rintro r0 rfl rfl
   have h0:0≤n:=(allT_two hc).1
   have h1:n<len:=(allT_two hc).2
   refine ⟨.pointer (some ⟨B.blk,B.o+(i * B.st+(cc+n.toNat * sizeT P e)),none⟩),?_,⟨⟨B,hB,rfl⟩,rfl⟩⟩
   simp [Instr.indexAt,asIntOf,run_underlying hu,Instr.sureAddr,h0,h1,run_sizeOf hei,Addr.add_lit,Nat.add_assoc]
  split at h
  ·simp only [Option.some.injEq,Prod.mk.injEq] at h
   obtain ⟨z,hz,hr⟩:=key h.1.symm rfl
   refine ⟨z,hz,?_⟩
   rw [← h.2]
   obtain ⟨⟨B2,hB2,hz2⟩,h1⟩:=hr
   exact ⟨⟨B2,hB2,by rw [hz2,Nat.zero_mul,Nat.zero_add,Nat.add_zero]⟩,h1⟩
  ·cases h
  split at h
  ·rename_i hsz
   split at h
   ·simp only [Option.some.injEq,Prod.mk.injEq] at h
    obtain ⟨z,hz,hr⟩:=key h.1.symm rfl
    refine ⟨z,hz,?_⟩
    rw [← h.2]
    obtain ⟨⟨B2,hB2,hz2⟩,h1⟩:=hr
    refine ⟨⟨B2,hB2,?_⟩,h1⟩
    rw [hB] at hB2; cases hB2
    rw [hz2,hsz,← hst,Nat.add_mul]; simp
   ·simp only [Option.some.injEq,Prod.mk.injEq] at h
    exact key h.1.symm h.2.symm
  ·simp only [Option.some.injEq,Prod.mk.injEq] at h
   exact key h.1.symm h.2.symm
 ·rename_i e r' off len hu
  obtain ⟨⟨B,o,cap,hB,rfl,hlc,hcm,hcap⟩,-⟩:=hx
  split at h
  case h_2=>cases h
  rename_i g hg
  obtain ⟨cs,hcs,hst,-⟩:=hw.atW hB ((reg_eq s r' g).1 hg)
  have ho0:=hw.o0 hB ((reg_eq s r' g).1 hg)
  split at h
  case isFalse=>cases h
  rename_i hl
  cases h
  have h0:0≤n:=(allT_two hc).1
  have h1:n<len:=(allT_two hc).2
  obtain ⟨ei,hei,-⟩:=info_of_size (P:=P) (t:=e) (by omega)
  rcases hcap with ⟨rfl,-⟩ | hc0
  ·refine ⟨.pointer (some ⟨B.blk,(off+n.toNat) * B.st+0,none⟩),?_,⟨⟨B,Env.wh_pt hB,by rw [ho0,Nat.zero_add]⟩,rfl⟩⟩
   simp [Instr.indexAt,asIntOf,run_underlying hu,h0,h1,run_sizeOf hei,Addr.add_lit,hl.1,← hst,Nat.add_mul]
  ·omega
 ·rename_i e r' len hu
  obtain ⟨hx,-⟩:=hx
  split at h
  case h_2=>cases h
  rename_i g hg
  split at h
  case isFalse=>cases h
  rename_i hl
  cases h
  have h0:0≤n:=(allT_two hc).1
  have h1:n<len:=(allT_two hc).2
  rcases hx with ⟨hlen,-⟩ | ⟨B,o,cap,hB,rfl,hlc,hcm,hcap⟩
  ·omega
  obtain ⟨cs,hcs,hst,-⟩:=hw.atW hB ((reg_eq s r' g).1 hg)
  have ho0:=hw.o0 hB ((reg_eq s r' g).1 hg)
  obtain ⟨ei,hei,-⟩:=info_of_size (P:=P) (t:=e) (by omega)
  rcases hcap with ⟨rfl,-⟩ | hc0
  ·refine ⟨.pointer (some ⟨B.blk,n.toNat * B.st+0,none⟩),?_,⟨⟨B,Env.wh_pt hB,by rw [ho0,Nat.zero_add]⟩,rfl⟩⟩
   simp [Instr.indexAt,asIntOf,run_underlying hu,h0,h1,run_sizeOf hei,Addr.add_lit,hl.1,← hst]
  ·omega
 ·rename_i e k' xs hu
  obtain ⟨⟨a,cap,rfl,hlc,hro⟩,-⟩:=hx
  split at h
  case isFalse=>cases h
  rename_i hl
  cases h
  have h0:0≤n:=(allT_two hc).1
  have h1:n<xs.length:=(allT_two hc).2
  obtain ⟨ei,hei,-⟩:=info_of_size (P:=P) (t:=e) (by omega)
  rcases hro with rfl | ⟨blk,off,rfl,hro⟩
  ·simp at h1; omega
  ·refine ⟨.pointer (some ⟨blk,off+n.toNat,none⟩),?_,⟨⟨blk,off,rfl,hro⟩,rfl⟩⟩
   simp [Instr.indexAt,asIntOf,run_underlying hu,h0,h1,run_sizeOf hei,Addr.add_lit,hl]
 ·rename_i e ks xs hu
  obtain ⟨⟨a,cap,rfl,hlc,hks,hro⟩,-⟩:=hx
  split at h
  case isFalse=>cases h
  rename_i hl
  cases h
  have h0:0≤n:=(allT_two hc).1
  have h1:n<xs.length:=(allT_two hc).2
  obtain ⟨ei,hei,-⟩:=info_of_size (P:=P) (t:=e) (by omega)
  rcases hro with rfl | ⟨blk,off,rfl,hro⟩
  ·simp at h1; omega
  ·refine ⟨.pointer (some ⟨blk,off+n.toNat * ks.length+0,none⟩),?_,⟨⟨blk,off,rfl,hro⟩,rfl⟩⟩
   simp [Instr.indexAt,asIntOf,run_underlying hu,h0,h1,run_sizeOf hei,Addr.add_lit,hl]
 ·rename_i e sch xs hu
  obtain ⟨⟨a,cap,rfl,hlc,hks,hk,hro⟩,-⟩:=hx
  split at h
  case isFalse=>cases h
  rename_i hl
  cases h
  have h0:0≤n:=(allT_two hc).1
  have h1:n<xs.length:=(allT_two hc).2
  obtain ⟨ei,hei,-⟩:=info_of_size (P:=P) (t:=e) (by omega)
  rcases hro with rfl | ⟨blk,off,vs,rfl,hro,hr⟩
  ·simp at h1; omega
  ·refine ⟨.pointer (some ⟨blk,off+(n.toNat * schSize sch+0),none⟩),?_,⟨⟨blk,off,vs,rfl,hks,hk,hro,hr⟩,rfl⟩⟩
   simp [Instr.indexAt,asIntOf,run_underlying hu,h0,h1,run_sizeOf hei,Addr.add_lit,hl]
 ·cases h
theorem fieldOff_spec {P:Program} {t:TypeId} {f o:Nat} {ft:TypeId} (h:fieldOff P t f=some (o,ft)) :
  ∃ fs x i,P.underlying t=some (.struct fs)∧fs[f]? = some x∧x.offset=o∧x.type=ft∧P.info? ft=some i∧sizeT P ft≠0:=by
 unfold fieldOff at h
 split at h
 ·rename_i fs hu
  split at h
  ·rename_i x hx
   split at h
   ·cases h
   ·rename_i hs
    cases h
    obtain ⟨i,hi,-⟩:=info_of_size (P:=P) (t:=x.type) (by omega)
    exact ⟨fs,x,i,hu,hx,rfl,rfl,hi,hs⟩
  ·cases h
 ·cases h
theorem run_fieldAt {P:Program} {w:World} {t:TypeId} {f o:Nat} {ft:TypeId} {b q:Nat} (h:fieldOff P t f=some (o,ft)) :
  (Instr.fieldAt t (.pointer (some ⟨b,q,none⟩)) f).run P w=.ok (.pointer (some ⟨b,q+o,none⟩)) w:=by
 obtain ⟨fs,x,i,hu,hx,rfl,rfl,hi,hs⟩:=fieldOff_spec h
 simp [Instr.fieldAt,run_underlying hu,hx,Instr.sureAddr,fieldPlace,run_sizeOf hi,hs,Addr.add_lit]
theorem sub_rel {Γ:Env} {xs l:List NC} {vs:List Value} {o n:Nat} (h:sub xs o n=some l) (r:R2 (CR Γ) xs vs):R2 (CR Γ) l ((vs.drop o).take n)∧l.length=n:=by
 unfold sub at h
 simp only at h
 split at h
 ·rename_i e; cases h; exact ⟨(r.drop _).take _,e⟩
 ·cases h
theorem run_field {P:Program} {w:World} {Γ:Env} {t:TypeId} {f o:Nat} {ft:TypeId} {xs:List NC} {vs:List Value} (h:fieldOff P t f=some (o,ft)) (r:R2 (CR Γ) xs vs) :
  (∀ l,isAggT P ft=true→(P.underlying ft).isSome=true→sub xs o (sizeT P ft)=some l→∃ z,(Instr.field t (.agg vs.toArray) f).run P w=.ok z w∧SRel Γ (.v (.ag l)) z)∧
  (∀ y,isAggT P ft=false→(P.underlying ft).isSome=true→xs[o]? = some y→∃ z,(Instr.field t (.agg vs.toArray) f).run P w=.ok z w∧SRel Γ (.v (.c y)) z):=by
 obtain ⟨fs,x,i,hu,hx,rfl,rfl,hi,hs⟩:=fieldOff_spec h
 constructor
 ·intro l ha hd hsub
  obtain ⟨d,hd⟩:=Option.isSome_iff_exists.1 hd
  obtain ⟨hr,hl⟩:=sub_rel hsub r
  refine ⟨.agg ((vs.drop x.offset).take (sizeT P x.type)).toArray,?_,⟨_,rfl,hr⟩⟩
  simp [Instr.field,run_underlying hu,hx,part,run_isAgg hd,ha,asAgg,run_sizeOf hi]
 ·intro y ha hd hy
  obtain ⟨d,hd⟩:=Option.isSome_iff_exists.1 hd
  obtain ⟨z,hz,hr⟩:=r.get hy
  exact ⟨z,by simp [Instr.field,run_underlying hu,hx,part,run_isAgg hd,ha,asAgg,hz],hr⟩
def BRel (Γ:Env):Option NC→Option Value→Prop
 | none,v=>v=none
 | some x,v=>∃ u,v=some u∧CR Γ x u
theorem sliceB_sound {P:Program} {w:World} {Γ:Env} {isS:Bool} {len cap:Nat} {lo hi:Option NC} {vl vh:Option Value} {c:List Bool} {a b:Nat} (hl:BRel Γ lo vl) (hh:BRel Γ hi vh)
  (hlc:len≤cap) (h:sliceB len lo hi=some (c,a,b)) (hc:allT c) :
  (Instr.sliceBounds isS len cap vl vh none).run P w=.ok (a,b,cap) w∧a≤b∧b≤len:=by
 unfold sliceB at h
 split at h <;> try (cases h; done)
 ·cases h
  cases hl; cases hh
  exact ⟨by simp [Instr.sliceBounds],by omega,by omega⟩
 ·rename_i k n
  cases h
  cases hl
  obtain ⟨u,rfl,rfl,-⟩:=hh
  obtain ⟨h0,h1⟩:=allT_two hc
  refine ⟨?_,by omega,by omega⟩
  have h2:n≤cap:=by omega
  simp [Instr.sliceBounds,Instr.sliceBound,asIntOf,h0,h2]
 ·rename_i k n
  cases h
  cases hh
  obtain ⟨u,rfl,rfl,-⟩:=hl
  obtain ⟨h0,h1⟩:=allT_two hc
  refine ⟨?_,by omega,by omega⟩
  simp [Instr.sliceBounds,Instr.sliceBound,asIntOf,h0,h1]
 ·rename_i k m k' n
  cases h
  obtain ⟨u,rfl,rfl,-⟩:=hl
  obtain ⟨u,rfl,rfl,-⟩:=hh
  have hc' : 0≤m∧m≤n∧n≤len:=by simpa [allT] using hc
  obtain ⟨h0,h1,h2⟩:=hc'
  refine ⟨?_,by omega,by omega⟩
  have h3:0≤n:=by omega
  have h4:n≤cap:=by omega
  have h5:(n.toNat:Int)=n:=Int.toNat_of_nonneg h3
  simp [Instr.sliceBounds,Instr.sliceBound,asIntOf,h0,h3,h4,h1,h5]
theorem run_slice_gen {P:Program} {w:World} {t e:TypeId} {i:TypeInfo} {a:Option Addr} {len cap l h:Nat} {vl vh:Option Value} (hu:P.underlying t=some (.slice e)) (hi:P.info? e=some i)
  (hb:(Instr.sliceBounds true len cap vl vh none).run P w=.ok (l,h,cap) w) :
  (Instr.sliceAt t (.slice a len cap) vl vh none).run P w=.ok (.slice (if cap=l then a else a.map (·.add (l * sizeT P e))) (h - l) (cap - l)) w:=by
 simp [Instr.sliceAt,run_underlying hu,Instr.slice,hb,run_sizeOf hi]
theorem ints_sub {xs:List Int} {k:IntKind} {a b j:Nat} {v:Value} (h:(((xs.take b).drop a).map (Value.int k))[j]? = some v):(xs.map (Value.int k))[a+j]? = some v:=by
 rw [List.map_drop,List.map_take,List.getElem?_drop,List.getElem?_take] at h
 split at h
 ·exact h
 ·cases h
theorem rowsV_sub {ks:List CK} {xs:List (List Sc)} {a b j:Nat} {v:Value} (h:(rowsV ks ((xs.take b).drop a))[j]? = some v):(rowsV ks xs)[a * ks.length+j]? = some v:=by
 rw [← rowsV_drop,← rowsV_take,List.getElem?_drop,List.getElem?_take] at h
 split at h
 ·exact h
 ·cases h
theorem RoRow.shift {Γ:Env} {b o d:Nat} {vs vs' : List Value} (h:RoRow Γ b o vs) (hs:∀ (j:Nat) (v:Value),vs'[j]? = some v→vs[d+j]? = some v):RoRow Γ b (o+d) vs':=by
 obtain ⟨h1,c,e,fz,h2,h3⟩:=h
 exact ⟨h1,c,e,fz,h2,fun j x hj=>by rw [Nat.add_assoc]; exact h3 _ _ (hs j x hj)⟩
theorem nslice_sound {P:Program} {s:St} {Γ:Env} {w:World} {t:TypeId} {x:NC} {v:Value} {lo hi:Option NC} {vl vh:Option Value} {c:List Bool} {r:NS} (hw:WRel Γ s.rg w)
  (hx:CR Γ x v) (hl:BRel Γ lo vl) (hh:BRel Γ hi vh) (h:nslice P s t x lo hi=some (c,r)) (hc:allT c) :
  ∃ z,(Instr.sliceAt t v vl vh none).run P w=.ok z w∧SRel Γ r z:=by
 unfold nslice at h
 have arr:∀ {n:Nat} {e:TypeId} {B:Blk} {ad a b:Nat} {cs:List Bool},P.underlying t=some (.array n e)→0<sizeT P e→n≤1000000→sliceB n lo hi=some (cs,a,b)→allT cs→
   (Instr.sliceAt t (.pointer (some ⟨B.blk,ad,none⟩)) vl vh none).run P w=.ok (.slice (some ⟨B.blk,if n=a then ad else ad+a * sizeT P e,none⟩) (b - a) (n - a)) w∧b - a≤n - a∧n - a≤maxLen:=by
  intro n e B ad a b cs hu h0 hn hsl hcs
  obtain ⟨ei,hei,-⟩:=info_of_size h0
  obtain ⟨hb,hab,hbl⟩:=sliceB_sound (P:=P) (w:=w) (isS:=false) hl hh (Nat.le_refl _) hsl hcs
  refine ⟨?_,by omega,by simp only [maxLen]; omega⟩
  have hrun:(Instr.sliceAt t (.pointer (some ⟨B.blk,ad,none⟩)) vl vh none).run P w=.ok (.slice (some (if n=a then ⟨B.blk,ad,none⟩ else (⟨B.blk,ad,none⟩:Addr).add (a * sizeT P e))) (b - a) (n - a)) w:=by
   simp [Instr.sliceAt,run_underlying hu,Instr.sureAddr,hb,run_sizeOf hei]
  rw [hrun]
  split <;> simp [Addr.add_lit]
 split at h
 ·rename_i n e r' o ww i cc hu
  obtain ⟨⟨B,hB,rfl⟩,-⟩:=hx
  split at h
  case h_2=>cases h
  rename_i cs a b hsl
  split at h
  case isFalse=>cases h
  rename_i hsz
  cases h
  obtain ⟨hrun,hle,hmax⟩:=arr (B:=B) (ad:=B.o+(o+i * ww+cc)) hu hsz.1 hsz.2 hsl hc
  obtain ⟨q1,q2⟩:=qAt_spec (r:=r') (o:=o) (w:=ww) (i:=i) (c:=cc) (es:=sizeT P e) (n:=a)
  refine ⟨_,hrun,⟨⟨B,_,n - a,by rw [q1]; exact hB,rfl,hle,hmax,?_⟩,rfl⟩⟩
  by_cases e1:n=a
  ·right; omega
  ·left; rw [if_neg e1,q2]; omega
 ·rename_i n e r' cc hu
  obtain ⟨⟨B,hB,rfl⟩,-⟩:=hx
  split at h
  case h_2=>cases h
  rename_i g cs a b hg hsl
  split at h
  case isFalse=>cases h
  rename_i hsz
  cases h
  obtain ⟨hrun,hle,hmax⟩:=arr (B:=B) (ad:=B.o+(0 * B.st+cc)) hu hsz.2.1 hsz.2.2 hsl hc
  refine ⟨_,hrun,⟨⟨B,_,n - a,hB,rfl,hle,hmax,?_⟩,rfl⟩⟩
  by_cases e1:n=a
  ·right; omega
  ·left; rw [if_neg e1,Nat.zero_mul,Nat.zero_add]; omega
 ·rename_i e r' o ww i len hu
  obtain ⟨⟨B,ad,cap,hB,rfl,hlc,hcm,had⟩,-⟩:=hx
  split at h
  case h_2=>cases h
  rename_i c' a b hsl
  split at h
  case isFalse=>cases h
  rename_i hsz
  cases h
  obtain ⟨ei,hei,-⟩:=info_of_size (P:=P) (t:=e) (by omega)
  obtain ⟨hb,hab,hbl⟩:=sliceB_sound (P:=P) (w:=w) (isS:=true) hl hh hlc hsl hc
  refine ⟨_,run_slice_gen hu hei hb,⟨⟨B,if cap=a then ad else ad+a * sizeT P e,cap - a,hB,?_,by omega,by omega,?_⟩,rfl⟩⟩
  ·split <;> simp [Addr.add_lit]
  ·rcases had with rfl | h0
   ·by_cases hca:cap=a
    ·right; omega
    ·left
     rw [if_neg hca,hsz.1,addJ_eq,Nat.add_mul]; omega
   ·right; omega
 ·rename_i e r' off len hu
  obtain ⟨⟨B,o,cap,hB,rfl,hlc,hcm,hcap⟩,-⟩:=hx
  split at h
  case h_2=>cases h
  rename_i g c' a b hg hsl
  split at h
  case isFalse=>cases h
  rename_i hsz
  cases h
  obtain ⟨cs,hcs,hst,-⟩:=hw.atW hB ((reg_eq s r' g).1 hg)
  obtain ⟨ei,hei,-⟩:=info_of_size (P:=P) (t:=e) (by omega)
  obtain ⟨hb,hab,hbl⟩:=sliceB_sound (P:=P) (w:=w) (isS:=true) hl hh hlc hsl hc
  refine ⟨_,run_slice_gen hu hei hb,⟨⟨B,if cap=a then o else o+a * sizeT P e,cap - a,hB,?_,by omega,by omega,?_⟩,rfl⟩⟩
  ·split <;> simp [Addr.add_lit]
  ·rcases hcap with ⟨rfl,h2⟩ | h0
   ·by_cases hca:cap=a
    ·right; omega
    ·left
     rw [if_neg hca,hsz.1,← hst]
     refine ⟨by rw [Nat.add_mul],?_⟩
     rw [show off+a+(cap - a)=off+cap by omega]; exact h2
   ·right; omega
 ·rename_i e r' len hu
  obtain ⟨hx,-⟩:=hx
  split at h
  case h_2=>cases h
  rename_i g c' a b hg hsl
  split at h
  case isFalse=>cases h
  rename_i hsz
  cases h
  have hpos:0<len:=of_decide_eq_true (hc _ List.mem_cons_self)
  have hc:allT c':=fun b hb=>hc b (List.mem_cons_of_mem _ hb)
  rcases hx with ⟨hlen,-⟩ | ⟨B,o,cap,hB,rfl,hlc,hcm,hcap⟩
  ·omega
  obtain ⟨cs,hcs,hst,-⟩:=hw.atW hB ((reg_eq s r' g).1 hg)
  obtain ⟨ei,hei,-⟩:=info_of_size (P:=P) (t:=e) (by omega)
  obtain ⟨hb,hab,hbl⟩:=sliceB_sound (P:=P) (w:=w) (isS:=true) hl hh hlc hsl hc
  refine ⟨_,run_slice_gen hu hei hb,⟨⟨B,if cap=a then o else o+a * sizeT P e,cap - a,hB,?_,by omega,by omega,?_⟩,rfl⟩⟩
  ·split <;> simp [Addr.add_lit]
  ·rcases hcap with ⟨rfl,h2⟩ | h0
   ·by_cases hca:cap=a
    ·right; omega
    ·left
     rw [if_neg hca,hsz.1,← hst,Nat.zero_mul,Nat.zero_add]
     refine ⟨rfl,?_⟩
     rw [show a+(cap - a)=0+cap by omega]; exact h2
   ·right; omega
 ·rename_i e k xs hu
  obtain ⟨⟨a',cap,rfl,hlc,hro⟩,-⟩:=hx
  split at h
  case h_2=>cases h
  rename_i c' a b hsl
  split at h
  case isFalse=>cases h
  rename_i hsz
  cases h
  obtain ⟨ei,hei,-⟩:=info_of_size (P:=P) (t:=e) (by omega)
  obtain ⟨hb,hab,hbl⟩:=sliceB_sound (P:=P) (w:=w) (isS:=true) hl hh hlc hsl hc
  have hlen:((xs.take b).drop a).length=b - a:=by simp; omega
  refine ⟨_,run_slice_gen hu hei hb,⟨⟨if cap=a then a' else a'.map (·.add (a * sizeT P e)),cap - a,by rw [hlen],by rw [hlen]; omega,?_⟩,rfl⟩⟩
  by_cases he:b - a=0
  ·left; exact List.eq_nil_of_length_eq_zero (by rw [hlen]; exact he)
  ·right
   rcases hro with rfl | ⟨blk,off,rfl,hro⟩
   ·simp at hbl; omega
   ·refine ⟨blk,off+a,?_,hro.shift fun j v hj=>ints_sub hj⟩
    rw [if_neg (by omega),hsz]; simp [Addr.add_lit]
 ·rename_i e ks xs hu
  obtain ⟨⟨a',cap,rfl,hlc,hks,hro⟩,-⟩:=hx
  split at h
  case h_2=>cases h
  rename_i c' a b hsl
  split at h
  case isFalse=>cases h
  rename_i hsz
  cases h
  obtain ⟨ei,hei,-⟩:=info_of_size (P:=P) (t:=e) (by omega)
  obtain ⟨hb,hab,hbl⟩:=sliceB_sound (P:=P) (w:=w) (isS:=true) hl hh hlc hsl hc
  have hlen:((xs.take b).drop a).length=b - a:=by simp; omega
  refine ⟨_,run_slice_gen hu hei hb,⟨⟨if cap=a then a' else a'.map (·.add (a * sizeT P e)),cap - a,by rw [hlen],by rw [hlen]; omega,hks,?_⟩,rfl⟩⟩
  by_cases he:b - a=0
  ·left; exact List.eq_nil_of_length_eq_zero (by rw [hlen]; exact he)
  ·right
   rcases hro with rfl | ⟨blk,off,rfl,hro⟩
   ·simp at hbl; omega
   ·refine ⟨blk,off+a * ks.length,?_,hro.shift fun j v hj=>rowsV_sub hj⟩
    rw [if_neg (by omega),hsz]; simp [Addr.add_lit]
 ·rename_i e sch xs hu
  obtain ⟨⟨a',cap,rfl,hlc,hks,hk,hro⟩,-⟩:=hx
  split at h
  case h_2=>cases h
  rename_i c' a b hsl
  split at h
  case isFalse=>cases h
  rename_i hsz
  cases h
  obtain ⟨ei,hei,-⟩:=info_of_size (P:=P) (t:=e) (by omega)
  obtain ⟨hb,hab,hbl⟩:=sliceB_sound (P:=P) (w:=w) (isS:=true) hl hh hlc hsl hc
  have hlen:((xs.take b).drop a).length=b - a:=by simp; omega
  refine ⟨_,run_slice_gen hu hei hb,⟨⟨if cap=a then a' else a'.map (·.add (a * sizeT P e)),cap - a,by rw [hlen],by rw [hlen]; omega,hks,(hk.take b).drop a,?_⟩,rfl⟩⟩
  by_cases he:b - a=0
  ·left; exact List.eq_nil_of_length_eq_zero (by rw [hlen]; exact he)
  ·right
   rcases hro with rfl | ⟨blk,off,vs,rfl,hro,hr⟩
   ·simp at hbl; omega
   ·refine ⟨blk,off+a * schSize sch,(vs.take (b * schSize sch)).drop (a * schSize sch),?_,hro.shift fun j v hj=>?_,?_⟩
    ·rw [if_neg (by omega),hsz]; simp [Addr.add_lit]
    ·rw [List.getElem?_drop,List.getElem?_take] at hj
     split at hj
     ·exact hj
     ·cases hj
    ·rw [← tabNC_drop (hk.take b),← tabNC_take hk]
     exact (hr.take _).drop _
 ·rename_i z hu
  obtain ⟨rfl,-⟩:=hx
  split at h
  case h_2=>cases h
  rename_i c' a b hsl
  cases h
  obtain ⟨hb,hab,hbl⟩:=sliceB_sound (P:=P) (w:=w) (isS:=false) hl hh (Nat.le_refl _) hsl hc
  exact ⟨.string (z.extract a b),by simp [Instr.sliceAt,run_underlying hu,Instr.slice,hb],⟨rfl,rfl⟩⟩
 ·rename_i e hu
  obtain ⟨rfl,-⟩:=hx
  split at h
  case h_2=>cases h
  rename_i c' a b hsl
  split at h
  case isFalse=>cases h
  rename_i hsz
  cases h
  obtain ⟨ei,hei,-⟩:=info_of_size hsz
  obtain ⟨hb,hab,hbl⟩:=sliceB_sound (P:=P) (w:=w) (isS:=true) hl hh (Nat.le_refl _) hsl hc
  have ha0:a=0:=by omega
  have hb0:b=0:=by omega
  subst ha0 hb0
  have:=run_slice_gen (a:=none) hu hei hb
  exact ⟨_,this,by simp; exact ⟨rfl,rfl⟩⟩
 ·cases h
theorem agInts_vals {Γ:Env} {xs:List NC} {k:IntKind} {l:List Int} {vs:List Value} (h:agInts xs=some (k,l)) (r:R2 (CR Γ) xs vs):vs=l.map (.int k):=by
 cases xs with
 | nil=>simp [agInts] at h
 | cons x xs=>
   cases x <;> simp only [agInts,reduceCtorEq] at h
   split at h
   ·rename_i l' hl
    cases h
    cases r with
    | cons r1 r2=>rw [toInts_vals hl r2,show _=_ from r1.1]; rfl
   ·cases h
theorem agBools_vals {Γ:Env}:∀ {xs:List NC} {l:List Bool} {vs:List Value},agBools xs=some l→R2 (CR Γ) xs vs→vs=l.map .bool
 | [],l,vs,h,r=>by
   cases h
   cases r
   rfl
 | x::xs,l,vs,h,r=>by
   cases x <;> simp only [agBools,reduceCtorEq] at h
   split at h
   ·rename_i l' hl
    cases h
    cases r with
    | cons r1 r2=>rw [agBools_vals hl r2,show _=_ from r1.1]; rfl
   ·cases h
theorem nindex_sound {P:Program} {Γ:Env} {w:World} {t:TypeId} {x:NS} {ix:NC} {v u:Value} {c:List Bool} {r:NS}
  (hx:SRel Γ x v) (hix:CR Γ ix u) (h:nindex P t x ix=some (c,r)) (hc:allT c):∃ z,(Instr.index t v u).run P w=.ok z w∧SRel Γ r z:=by
 unfold nindex at h
 split at h
 case h_2=>cases h
 rename_i k n
 obtain ⟨rfl,-⟩:=hix
 split at h
 ·rename_i z hu
  obtain ⟨rfl,-⟩:=hx
  cases h
  obtain ⟨h0,h1⟩:=allT_two hc
  have h2:n.toNat<z.size:=by omega
  refine ⟨.int .u8 (byteAt z n.toNat),?_,⟨rfl,rfl⟩⟩
  have h3:z[n.toNat]? = some z[n.toNat]:=getElem?_pos z n.toNat h2
  have h4:z.data.getD n.toNat 0=z[n.toNat]:=by
   have h5:n.toNat<z.data.size:=h2
   rw [Array.getD_eq_getD_getElem?,Array.getElem?_eq_getElem h5]; rfl
  simp [Instr.index,asIntOf,run_underlying hu,h0,h3,byteAt,h4]
 ·rename_i len e l hu
  obtain ⟨vs,rfl,hr,hok⟩:=hx
  split at h
  case isFalse=>cases h
  rename_i hsz
  split at h
  case h_2=>cases h
  rename_i d v hd hv
  split at h
  case isFalse=>cases h
  rename_i hone
  simp only [Option.some.injEq,Prod.mk.injEq] at h
  obtain ⟨rfl,rfl⟩:=h
  have h0:0≤n:=by simpa using hc (decide (0≤n)) (by simp)
  have h1:n<len:=by simpa using hc (decide (n<len)) (by simp)
  have hg:=segGetQ_spec hok hv (fun b hb=>hc b (by simp [hb]))
  rw [Nat.zero_add,Nat.add_zero] at hg
  obtain ⟨ei,hei,-⟩:=info_of_size hsz
  cases ha:isAggT P e with
  | true=>
    obtain ⟨g1,g2,g3,g4⟩:=hg.all ha
    have hr' : R2 (CR Γ) v.2.cells ((vs.drop (n.toNat * sizeT P e)).take (sizeT P e)):=g1 ▸ (hr.drop _).take _
    refine ⟨.agg ((vs.drop (n.toNat * sizeT P e)).take (sizeT P e)).toArray,?_,vrel_of_cells hr' g3 g4⟩
    simp [Instr.index,asIntOf,run_underlying hu,h0,h1,run_sizeOf hei,part,run_isAgg hd,ha]
  | false=>
    rw [ha,Bool.false_or,beq_iff_eq] at hone
    obtain ⟨x,gx,g1⟩:=hg.one ha
    rw [hone,Nat.mul_one] at g1
    obtain ⟨z,hz,hr'⟩:=hr.get g1
    refine ⟨z,?_,by rw [gx]; exact hr'⟩
    simp [Instr.index,asIntOf,run_underlying hu,h0,h1,run_sizeOf hei,part,run_isAgg hd,ha,hone,hz]
 ·rename_i len e xs hu
  obtain ⟨vs,rfl,hr⟩:=hx
  split at h
  ·rename_i ha
   split at h
   case isFalse=>cases h
   rename_i hsz
   cases h
   obtain ⟨h0,h1⟩:=allT_two hc
   obtain ⟨ei,hei,-⟩:=info_of_size hsz
   obtain ⟨d,hd⟩:∃ d,P.underlying e=some d:=by
    cases hd:P.underlying e with
    | none=>simp [isAggT,hd] at ha
    | some d=>exact ⟨d,rfl⟩
   refine ⟨.agg ((vs.drop (n.toNat * sizeT P e)).take (sizeT P e)).toArray,?_,⟨_,rfl,(hr.drop _).take _⟩⟩
   simp [Instr.index,asIntOf,run_underlying hu,h0,h1,run_sizeOf hei,part,run_isAgg hd,ha]
  ·rename_i ha
   split at h
   case isFalse=>cases h
   rename_i hsz
   split at h
   ·rename_i k' l hag
    split at h
    case isFalse=>cases h
    rename_i hlen
    split at h
    case h_2=>cases h
    rename_i de hde
    cases h
    obtain ⟨h0,h1⟩:=allT_two hc
    obtain ⟨ei,hei,-⟩:=info_of_size (P:=P) (t:=e) (by omega)
    have hv:=agInts_vals hag hr
    subst hv
    refine ⟨.int k' (l.getD n.toNat 0),?_,⟨rfl,rfl⟩⟩
    have h2:n.toNat<l.length:=by omega
    simp [Instr.index,asIntOf,run_underlying hu,h0,h1,run_sizeOf hei,part,run_isAgg hde,ha,hsz,List.getD_eq_getElem?_getD,h2]
   ·split at h
    case h_2=>cases h
    rename_i l hag
    split at h
    case isFalse=>cases h
    rename_i hlen
    split at h
    case h_2=>cases h
    rename_i de hde
    cases h
    obtain ⟨h0,h1⟩:=allT_two hc
    obtain ⟨ei,hei,-⟩:=info_of_size (P:=P) (t:=e) (by omega)
    have hv:=agBools_vals hag hr
    subst hv
    refine ⟨.bool (l.getD n.toNat false),?_,⟨rfl,rfl⟩⟩
    have h2:n.toNat<l.length:=by omega
    simp [Instr.index,asIntOf,run_underlying hu,h0,h1,run_sizeOf hei,part,run_isAgg hde,ha,hsz,List.getD_eq_getElem?_getD,h2]
 ·cases h
end Go.Nx
