/-
  Joined: EngA.
-/
import Derived.WalkKit
import Derived.Laws.BytesArg
import Derived.WalkSpells
import Derived.LaidEql
set_option linter.unusedVariables false
open List renaming append_assoc->axC,drop_append->axI,drop_append_of_le_length->ax0,drop_eq_getElem_cons->axO,drop_of_length_le->axX,drop_zero->axZ,eq_nil_of_length_eq_zero->ayb,flatMap_cons->axA,getD_cons_zero->ayd,getD_eq_getElem?_getD->axF,getElem?_append_left->ax6,getElem?_drop->axR,getElem?_eq_getElem->axP,getElem?_eq_none->axD,getElem?_take->axQ,length_append->axG,length_drop->ax1,length_set->axV,length_singleton->aya,length_take->ax7,map_drop->ax3,map_take->ax2,nil_append->axY,range->axy,replicate->axx,replicate_succ->axz,take_append->axL,take_append_drop->axE,take_append_of_le_length->axW,take_of_length_le->axN,take_succ_cons->axK
open Nat renaming add_assoc->aye,add_comm->axJ,add_mul->ax8,add_sub_cancel_left->axM,add_zero->ax9,div_add_mod->axU,div_lt_iff_lt_mul->axS,dvd_of_mod_eq_zero->ax5,le_refl->axB,mul_comm->axT,mul_div_cancel'->ax4,mul_le_mul_right->ax',succ_mul->axH,zero_add->ayf,zero_mul->ayc
namespace Go.Nx
theorem axv{p:Prop}[h:Decidable p](a:p):decide p=true:=decide_eq_true a
theorem axw{p:Prop}[h:Decidable p](a:¬p):decide p=false:=decide_eq_false a
end Go.Nx
namespace Go.Nx
open Go
inductive CK where
 | i (k:IntKind)
 | b
 deriving DecidableEq
inductive Sc where
 | i (n:Int)
 | b (x:Bool)
 deriving DecidableEq
def Sc.n:Sc->Int
 | .i n=>n
 | .b _=>0
def Sc.t:Sc->Bool
 | .b x=>x
 | .i _=>false
inductive Part where
 | i (k:IntKind)
 | b
 | s
 | l (k:IntKind)
 | lr (ks:List CK)
 | ai (k:IntKind) (n:Nat)
 | ar (ks:List CK) (n:Nat)
 deriving DecidableEq
inductive FC where
 | i (n:Int)
 | b (x:Bool)
 | s (x:ByteArray)
 | is (xs:List Int)
 | rs (xs:List (List Sc))
inductive NC where
 | i (k:IntKind) (n:Int)
 | b (x:Bool)
 | s (x:ByteArray)
 | p (r i c:Nat)
 | pn
 | h (r off len:Nat)
 | l (k:IntKind) (xs:List Int)
 | lr (ks:List CK) (xs:List (List Sc))
 | pl (k:IntKind) (xs:List Int) (i:Nat)
 | pr (ks:List CK) (xs:List (List Sc)) (i c:Nat)
 | sn
 | g (x:Nat)
 | e (k:Nat)
 | en
 | cl (f:FuncId) (cap:List (Nat × Nat × Nat))
 | q (r o w i c:Nat)
 | hq (r o w i n:Nat)
 | hz (r len:Nat)
 | m (r:Nat)
 | mn
 | lt (sch:List Part) (xs:List (List FC))
 | pt (sch:List Part) (xs:List (List FC)) (i c:Nat)
inductive bq where
 | cells (xs:List NC)
 | ints (k:IntKind) (n:Nat) (xs:List Int)
 | aA (ks:List CK) (n:Nat) (xs:List (List Sc))
inductive NV where
 | c (x:NC)
 | ag (xs:List NC)
 | sg (l:List bq)
inductive NS where
 | v (x:NV)
 | tu (xs:List NV)
 | dead
inductive Body where
 | cells (xs:List NC)
 | ints (k:IntKind) (xs:List Int)
 | aA (ks:List CK) (xs:List (List Sc))
 | sg (l:List bq)
 | ij (sch:List Part) (xs:List (List FC))
 | mp (ks sch:List Part) (xs:List (List FC × List FC))
structure aG where
 st:Nat
 e:TypeId
 body:Body
structure St where
 fr:List NS
 rg:List (Option aG)
def NS.nc:NS->Option NC
 | .v (.c x)=>some x
 | _=>none
def NS.nv:NS->Option NV
 | .v x=>some x
 | _=>none
def n8:CK->Sc->Value
 | .i k,s=>.int k s.n
 | .b,s=>.bool s.t
def rM:CK->Sc->NC
 | .i k,s=>.i k s.n
 | .b,s=>.b s.t
def rowFrom {α:Type} (f:CK->Sc->α):List CK->List Sc->Nat->List α
 | [],_,_=>[]
 | k::ks,row,j=>f k (row.getD j (.i 0))::rowFrom f ks row (j+1)
def bN (ks:List CK) (row:List Sc):List Value:=rowFrom n8 ks row 0
def bV (ks:List CK) (row:List Sc):List NC:=rowFrom rM ks row 0
def dm (k:IntKind) (xs:List Int):List NC:=xs.map (.i k)
def bJ (ks:List CK) (xs:List (List Sc)):List NC:=xs.flatMap (bV ks)
def bq.size:bq->Nat
 | .cells xs=>xs.length
 | .ints _ n _=>n
 | .aA ks n _=>n * ks.length
def bq.flat:bq->List NC
 | .cells xs=>xs
 | .ints k _ xs=>dm k xs
 | .aA ks _ xs=>bJ ks xs
def bq.gU:bq->List NC
 | .cells xs=>xs
 | _=>[]
def bq.ok:bq->Prop
 | .cells _=>True
 | .ints _ n xs=>xs.length=n
 | .aA ks n xs=>xs.length=n∧0<ks.length
def b6:List bq->Nat
 | []=>0
 | s::l=>s.size+b6 l
def ay:List bq->List NC
 | []=>[]
 | [s]=>s.flat
 | s::l=>s.flat++ay l
def dt:List bq->List NC
 | []=>[]
 | s::l=>s.gU++dt l
def aK (l:List bq):Prop:=∀ s∈l,s.ok
def NV.cells:NV->List NC
 | .c x=>[x]
 | .ag xs=>xs
 | .sg l=>ay l
def NV.gU:NV->List NC
 | .c x=>[x]
 | .ag xs=>xs
 | .sg l=>dt l
def NV.size:NV->Nat
 | .c _=>1
 | .ag xs=>xs.length
 | .sg l=>b6 l
def NV.my:NV->List bq
 | .c x=>[.cells [x]]
 | .ag xs=>[.cells xs]
 | .sg l=>l
def FC.n:FC->Int
 | .i n=>n
 | _=>0
def FC.t:FC->Bool
 | .b x=>x
 | _=>false
def FC.st:FC->ByteArray
 | .s x=>x
 | _=>ByteArray.empty
def FC.li:FC->List Int
 | .is xs=>xs
 | _=>[]
def FC.lr:FC->List (List Sc)
 | .rs xs=>xs
 | _=>[]
def Part.size:Part->Nat
 | .ai _ n=>n
 | .ar ks n=>n * ks.length
 | _=>1
def aO:List Part->Nat
 | []=>0
 | p::l=>p.size+aO l
def jO (x:NC):List bq->List bq
 | .cells xs::l=>.cells (x::xs)::l
 | l=>.cells [x]::l
def Part.put:Part->FC->List bq->List bq
 | .i k,x,t=>jO (.i k x.n) t
 | .b,x,t=>jO (.b x.t) t
 | .s,x,t=>jO (.s x.st) t
 | .l k,x,t=>jO (.l k x.li) t
 | .lr ks,x,t=>jO (.lr ks x.lr) t
 | .ai k n,x,t=>.ints k n x.li::t
 | .ar ks n,x,t=>.aA ks n x.lr::t
def bj:List Part->List FC->Nat->List bq
 | [],_,_=>[]
 | p::sch,row,j=>p.put (row.getD j (.i 0)) (bj sch row (j+1))
def cL (sch:List Part) (xs:List (List FC)):List NC:=xs.flatMap fun row=>ay (bj sch row 0)
def dD (sch:List Part) (xs:List (List FC)):Prop:=∀ row∈xs,aK (bj sch row 0)
def Body.auj:Body->Bool
 | .mp _ _ _=>true
 | _=>false
def zT:CK->NC->Option Sc
 | .i k,.i k' n=>if k=k' then some (.i n) else none
 | .b,.b x=>some (.b x)
 | _,_=>none
def jP:List CK->List NC->Option (List Sc)
 | [],[]=>some []
 | k::ks,x::xs=>
   match zT k x,jP ks xs with
   | some a,some l=>some (a::l)
   | _,_=>none
 | _,_=>none
def iy (ks:List CK):Nat->List NC->Option (List (List Sc))
 | 0,[]=>some []
 | 0,_::_=>none
 | n+1,xs=>
   match jP ks (xs.take ks.length),iy ks n (xs.drop ks.length) with
   | some a,some l=>some (a::l)
   | _,_=>none
def jo (k:IntKind):List NC->Option (List Int)
 | []=>some []
 | .i k' n::xs=>
   if k=k' then
    match jo k xs with
    | some l=>some (n::l)
    | none=>none
   else none
 | _::_=>none
def putAt (l:List (Option aG)) (n:Nat) (x:Option aG):List (Option aG):=
 if n<l.length then l.set n x else l++axx (n - l.length) none++[x]
def St.bK (s:St) (n:Nat):Option aG:=
 match s.rg[n]? with
 | some (some r)=>some r
 | _=>none
def St.put (s:St) (dst:Option Tmp) (v:NS):St:=
 match dst with
 | some d=>{s with fr:=s.fr.set d v}
 | none=>s
def St.cn (s:St) (n:Nat) (r:Option aG):St:={s with rg:=putAt s.rg n r}
def b4 (P:Program) (t:TypeId):Bool:=
 match P.underlying t with
 | some (.struct _) | some (.array _ _)=>true
 | _=>false
def al (P:Program) (t:TypeId):Nat:=
 match P.info? t with
 | some i=>i.size
 | none=>0
def bf (P:Program) (t:TypeId):Nat:=
 match P.info? t with
 | some i=>i.bytes
 | none=>0
def aa8:Value->Option NC
 | .int k n=>some (.i k n)
 | .bool b=>some (.b b)
 | .string s=>some (.s s)
 | .pointer none=>some .pn
 | .slice none 0 0=>some .sn
 | .nilIface=>some .en
 | .map none=>some .mn
 | _=>none
def rN:List Value->Option (List NC)
 | []=>some []
 | v::l=>
   match aa8 v,rN l with
   | some a,some r=>some (a::r)
   | _,_=>none
def zeroCells (P:Program) (t:TypeId):Option (List NC):=
 match P.info? t with
 | some i=>match i.zero with
   | some z=>if z.cells.size=i.size then rN z.cells.toList else none
   | none=>none
 | none=>none
def qM:List NC->Option (List CK)
 | []=>some []
 | .i k _::l=>(match qM l with | some r=>some (.i k::r) | none=>none)
 | .b _::l=>(match qM l with | some r=>some (.b::r) | none=>none)
 | _::_=>none
def xh (P:Program) (t:TypeId):Option (List CK):=
 match zeroCells P t with
 | some z=>qM z
 | none=>none
def gV (P:Program) (e:TypeId) (n:Nat) (xs:List NC):Nat × Body:=
 match xh P e with
 | some [.i k]=>
   (match jo k xs with
    | some l=>(1,.ints k l)
    | none=>(1,.cells xs))
 | some ks=>
   if 0<ks.length then
    (match iy ks n xs with
     | some l=>(ks.length,.aA ks l)
     | none=>(al P e,.cells xs))
   else (al P e,.cells xs)
 | none=>(al P e,.cells xs)
def Ir (P:Program) (t:TypeId):Bool:=decide (40<=al P t)
inductive Shp where
 | c (n:Nat)
 | r (ks:List CK) (n:Nat)
def Au (P:Program):Nat->TypeId->Nat->TypeId × Nat
 | 0,t,n=>(t,n)
 | f+1,t,n=>match P.underlying t with
   | some (.array m e)=>Au P f e (n * m)
   | _=>(t,n)
def Is:List Shp->List Shp->List Shp
 | [],l=>l
 | [.c n],.c m::l=>.c (n+m)::l
 | s::r,l=>s::Is r l
def R3 (n:Nat) (s:List Shp):List Shp:=
 match n with
 | 0=>[]
 | n+1=>Is s (R3 n s)
def BW (P:Program):Nat->TypeId->List Shp
 | 0,t=>[.c (al P t)]
 | f+1,t=>match P.underlying t with
   | some (.struct fs)=>fs.toList.foldr (fun x l=>Is (BW P f x.type) l) []
   | some (.array n e)=>(match xh P (Au P 8 t 1).1 with
     | some ks=>if 0<ks.length then [.r ks (Au P 8 t 1).2] else [.c (al P t)]
     | none=>R3 n (BW P f e))
   | _=>[.c (al P t)]
def rO:List Shp->List NC->Option (List bq)
 | [],[]=>some []
 | [],_::_=>none
 | .c n::sh,z=>if n<=z.length then (match rO sh (z.drop n) with
   | some l=>some (.cells (z.take n)::l)
   | none=>none) else none
 | .r ks n::sh,z=>(match ks with
   | [.i k]=>(match jo k (z.take n),rO sh (z.drop n) with
     | some xs,some l=>if xs.length=n then some (.ints k n xs::l) else none
     | _,_=>none)
   | ks=>if 0<ks.length then (match iy ks n (z.take (n * ks.length)),rO sh (z.drop (n * ks.length)) with
     | some xs,some l=>some (.aA ks n xs::l)
     | _,_=>none) else none)
def aou:List (Option (List Part))->Option (List Part)
 | []=>some []
 | some a::l=>(match aou l with | some r=>some (a++r) | none=>none)
 | none::_=>none
def aa9 (P:Program) (big:Bool):Nat->TypeId->Option (List Part)
 | 0,_=>none
 | f+1,t=>match P.underlying t with
   | some (.int k)=>some [.i k]
   | some .bool=>some [.b]
   | some .string=>some [.s]
   | some (.slice e)=>(match xh P e with
     | some [.i k]=>some [.l k]
     | some ks=>if 0<ks.length then some [.lr ks] else none
     | none=>none)
   | some (.struct fs)=>aou (fs.toList.map fun x=>aa9 P big f x.type)
   | some (.array n e)=>(match big,xh P (Au P 8 t 1).1 with
     | true,some [.i k]=>some [.ai k (Au P 8 t 1).2]
     | true,some ks=>if 0<ks.length then some [.ar ks (Au P 8 t 1).2] else none
     | _,_=>(match aa9 P big f e with | some l=>some (axx n l).flatten | none=>none))
   | _=>none
def Lw (P:Program) (t:TypeId):Option (List Part):=aa9 P (Ir P t) 8 t
def EF (P:Program) (t:TypeId):Option aG:=
 match P.underlying t with
 | some (.map k e)=>(match Lw P k,Lw P e,b4 P k,b4 P e with
   | some ks,some sch,true,true=>if aO ks=al P k∧aO sch=al P e then some {st:=0,e:=t,body:=.mp ks sch []} else none
   | _,_,_,_=>none)
 | _=>none
def eqV:Value->Value->Bool
 | .int k n,.int k' n'=>k==k'&&n==n'
 | .bool a,.bool b=>a==b
 | _,_=>false
def Av:List Value->List Value->Option (List Value)
 | [],z=>some z
 | _::_,[]=>none
 | a::r,b::z=>match eqV a b with
   | true=>Av r z
   | false=>none
def EG (row:List Value):Nat->List Value->Option (List Value)
 | 0,z=>some z
 | n+1,z=>match Av row z with
   | some z'=>EG row n z'
   | none=>none
def BX (ks:List CK) (n:Nat) (row:List Sc):bq:=
 match ks,row with
 | [.i k],[.i x]=>.ints k n (axx n x)
 | ks,row=>.aA ks n (axx n row)
def uV:List Shp->List Value->Option (List bq)
 | [],[]=>some []
 | [],_::_=>none
 | .c n::sh,z=>(match rN (z.take n),uV sh (z.drop n) with
   | some xs,some l=>some (.cells xs::l)
   | _,_=>none)
 | .r ks n::sh,z=>if 0<ks.length then
    (match rN (z.take ks.length) with
     | some r0=>(match jP ks r0 with
       | some row=>(match EG (bN ks row) n z with
         | some z'=>(match uV sh z' with
           | some l=>some (BX ks n row::l)
           | none=>none)
         | none=>none)
       | none=>none)
     | none=>none)
   else none
def n9 (P:Program) (t:TypeId):Option (List bq):=
 match P.info? t with
 | some i=>(match i.zero with
   | some v=>(match uV (BW P 8 t) v.cells.toList with
     | some l=>if b6 l=i.size then some l else none
     | none=>none)
   | none=>none)
 | none=>none
def mkSub (n:Nat) (l:List bq):NV:=if n<40 then .ag (ay l) else .sg l
def bq.cut (o n:Nat):bq->Option bq
 | .cells xs=>if o+n<=xs.length then some (.cells ((xs.drop o).take n)) else none
 | .ints k m xs=>if n=m then (if o=0 then some (.ints k m xs) else none) else if o+n<=m then some (.ints k n ((xs.drop o).take n)) else none
 | .aA ks m xs=>if n=m * ks.length then (if o=0 then some (.aA ks m xs) else none)
   else if 0<ks.length∧o % ks.length=0∧n % ks.length=0∧o / ks.length+n / ks.length<=m then some (.aA ks (n / ks.length) ((xs.drop (o / ks.length)).take (n / ks.length))) else none
def mz:List bq->Nat->Nat->Option (List bq)
 | [],_,n=>if n=0 then some [] else none
 | s::l,o,n=>
   if n=0 then some []
   else if s.size<=o then mz l (o - s.size) n
   else match s.cut o (min n (s.size - o)),mz l 0 (n - min n (s.size - o)) with
    | some a,some r=>some (a::r)
    | _,_=>none
def xi:List bq->Nat->Option NC
 | [],_=>none
 | s::l,o=>
   if s.size<=o then xi l (o - s.size)
   else match s with
    | .cells xs=>xs[o]?
    | .ints k _ xs=>some (.i k (xs.getD o 0))
    | .aA ks _ xs=>(match ks[o % ks.length]? with
      | some k=>some (rM k ((xs.getD (o / ks.length) []).getD (o % ks.length) (.i 0)))
      | none=>none)
def qN (l:List bq) (o n:Nat) (agg:Bool):Option NV:=
 match agg with
 | true=>(match mz l o n with | some r=>some (mkSub n r) | none=>none)
 | false=>(match xi l o with | some x=>some (.c x) | none=>none)
def fY (i q:Nat):Nat:=
 match q with
 | 1=>i
 | q=>i * q
def eR (j i:Nat):Nat:=
 match j with
 | 0=>i
 | j=>j+i
def mA:List bq->Nat->Nat->Nat->Nat->Nat->Bool->Option (List Bool × NV)
 | [],_,_,_,_,_,_=>none
 | s::l,o,w,i,c,n,agg=>
   if s.size<=o then mA l (o - s.size) w i c n agg
   else match s with
    | .cells xs=>(match qN (.cells xs::l) (o+i * w+c) n agg with | some v=>some ([],v) | none=>none)
    | .ints k m xs=>(match c,agg with
      | 0,true=>some ([decide (eR o (fY i w)+n<=m)],mkSub n [.ints k n ((xs.drop (eR o (fY i w))).take n)])
      | 0,false=>some ([decide (eR o (fY i w)<m)],.c (.i k (xs.getD (eR o (fY i w)) 0)))
      | _,_=>none)
    | .aA ks m xs=>
      if 0<ks.length∧o % ks.length=0∧w % ks.length=0 then
       (match agg with
        | true=>(match c with
          | 0=>if n % ks.length=0 then
             (if n=ks.length then some ([decide (eR (o / ks.length) (fY i (w / ks.length))<m)],mkSub n [.cells (bV ks (xs.getD (eR (o / ks.length) (fY i (w / ks.length))) []))])
              else some ([decide (eR (o / ks.length) (fY i (w / ks.length))+n / ks.length<=m)],mkSub n [.aA ks (n / ks.length) ((xs.drop (eR (o / ks.length) (fY i (w / ks.length)))).take (n / ks.length))]))
            else none
          | _=>none)
        | false=>(match ks[c]? with
          | some k=>some ([decide (eR (o / ks.length) (fY i (w / ks.length))<m)],.c (rM k ((xs.getD (eR (o / ks.length) (fY i (w / ks.length))) []).getD c (.i 0))))
          | none=>none))
      else none
def xj (k:IntKind):List bq->Option (List Int)
 | [.cells zs]=>jo k zs
 | [.ints k' _ ys]=>if k'=k then some ys else none
 | _=>none
def BY (ks:List CK) (q:Nat):List bq->Option (List (List Sc))
 | [.cells zs]=>iy ks q zs
 | [.aA nT n ys]=>if nT=ks∧n=q then some ys else none
 | _=>none
def qk {α:Type} (xs:List α) (o n:Nat) (ys:List α):List α:=
 match ys with
 | [y]=>xs.set o y
 | ys=>xs.take o++ys++xs.drop (o+n)
def EH (P:Program) (t:TypeId) (k6:TypeId->List NC->aG):Option aG:=
 match Ir P t with
 | true=>(match n9 P t with | some l=>some {st:=al P t,e:=t,body:=.sg l} | none=>none)
 | false=>(match zeroCells P t with | some z=>some (k6 t z) | none=>none)
def R4 (P:Program) (t:TypeId) (k6:TypeId->List NC->aG) (v:NV):Option aG:=
 match Ir P t with
 | true=>(match v with
   | .sg l=>some {st:=al P t,e:=t,body:=.sg l}
   | v=>(match rO (BW P 8 t) v.cells with | some l=>some {st:=al P t,e:=t,body:=.sg l} | none=>none))
 | false=>some (k6 t v.cells)
def k6 (P:Program) (t:TypeId) (xs:List NC):aG:=
 match P.underlying t with
 | some (.array n e)=>{st:=(gV P e n xs).1,e:=t,body:=(gV P e n xs).2}
 | _=>{st:=al P t,e:=t,body:=.cells xs}
def ofConst:Value->NS
 | .agg cs=>match rN cs.toList with
   | some l=>.v (.ag l)
   | none=>.dead
 | v=>match aa8 v with
   | some x=>.v (.c x)
   | none=>.dead
def St.ev (s:St):Operand->NS
 | .tmp t=>s.fr.getD t .dead
 | .const v=>ofConst v
 | .global g=>.v (.c (.g g))
 | .func f=>.v (.c (.cl f []))
def bH (k:IntKind) (x y:Int):Int:=k.wrap (x * 2 ^ min y.toNat k.bits)
def aX (k:IntKind) (x y:Int):Int:=x.fdiv (2 ^ min y.toNat k.bits)
def R5 (op:BinOp) (k:IntKind) (x y:Int):Option (List Bool × NC):=
 match op with
 | .add=>some ([],.i k (k.wrap (x+y)))
 | .sub=>some ([],.i k (k.wrap (x - y)))
 | .mul=>some ([],.i k (k.wrap (x * y)))
 | .quo=>some ([y !=0],.i k (k.wrap (x.tdiv y)))
 | .rem=>some ([y !=0],.i k (x.tmod y))
 | .and=>some ([],.i k (bits .and k x y))
 | .or=>some ([],.i k (bits .or k x y))
 | .xor=>some ([],.i k (bits .xor k x y))
 | .andNot=>some ([],.i k (bits .andNot k x y))
 | .eql=>some ([],.b (x==y))
 | .neq=>some ([],.b (x !=y))
 | .lss=>some ([],.b (decide (x<y)))
 | .leq=>some ([],.b (decide (x<=y)))
 | .gtr=>some ([],.b (decide (x > y)))
 | .geq=>some ([],.b (decide (x >= y)))
 | _=>none
def aiC (P:Program) (op:BinOp) (t:TypeId) (a b:NC):Option (List Bool × NC):=
 match a,b with
 | .i k x,.i k' y=>
   (match op with
    | .shl=>some ([decide (0<=y)],.i k (bH k x y))
    | .shr=>some ([decide (0<=y)],.i k (aX k x y))
    | op=>if k=k' then R5 op k x y else none)
 | .b x,.b y=>
   (match P.underlying t with
    | some .bool=>
      (match op with
       | .eql=>some ([],.b (x==y))
       | .neq=>some ([],.b (!(x==y)))
       | _=>none)
    | _=>none)
 | .s x,.s y=>
   (match op with
    | .add=>some ([decide (((x.size+y.size:Nat):Int)<=9223372036854775807)],.s (x++y))
    | .eql=>some ([],.b (x.toList==y.toList))
    | .neq=>some ([],.b (!(x.toList==y.toList)))
    | _=>none)
 | .p _ _ _,.pn=>
   (match P.underlying t with
    | some (.pointer _)=>
      (match op with
       | .eql=>some ([],.b false)
       | .neq=>some ([],.b true)
       | _=>none)
    | _=>none)
 | .pn,.pn=>
   (match P.underlying t with
    | some (.pointer _)=>
      (match op with
       | .eql=>some ([],.b true)
       | .neq=>some ([],.b false)
       | _=>none)
    | _=>none)
 | .h _ _ _,.sn=>
   (match P.underlying t with
    | some (.slice _)=>
      (match op with
       | .eql=>some ([],.b false)
       | .neq=>some ([],.b true)
       | _=>none)
    | _=>none)
 | .hq _ _ _ _ _,.sn=>
   (match P.underlying t with
    | some (.slice _)=>
      (match op with
       | .eql=>some ([],.b false)
       | .neq=>some ([],.b true)
       | _=>none)
    | _=>none)
 | .l _ xs,.sn=>
   (match P.underlying t with
    | some (.slice _)=>
      (match op with
       | .eql=>some ([!xs.isEmpty],.b false)
       | .neq=>some ([!xs.isEmpty],.b true)
       | _=>none)
    | _=>none)
 | .lr _ xs,.sn=>
   (match P.underlying t with
    | some (.slice _)=>
      (match op with
       | .eql=>some ([!xs.isEmpty],.b false)
       | .neq=>some ([!xs.isEmpty],.b true)
       | _=>none)
    | _=>none)
 | .sn,.sn=>
   (match P.underlying t with
    | some (.slice _)=>
      (match op with
       | .eql=>some ([],.b true)
       | .neq=>some ([],.b false)
       | _=>none)
    | _=>none)
 | _,_=>none
def agc (P:Program) (et:TypeId):Bool:=
 match P.underlying et with
 | some (.pointer te)=>(match P.info? et,P.info? te with
   | some i,some j=>i.comparable&&j.size !=0
   | _,_=>false)
 | _=>false
def isIface (P:Program) (t:TypeId):Bool:=
 match P.underlying t with
 | some (.interface _)=>true
 | _=>false
def isConst (x:Operand):Bool:=
 match x with
 | .const _=>true
 | _=>false
def Lx (P:Program) (gl:List Nat) (x y:Operand) (a b:NC):Option Bool:=
 match a,b with
 | .e j,.en=>if gl.tail.contains j then some false else none
 | .en,.e j=>if gl.tail.contains j then some false else none
 | .en,.en=>if isConst x||isConst y then some true else none
 | .e j,.e k=>if agc P (gl.headD 0)&&gl.tail.contains j&&gl.tail.contains k then some (j==k) else none
 | _,_=>none
def R6 (P:Program) (gl:List Nat) (op:BinOp) (t:TypeId) (x y:Operand) (a b:NC):Option (List Bool × NC):=
 match isIface P t with
 | true=>
   (match op,Lx P gl x y a b with
    | .eql,some r=>some ([],.b r)
    | .neq,some r=>some ([],.b (!r))
    | _,_=>none)
 | false=>aiC P op t a b
def nun (op:UnOp) (a:NC):Option NC:=
 match op,a with
 | .not,.b x=>some (.b (!x))
 | .neg,.i k n=>some (.i k (k.wrap (0 - n)))
 | .xor,.i k n=>some (.i k (bits .xor k (if k.signed then -1 else k.max) n))
 | _,_=>none
inductive R1 where
 | no
 | val (c:List Bool) (v:NS)
 | new (c:List Bool) (g:aG) (v:Nat->NS)
 | pH (c:List Bool) (n:Nat) (g:aG)
def sub (xs:List NC) (o n:Nat):Option (List NC):=
 let l:=(xs.drop o).take n
 if l.length=n then some l else none
def zU (x:Option (List Bool × NS)):R1:=
 match x with
 | some (c,v)=>.val c v
 | none=>.no
def uW (P:Program) (gl:List Nat) (s:St) (t:TypeId) (a:NC):Option (List Bool × NS):=
 match a with
 | .p r i c=>
   (match s.bK r with
    | some g=>
      (match g.body,b4 P t with
       | .cells xs,true=>(match sub xs (i * g.st+c) (al P t) with | some l=>some ([],.v (.ag l)) | none=>none)
       | .cells xs,false=>(match xs[i * g.st+c]? with | some x=>some ([],.v (.c x)) | none=>none)
       | .ints k xs,false=>(match c with | 0=>some ([decide (i<xs.length)],.v (.c (.i k (xs.getD i 0)))) | _=>none)
       | .ints k xs,true=>(match i,c with | 0,0=>if xs.length=al P t then some ([],.v (.ag (dm k xs))) else none | _,_=>none)
       | .aA ks xs,false=>
         (match ks[c]? with
          | some k=>some ([decide (i<xs.length)],.v (.c (rM k ((xs.getD i []).getD c (.i 0)))))
          | none=>none)
       | .aA ks xs,true=>
         (match c with
          | 0=>if al P t=ks.length then some ([decide (i<xs.length)],.v (.ag (bV ks (xs.getD i []))))
            else if i=0 then (if al P t=xs.length * ks.length then some ([],.v (.ag (bJ ks xs))) else none) else none
          | _=>none)
       | .sg l,agg=>(match i with
         | 0=>(match qN l c (al P t) agg with | some v=>some ([],.v v) | none=>none)
         | _=>none)
       | .ij sch xs,agg=>(match qN (bj sch (xs.getD i []) 0) c (al P t) agg with
         | some v=>some ([decide (i<xs.length)],.v v)
         | none=>none)
       | .mp _ _ _,_=>none)
    | none=>none)
 | .pt sch xs i c=>(match qN (bj sch (xs.getD i []) 0) c (al P t) (b4 P t) with
   | some v=>some ([decide (i<xs.length)],.v v)
   | none=>none)
 | .q r o w i c=>
   (match s.bK r with
    | some g=>
      (match g.body with
       | .sg l=>(match mA l o w i c (al P t) (b4 P t) with | some v=>some (v.1,.v v.2) | none=>none)
       | _=>none)
    | none=>none)
 | .pl k xs i=>if b4 P t then none else some ([decide (i<xs.length)],.v (.c (.i k (xs.getD i 0))))
 | .pr ks xs i c=>
   if b4 P t then
    (match c with
     | 0=>if al P t=ks.length then some ([decide (i<xs.length)],.v (.ag (bV ks (xs.getD i [])))) else none
     | _=>none)
   else
    (match ks[c]? with
     | some k=>some ([decide (i<xs.length)],.v (.c (rM k ((xs.getD i []).getD c (.i 0)))))
     | none=>none)
 | .g x=>if b4 P t then none else if gl.tail.contains x then some ([],.v (.c (.e x))) else none
 | _=>none
def aw {α:Type} (xs:List α) (o:Nat) (ys:List α):List α:=xs.take o++ys++xs.drop (o+ys.length)
def mB:List Int->Nat->Int->Nat->List Int
 | [],_,_,_=>[]
 | x::xs,i,v,j=>(bif i==j then v else x)::mB xs i v (j+1)
def setRow (ks:List CK) (row:List Sc) (c:Nat) (x:Sc):List Sc:=(axy ks.length).map fun j=>if j=c then x else row.getD j (.i 0)
def bq.put (o n:Nat) (p:List bq):bq->Option bq
 | .cells xs=>some (.cells (aw xs o (ay p)))
 | .ints k m xs=>(match xj k p with
   | some ys=>if n=m then some (.ints k m ys) else some (.ints k m (qk xs o n ys))
   | none=>none)
 | .aA ks m xs=>
   if 0<ks.length∧o % ks.length=0∧n % ks.length=0 then
    (match BY ks (n / ks.length) p with
     | some ys=>if n / ks.length=m then some (.aA ks m ys) else some (.aA ks m (qk xs (o / ks.length) (n / ks.length) ys))
     | none=>none)
   else
    (match p with
     | [.cells [y]]=>(match ks[o % ks.length]? with
       | some k=>(match zT k y with
         | some z=>some (.aA ks m (xs.set (o / ks.length) (setRow ks (xs.getD (o / ks.length) []) (o % ks.length) z)))
         | none=>none)
       | none=>none)
     | _=>none)
def k8:List bq->Nat->Nat->List bq->Option (List bq)
 | [],_,n,_=>if n=0 then some [] else none
 | s::l,o,n,v=>
   if n=0 then some (s::l)
   else if s.size<=o then (match k8 l (o - s.size) n v with | some r=>some (s::r) | none=>none)
   else match mz v 0 (min n (s.size - o)),mz v (min n (s.size - o)) (n - min n (s.size - o)) with
    | some p,some q=>(match s.put o (min n (s.size - o)) p,k8 l 0 (n - min n (s.size - o)) q with
      | some a,some r=>some (a::r)
      | _,_=>none)
    | _,_=>none
def pJ:List bq->Nat->Nat->Nat->Nat->NV->Option (List Bool × List bq)
 | [],_,_,_,_,_=>none
 | s::l,o,w,i,c,v=>
   if s.size<=o then (match pJ l (o - s.size) w i c v with | some r=>some (r.1,s::r.2) | none=>none)
   else match s with
    | .cells xs=>if o+i * w+c+v.size<=b6 (.cells xs::l) then (match k8 (.cells xs::l) (o+i * w+c) v.size v.my with | some r=>some ([],r) | none=>none) else none
    | .ints k m xs=>(match c with
      | 0=>(match v with
        | .c (.i k' z)=>if k=k' then some ([decide (eR o (fY i w)<m)],.ints k m (xs.set (eR o (fY i w)) z)::l) else none
        | .c _=>none
        | v=>(match xj k v.my with
          | some ys=>if v.size=m then some ([decide (eR o (fY i w)=0)],.ints k m ys::l) else some ([decide (eR o (fY i w)+v.size<=m)],.ints k m (qk xs (eR o (fY i w)) v.size ys)::l)
          | none=>none))
      | _=>none)
    | .aA ks m xs=>
      if 0<ks.length∧o % ks.length=0∧w % ks.length=0 then
       (match v with
        | .c y=>(match ks[c]? with
          | some k=>(match zT k y with
            | some z=>some ([decide (eR (o / ks.length) (fY i (w / ks.length))<m)],.aA ks m (xs.set (eR (o / ks.length) (fY i (w / ks.length))) (setRow ks (xs.getD (eR (o / ks.length) (fY i (w / ks.length))) []) c z))::l)
            | none=>none)
          | none=>none)
        | v=>(match c with
          | 0=>if v.size % ks.length=0 then
             (match BY ks (v.size / ks.length) v.my with
              | some ys=>if v.size / ks.length=m then some ([decide (eR (o / ks.length) (fY i (w / ks.length))=0)],.aA ks m ys::l)
                else some ([decide (eR (o / ks.length) (fY i (w / ks.length))+v.size / ks.length<=m)],.aA ks m (qk xs (eR (o / ks.length) (fY i (w / ks.length))) (v.size / ks.length) ys)::l)
              | none=>none)
            else none
          | _=>none))
      else none
def oa (P:Program) (s:St) (t:TypeId) (a:NC) (x:NV):Option (List Bool × Nat × aG):=
 if x.size=al P t then
  match a with
  | .q r o w i c=>
    (match s.bK r with
     | some g=>
       (match g.body with
        | .sg l=>(match pJ l o w i c x with | some v=>some (v.1,r,{g with body:=.sg v.2}) | none=>none)
        | _=>none)
     | none=>none)
  | .p r i c=>
    (match s.bK r with
     | some g=>
       (match g.body with
        | .cells xs=>
          if i * g.st+c+x.size<=xs.length then some ([],r,{g with body:=.cells (aw xs (i * g.st+c) x.cells)}) else none
        | .sg l=>(match i with
          | 0=>if c+x.size<=b6 l then (match k8 l c x.size x.my with | some l'=>some ([],r,{g with body:=.sg l'}) | none=>none) else none
          | _=>none)
        | .ints k xs=>
          (match c with
           | 0=>(match x with
             | .c (.i k' n)=>if k=k' then some ([decide (i<xs.length)],r,{g with body:=.ints k (mB xs i n 0)}) else none
             | .c _=>none
             | .sg _=>none
             | .ag ys=>(match i,jo k ys with
               | 0,some l=>if l.length=xs.length then some ([],r,{g with body:=.ints k l}) else none
               | _,_=>none))
           | _=>none)
        | .aA ks xs=>
          (match x with
           | .c y=>(match ks[c]? with
             | some k=>(match zT k y with
               | some z=>some ([decide (i<xs.length)],r,{g with body:=.aA ks (xs.set i (setRow ks (xs.getD i []) c z))})
               | none=>none)
             | none=>none)
           | .sg _=>none
           | .ag ys=>
             (match c with
              | 0=>if ys.length=ks.length then
                 (match jP ks ys with
                  | some row=>some ([decide (i<xs.length)],r,{g with body:=.aA ks (xs.set i row)})
                  | none=>none)
                else (match i,iy ks xs.length ys with
                 | 0,some rows=>some ([],r,{g with body:=.aA ks rows})
                 | _,_=>none)
              | _=>none))
        | .ij _ _=>none
        | .mp _ _ _=>none)
     | none=>none)
  | _=>none
 else none
def lD (P:Program) (t:TypeId) (f:Nat):Option (Nat × TypeId):=
 match P.underlying t with
 | some (.struct fs)=>(match fs[f]? with
   | some x=>if al P x.type=0 then none else some (x.offset,x.type)
   | none=>none)
 | _=>none
def OT (r o w i c es n:Nat):Nat × Nat × Nat × Nat:=
 match c with
 | 0=>if 0<es∧w % es=0 then (r,o,es,fY i (w / es)+n) else (r,o+i * w,es,n)
 | c=>(r,o+i * w+c,es,n)
def Body.aov:Body->Bool
 | .sg _=>true
 | _=>false
def iz (P:Program) (s:St) (t:TypeId) (x ix:NC):Option (List Bool × NS):=
 match ix with
 | .i _ n=>
   (match P.underlying t,x with
    | some (.array len e),.q r o w i c=>
      if 1<len∧0<al P e then
       some ([decide (0<=n),decide (n<len)],.v (.c (.q (OT r o w i c (al P e) n.toNat).1 (OT r o w i c (al P e) n.toNat).2.1 (OT r o w i c (al P e) n.toNat).2.2.1 (OT r o w i c (al P e) n.toNat).2.2.2 0)))
      else none
    | some (.slice e),.hq r o w i len=>
      if al P e=w∧0<w then some ([decide (0<=n),decide (n<len)],.v (.c (.q r o w (eR i n.toNat) 0))) else none
    | some (.array len e),.p r i c=>
      (match s.bK r with
       | some g=>
         let cond:=[decide (0<=n),decide (n<len)]
         if 1<len∧0<al P e then
          (match g.body.aov,i with
           | true,0=>some (cond,.v (.c (.q r c (al P e) n.toNat 0)))
           | true,_=>none
           | false,_=>if al P e=g.st then (match c with | 0=>some (cond,.v (.c (.p r (i+n.toNat) 0))) | _=>some (cond,.v (.c (.p r i (c+n.toNat * al P e)))))
           else some (cond,.v (.c (.p r i (c+n.toNat * al P e)))))
         else none
       | none=>none)
    | some (.slice e),.h r off len=>
      (match s.bK r with
       | some g=>if al P e=g.st∧0<g.st then some ([decide (0<=n),decide (n<len)],.v (.c (.p r (off+n.toNat) 0))) else none
       | none=>none)
    | some (.slice e),.hz r len=>
      (match s.bK r with
       | some g=>if al P e=g.st∧0<g.st then some ([decide (0<=n),decide (n<len)],.v (.c (.p r n.toNat 0))) else none
       | none=>none)
    | some (.slice e),.l k xs=>if al P e=1 then some ([decide (0<=n),decide (n<xs.length)],.v (.c (.pl k xs n.toNat))) else none
    | some (.slice e),.lr ks xs=>if al P e=ks.length then some ([decide (0<=n),decide (n<xs.length)],.v (.c (.pr ks xs n.toNat 0))) else none
    | some (.slice e),.lt sch xs=>if al P e=aO sch then some ([decide (0<=n),decide (n<xs.length)],.v (.c (.pt sch xs n.toNat 0))) else none
    | _,_=>none)
 | _=>none
def cA (s:ByteArray) (i:Nat):Int:=((s.data.getD i 0).toNat:Int)
def BZ:List NC->Option (IntKind × List Int)
 | []=>none
 | .i k n::l=>(match jo k l with | some r=>some (k,n::r) | none=>none)
 | _::_=>none
def wG:List NC->Option (List Bool)
 | []=>some []
 | .b x::l=>(match wG l with | some r=>some (x::r) | none=>none)
 | _::_=>none
def It (P:Program) (t:TypeId) (x:NS) (ix:NC):Option (List Bool × NS):=
 match ix with
 | .i _ n=>
   (match P.underlying t,x with
    | some .string,.v (.c (.s z))=>some ([decide (0<=n),decide (n<z.size)],.v (.c (.i .u8 (cA z n.toNat))))
    | some (.array len e),.v (.sg l)=>
      if 0<al P e then
       (match P.underlying e,mA l 0 (al P e) n.toNat 0 (al P e) (b4 P e) with
        | some _,some v=>if b4 P e||al P e==1 then some (decide (0<=n)::decide (n<len)::v.1,.v v.2) else none
        | _,_=>none)
      else none
    | some (.array len e),.v (.ag xs)=>
      if b4 P e then (if 0<al P e then some ([decide (0<=n),decide (n<len)],.v (.ag ((xs.drop (n.toNat * al P e)).take (al P e)))) else none) else if al P e=1 then
       (match BZ xs with
        | some (k,l)=>if l.length=len then
           (match P.underlying e with
            | some _=>some ([decide (0<=n),decide (n<len)],.v (.c (.i k (l.getD n.toNat 0))))
            | none=>none)
          else none
        | none=>
          (match wG xs with
           | some l=>if l.length=len then
              (match P.underlying e with
               | some _=>some ([decide (0<=n),decide (n<len)],.v (.c (.b (l.getD n.toNat false))))
               | none=>none)
             else none
           | none=>none))
      else none
    | _,_=>none)
 | _=>none
def xk (s:St) (x:Option Operand):Option (Option NC):=
 match x with
 | none=>some none
 | some o=>(match (s.ev o).nc with
   | some a=>some (some a)
   | none=>none)
def sliceB (len:Nat) (lo hi:Option NC):Option (List Bool × Nat × Nat):=
 match lo,hi with
 | none,none=>some ([],0,len)
 | none,some (.i _ h)=>some ([decide (0<=h),decide (h<=len)],0,h.toNat)
 | some (.i _ l),none=>some ([decide (0<=l),decide (l<=len)],l.toNat,len)
 | some (.i _ l),some (.i _ h)=>some ([decide (0<=l),decide (l<=h),decide (h<=len)],l.toNat,h.toNat)
 | _,_=>none
def tN (P:Program) (s:St) (t:TypeId) (x:NC) (lo hi:Option NC):Option (List Bool × NS):=
 match P.underlying t,x with
 | some (.array n e),.q r o w i c=>
   (match sliceB n lo hi with
    | some (cs,a,b)=>if 0<al P e∧n<=1000000 then
       some (cs,.v (.c (.hq (OT r o w i c (al P e) a).1 (OT r o w i c (al P e) a).2.1 (OT r o w i c (al P e) a).2.2.1 (OT r o w i c (al P e) a).2.2.2 (b - a)))) else none
    | none=>none)
 | some (.array n e),.p r 0 c=>
   (match s.bK r,sliceB n lo hi with
    | some g,some (cs,a,b)=>if g.body.aov=true∧0<al P e∧n<=1000000 then some (cs,.v (.c (.hq r c (al P e) a (b - a)))) else none
    | _,_=>none)
 | some (.slice e),.hq r o w i len=>
   (match sliceB len lo hi with
    | some (cs,a,b)=>if al P e=w∧0<w then some (cs,.v (.c (.hq r o w (eR i a) (b - a)))) else none
    | none=>none)
 | some (.slice e),.h r off len=>
   (match s.bK r,sliceB len lo hi with
    | some g,some (c,a,b)=>if al P e=g.st∧0<g.st then some (c,.v (.c (.h r (off+a) (b - a)))) else none
    | _,_=>none)
 | some (.slice e),.hz r len=>
   (match s.bK r,sliceB len lo hi with
    | some g,some (c,a,b)=>if al P e=g.st∧0<g.st then some (decide (0<len)::c,.v (.c (.h r a (b - a)))) else none
    | _,_=>none)
 | some (.slice e),.l k xs=>
   (match sliceB xs.length lo hi with
    | some (c,a,b)=>if al P e=1 then some (c,.v (.c (.l k ((xs.take b).drop a)))) else none
    | none=>none)
 | some (.slice e),.lr ks xs=>
   (match sliceB xs.length lo hi with
    | some (c,a,b)=>if al P e=ks.length then some (c,.v (.c (.lr ks ((xs.take b).drop a)))) else none
    | none=>none)
 | some (.slice e),.lt sch xs=>
   (match sliceB xs.length lo hi with
    | some (c,a,b)=>if al P e=aO sch then some (c,.v (.c (.lt sch ((xs.take b).drop a)))) else none
    | none=>none)
 | some .string,.s z=>
   (match sliceB z.size lo hi with
    | some (c,a,b)=>some (c,.v (.c (.s (z.extract a b))))
    | none=>none)
 | some (.slice e),.sn=>
   (match sliceB 0 lo hi with
    | some (c,_,_)=>if 0<al P e then some (c,.v (.c .sn)) else none
    | none=>none)
 | _,_=>none
inductive cK where
 | ints (k:IntKind) (xs:List Int)
 | aA (ks:List CK) (xs:List (List Sc))
def xl:List bq->Nat->Nat->Nat->Nat->Option (List Bool × cK)
 | [],_,_,_,_=>none
 | s::l,o,w,i,len=>
   if s.size<=o then xl l (o - s.size) w i len
   else match s with
    | .cells _=>none
    | .ints k m xs=>if w=1 then some ([decide (eR o i+len<=m)],.ints k ((xs.drop (eR o i)).take len)) else none
    | .aA ks m xs=>if 0<ks.length∧o % ks.length=0∧w=ks.length then some ([decide (eR (o / ks.length) i+len<=m)],.aA ks ((xs.drop (eR (o / ks.length) i)).take len)) else none
def nL (s:St) (x:NC):Option (List Bool × cK):=
 match x with
 | .h r off len=>
   (match s.bK r with
    | some g=>
      (match g.body with
       | .ints k xs=>some ([decide (off+len<=xs.length)],.ints k ((xs.drop off).take len))
       | .aA ks xs=>some ([decide (off+len<=xs.length)],.aA ks ((xs.drop off).take len))
       | .cells _=>none
       | .sg _=>none
       | .ij _ _=>none
       | .mp _ _ _=>none)
    | none=>none)
 | .hq r o w i len=>
   (match s.bK r with
    | some g=>
      (match g.body with
       | .sg l=>xl l o w i len
       | _=>none)
    | none=>none)
 | .hz r len=>
   (match s.bK r with
    | some g=>
      (match g.body with
       | .ints k xs=>some ([decide (len<=xs.length)],.ints k (xs.take len))
       | .aA ks xs=>some ([decide (len<=xs.length)],.aA ks (xs.take len))
       | _=>none)
    | none=>none)
 | .l k xs=>some ([],.ints k xs)
 | .lr ks xs=>some ([],.aA ks xs)
 | _=>none
def lE (s:St) (x:NC):Option (List Bool × List Part × List (List FC)):=
 match x with
 | .h r off len=>
   (match s.bK r with
    | some g=>(match g.body with
      | .ij sch xs=>some ([decide (off+len<=xs.length)],sch,(xs.drop off).take len)
      | _=>none)
    | none=>none)
 | .hz r len=>
   (match s.bK r with
    | some g=>(match g.body with
      | .ij sch xs=>some ([decide (len<=xs.length)],sch,xs.take len)
      | _=>none)
    | none=>none)
 | .lt sch xs=>some ([],sch,xs)
 | _=>none
def fZ (e:TypeId) (sch:List Part) (xs:List (List FC)):aG:={st:=aO sch,e:=e,body:=.ij sch xs}
def rQ (P:Program) (e:TypeId) (sch:List Part):Bool:=
 decide (Lw P e=some sch)&&decide (0<aO sch)&&b4 P e&&(match P.info? e with
  | some i=>(match i.zero with
    | some z=>z.cells.size==i.size&&i.size==aO sch
    | none=>false)
  | none=>false)
def Ly (P:Program) (e:TypeId) (n:Nat):Option aG:=
 match zeroCells P e with
 | some [.i k z]=>some {st:=1,e:=e,body:=.ints k (axx n z)}
 | some [.b z]=>some {st:=1,e:=e,body:=.aA [.b] (axx n [.b z])}
 | some zs=>
   (match qM zs with
    | some ks=>
      (match jP ks zs with
       | some row=>if 1<ks.length then some {st:=ks.length,e:=e,body:=.aA ks (axx n row)} else none
       | none=>none)
    | none=>none)
 | none=>none
def gd (P:Program) (size:Nat->Option (Nat × Nat)):List NC->List (Nat × NS)->Option (List NC)
 | xs,[]=>some xs
 | xs,(i,v)::rest=>
   (match size i,v.nv with
    | some (off,n),some x=>
      if x.size=n∧off+n<=xs.length then gd P size (aw xs off x.cells) rest else none
    | _,_=>none)
def Iu (P:Program) (t:TypeId) (parts:List (Nat × NS)):Option (List NC):=
 match zeroCells P t,P.underlying t with
 | some z,some (.struct fs)=>if fs.toList.all (fun f=>(P.info? f.type).isSome) then gd P (fun i=>(fs[i]?).map fun f=>(f.offset,al P f.type)) z parts else none
 | some z,some (.array _ e)=>if 0<al P e then gd P (fun i=>some (i * al P e,al P e)) z parts else none
 | _,_=>none
def jH (size:Nat->Option (Nat × Nat)):List bq->List (Nat × NS)->Option (List bq)
 | xs,[]=>some xs
 | xs,(i,v)::rest=>
   (match size i,v.nv with
    | some (off,n),some x=>
      if x.size=n∧off+n<=b6 xs then
       (match k8 xs off n x.my with
        | some ys=>jH size ys rest
        | none=>none)
      else none
    | _,_=>none)
def B5 (P:Program) (t:TypeId) (parts:List (Nat × NS)):Option NV:=
 match Ir P t with
 | false=>(match Iu P t parts with | some l=>some (.ag l) | none=>none)
 | true=>(match n9 P t,P.underlying t with
   | some z,some (.struct fs)=>if fs.toList.all (fun f=>(P.info? f.type).isSome) then (match jH (fun i=>(fs[i]?).map fun f=>(f.offset,al P f.type)) z parts with | some l=>some (.sg l) | none=>none) else none
   | some z,some (.array _ e)=>if 0<al P e then (match jH (fun i=>some (i * al P e,al P e)) z parts with | some l=>some (.sg l) | none=>none) else none
   | _,_=>none)
def aa' (n:Nat) (z:List NC):List NC:=(axx n z).flatten
def R7 (P:Program) (s:St) (args:List Operand) (ts:List TypeId):Option (List Bool × NS):=
 match args,ts with
 | [x],[t]=>
   (match P.underlying t,s.ev x with
    | some (.slice _),.v (.c (.h _ _ n))=>some ([],.v (.c (.i .i64 n)))
    | some (.slice _),.v (.c (.hq _ _ _ _ n))=>some ([],.v (.c (.i .i64 n)))
    | some (.slice _),.v (.c (.hz _ n))=>some ([],.v (.c (.i .i64 n)))
    | some (.slice _),.v (.c (.l _ xs))=>some ([],.v (.c (.i .i64 xs.length)))
    | some (.slice _),.v (.c (.lr _ xs))=>some ([],.v (.c (.i .i64 xs.length)))
    | some (.slice _),.v (.c (.lt _ xs))=>some ([],.v (.c (.i .i64 xs.length)))
    | some (.slice _),.v (.c .sn)=>some ([],.v (.c (.i .i64 0)))
    | some .string,.v (.c (.s z))=>some ([],.v (.c (.i .i64 z.size)))
    | some (.array n _),_=>some ([],.v (.c (.i .i64 n)))
    | _,_=>none)
 | _,_=>none
def R8:Part->NC->Option FC
 | .i k,.i k' n=>if k=k' then some (.i n) else none
 | .b,.b x=>some (.b x)
 | .s,.s x=>some (.s x)
 | .l k,.l k' xs=>if k=k' then some (.is xs) else none
 | .l _,.sn=>some (.is [])
 | .lr ks,.lr nT xs=>if ks=nT then some (.rs xs) else none
 | .lr ks,.sn=>if 0<ks.length then some (.rs []) else none
 | _,_=>none
def lF:List Part->List NC->List bq->Option (List FC)
 | [],[],[]=>some []
 | [],_,_=>none
 | .ai k n::sch,[],.ints k' n' xs::rest=>if k=k'∧n=n' then (match lF sch [] rest with | some r=>some (.is xs::r) | none=>none) else none
 | .ar ks n::sch,[],.aA nT n' xs::rest=>if ks=nT∧n=n' then (match lF sch [] rest with | some r=>some (.rs xs::r) | none=>none) else none
 | p::sch,x::xs,rest=>(match R8 p x,lF sch xs rest with | some a,some r=>some (a::r) | _,_=>none)
 | p::sch,[],.cells (x::xs)::rest=>(match R8 p x,lF sch xs rest with | some a,some r=>some (a::r) | _,_=>none)
 | _,_,_=>none
def Lz (sch:List Part):NV->Option (List FC)
 | .c _=>none
 | .ag xs=>lF sch xs []
 | .sg l=>lF sch [] l
def mC (sch:List Part) (s:St):Nat->List (Nat × Operand)->Option (List (List FC))
 | _,[]=>some []
 | j,(i,x)::l=>if i=j then (match (s.ev x).nv with
    | some v=>(match Lz sch v,mC sch s (j+1) l with
      | some a,some r=>some (a::r)
      | _,_=>none)
    | none=>none) else none
def kj (P:Program) (s:St) (t:TypeId) (len:Nat) (parts:List (Nat × Operand)):Option aG:=
 match P.underlying t with
 | some (.slice e)=>(match xh P e,Lw P e with
   | none,some sch=>if rQ P e sch=true∧parts.length=len∧len * aO sch<=16777216∧len<=16777216 then
      (match mC sch s 0 parts with
       | some rows=>some (fZ e sch rows)
       | none=>none) else none
   | _,_=>none)
 | _=>none
def dS:List Part->List FC->List FC->Nat->Bool
 | [],_,_,_=>true
 | .i _::sch,a,b,j=>((a.getD j (.i 0)).n==(b.getD j (.i 0)).n)&&dS sch a b (j+1)
 | .b::sch,a,b,j=>((a.getD j (.i 0)).t==(b.getD j (.i 0)).t)&&dS sch a b (j+1)
 | _,_,_,_=>false
def gg (P:Program):List Field->List Part->Nat->Bool
 | [],[],_=>true
 | f::fs,.i k::ks,j=>f.name !="_"&&f.offset==j&&(match P.underlying f.type with | some (.int k')=>decide (k'=k) | _=>false)&&gg P fs ks (j+1)
 | f::fs,.b::ks,j=>f.name !="_"&&f.offset==j&&(match P.underlying f.type with | some .bool=>true | _=>false)&&gg P fs ks (j+1)
 | _,_,_=>false
def jA (P:Program) (t:TypeId) (ks:List Part):Bool:=
 match P.underlying t with
 | some (.struct fs)=>gg P fs.toList ks 0&&!P.stoodInHeld t&&!(P.eqGuardType P.depth t)
 | _=>false
def gW (ks:List Part) (key:List FC) (xs:List (List FC × List FC)):Bool:=xs.any fun x=>dS ks key x.1 0
def jQ (ks:List Part) (key:List FC) (xs:List (List FC × List FC)):List FC:=
 match xs.find? fun x=>dS ks key x.1 0 with
 | some x=>x.2
 | none=>[]
def km (ks:List Part) (key v:List FC):List (List FC × List FC)->List (List FC × List FC)
 | []=>[(key,v)]
 | x::xs=>match dS ks key x.1 0 with
   | true=>(key,v)::xs
   | false=>x::km ks key v xs
def ko (ks:List Part) (key:List FC):List (List FC × List FC)->List (List FC × List FC)
 | []=>[]
 | x::xs=>match dS ks key x.1 0 with
   | true=>xs
   | false=>x::ko ks key xs
def B6 (P:Program) (t:TypeId):Bool:=
 match P.info? t with
 | some i=>(match i.zero with
   | some (.agg _)=>true
   | _=>false)
 | none=>false
def B7 (P:Program) (t:TypeId):Option NV:=
 match B6 P t,Ir P t with
 | true,true=>(match n9 P t with | some l=>some (.sg l) | none=>none)
 | true,false=>(match zeroCells P t with | some l=>some (.ag l) | none=>none)
 | false,_=>none
def oc (P:Program) (s:St) (t:TypeId) (m k:Operand):Option (Nat × aG × List Part × List Part × List (List FC × List FC) × List FC × TypeId):=
 match P.underlying t,(s.ev m).nc,(s.ev k).nv with
 | some (.map kt et),some (.m r),some key=>
   (match s.bK r with
    | some g=>(match g.body with
      | .mp ks sch xs=>(match Lz ks key,jA P kt ks with
        | some row,true=>some (r,g,ks,sch,xs,row,et)
        | _,_=>none)
      | _=>none)
    | none=>none)
 | _,_,_=>none
def rR (P:Program) (s:St) (t:TypeId) (m k:Operand):Option (Bool × NV × NV):=
 match oc P s t m k with
 | some (_,_,ks,sch,xs,row,et)=>(match B7 P et with
   | some z=>some (gW ks row xs,mkSub (aO sch) (bj sch (jQ ks row xs) 0),z)
   | none=>none)
 | none=>none
def rS (P:Program) (s:St) (t:TypeId) (m k v:Operand):Option (Nat × aG):=
 match oc P s t m k with
 | some (r,g,ks,sch,xs,row,_)=>(match (s.ev v).nv with
   | some y=>(match Lz sch y with
     | some vr=>some (r,{g with body:=.mp ks sch (km ks row vr xs)})
     | none=>none)
   | none=>none)
 | none=>none
def rT (P:Program) (s:St) (t:TypeId) (m k:Operand):Option (Nat × aG):=
 match oc P s t m k with
 | some (r,g,ks,sch,xs,row,_)=>some (r,{g with body:=.mp ks sch (ko ks row xs)})
 | none=>none
def jI (P:Program) (s:St) (op:BinOp) (t:TypeId) (x y:Operand):Option Bool:=
 match (s.ev x).nv,(s.ev y).nv,aa9 P false 8 t with
 | some (.ag a),some (.ag b),some ks=>(match lF ks a [],lF ks b [],jA P t ks,op with
   | some ra,some rb,true,.eql=>some (dS ks ra rb 0)
   | some ra,some rb,true,.neq=>some (!dS ks ra rb 0)
   | _,_,_,_=>none)
 | _,_,_=>none
def nmm (less:Bool) (s:St) (args:List Operand):Option (List Bool × NS):=
 match args with
 | [x,y]=>
   (match s.ev x,s.ev y with
    | .v (.c (.i k m)),.v (.c (.i _ n))=>some ([],.v (.c (.i k (bif (match less with | true=>decide (n<m) | false=>decide (n > m)) then n else m))))
    | _,_=>none)
 | _=>none
def OU (P:Program) (s:St) (args:List Operand) (ts:List TypeId):Option (List Bool × NS):=
 match args,ts with
 | [x],[t]=>
   (match P.underlying t,s.ev x with
    | some (.slice _),.v (.c .sn)=>some ([],.v (.c (.i .i64 0)))
    | _,_=>none)
 | _,_=>none
def xm:List NS->Option (List (Nat × Nat × Nat))
 | []=>some []
 | .v (.c (.p r i c))::l=>(match xm l with
   | some t=>some ((r,i,c)::t)
   | none=>none)
 | _::_=>none
def wH (P:Program) (t:TypeId):Bool:=
 match P.info? t with
 | some i=>(match i.zero with
   | some (.pointer none)=>true
   | _=>false)
 | none=>false
def B9 (P:Program) (gl:List Nat) (x:NC) (asserted:TypeId):Option NS:=
 match x with
 | .en=>(match P.underlying asserted,wH P asserted with | some (.pointer _),true=>some (.tu [.c .pn,.c (.b false)]) | _,_=>none)
 | .e k=>if gl.headD 0==asserted||!gl.tail.contains k then none else (match P.underlying asserted,wH P asserted with | some (.pointer _),true=>some (.tu [.c .pn,.c (.b false)]) | _,_=>none)
 | _=>none
def fG (P:Program) (gl:List Nat) (s:St) (op:Op):R1:=
 match op with
 | .move x | .assign x=>.val [] (s.ev x)
 | .alloc t=>(match EH P t (k6 P) with
   | some g=>.new [] g (fun n=>.v (.c (.p n 0 0)))
   | none=>.no)
 | .box t x=>(match (s.ev x).nv with
   | some v=>if v.size=al P t then (match R4 P t (k6 P) v with | some g=>.new [] g (fun n=>.v (.c (.p n 0 0))) | none=>.no) else .no
   | none=>.no)
 | .build t parts=>(match B5 P t (parts.toList.map fun (i,x)=>(i,s.ev x)) with
   | some v=>.val [] (.v v)
   | none=>.no)
 | .buildSlice t len parts=>
   (match P.underlying t with
    | some (.slice e)=>
      (match zeroCells P e with
       | some z=>
         if len * z.length<=16777216∧len<=16777216 then
          (match gd P (fun i=>some (i * al P e,al P e)) (aa' len z) (parts.toList.map fun (i,x)=>(i,s.ev x)) with
           | some l=>.new [] {st:=(gV P e len l).1,e:=e,body:=(gV P e len l).2} (fun n=>.v (.c (.h n 0 len)))
           | none=>.no)
         else .no
       | none=>.no)
    | _=>.no)
 | .load t a=>(match P.underlying t,(s.ev a).nc with | some _,some x=>zU (uW P gl s t x) | _,_=>.no)
 | .store t a x=>(match P.info? t,(s.ev a).nc,(s.ev x).nv with
   | some _,some y,some z=>(match oa P s t y z with | some (c,n,g)=>.pH c n g | none=>.no)
   | _,_,_=>.no)
 | .nilCheck x=>(match s.ev x with
   | .v (.c (.p r i c))=>.val [] (.v (.c (.p r i c)))
   | .v (.c (.q r o w i c))=>.val [] (.v (.c (.q r o w i c)))
   | .v (.c (.pl k xs i))=>.val [] (.v (.c (.pl k xs i)))
   | .v (.c (.pr ks xs i c))=>.val [] (.v (.c (.pr ks xs i c)))
   | .v (.c (.pt sch xs i c))=>.val [] (.v (.c (.pt sch xs i c)))
   | .v (.c (.g x))=>.val [] (.v (.c (.g x)))
   | _=>.no)
 | .binOp op t x y _=>(match (s.ev x).nc,(s.ev y).nc with
   | some a,some b=>(match R6 P gl op t x y a b with | some (c,v)=>.val c (.v (.c v)) | none=>.no)
   | _,_=>.no)
 | .unOp op _ x=>(match (s.ev x).nc with
   | some a=>(match nun op a with | some v=>.val [] (.v (.c v)) | none=>.no)
   | none=>.no)
 | .convert src dst x=>(match (s.ev x).nc with
   | some (.i _ n)=>(match P.underlying src,P.underlying dst with
     | some _,some (.int k)=>.val [] (.v (.c (.i k (k.wrap n))))
     | _,_=>.no)
   | _=>.no)
 | .makeSlice t l c=>(match P.underlying t,(s.ev l).nc,(s.ev c).nc with
   | some (.slice e),some (.i .i64 n),some (.i .i64 m)=>
     (match Ly P e n.toNat with
      | some g=>.new [decide (0<=n),decide (n<=m),decide (m * bf P e<=140737488355328),decide (m<=9223372036854775807)] g (fun nm=>.v (.c (.h nm 0 n.toNat)))
      | none=>.no)
   | _,_,_=>.no)
 | .slice t x lo hi none=>(match (s.ev x).nc,xk s lo,xk s hi with
   | some a,some l,some h=>zU (tN P s t a l h)
   | _,_,_=>.no)
 | .fieldAddr t x f=>(match (s.ev x).nc,lD P t f with
   | some (.p r i c),some (o,_)=>.val [] (.v (.c (.p r i (c+o))))
   | some (.q r a w i c),some (o,_)=>.val [] (.v (.c (.q r a w i (c+o))))
   | some (.pr ks xs i c),some (o,_)=>.val [] (.v (.c (.pr ks xs i (c+o))))
   | some (.pt sch xs i c),some (o,_)=>.val [] (.v (.c (.pt sch xs i (c+o))))
   | _,_=>.no)
 | .field t x f=>(match s.ev x,lD P t f with
   | .v (.ag xs),some (o,ft)=>
     (match P.underlying ft with
      | some _=>
        if b4 P ft then (match sub xs o (al P ft) with | some l=>.val [] (.v (.ag l)) | none=>.no)
        else (match xs[o]? with | some y=>.val [] (.v (.c y)) | none=>.no)
      | none=>.no)
   | .v (.sg l),some (o,ft)=>
     (match P.underlying ft with
      | some _=>(match qN l o (al P ft) (b4 P ft) with | some v=>.val [] (.v v) | none=>.no)
      | none=>.no)
   | _,_=>.no)
 | .indexAddr t x ix=>(match (s.ev x).nc,(s.ev ix).nc with
   | some a,some b=>zU (iz P s t a b)
   | _,_=>.no)
 | .index t x ix=>(match (s.ev ix).nc with
   | some b=>zU (It P t (s.ev x) b)
   | none=>.no)
 | .sliceToArrayPointer t x=>(match P.underlying t,(s.ev x).nc with
   | some (.array n _),some (.h r off len)=>if 0<n then .val [decide (n<=len)] (.v (.c (.p r off 0))) else .no
   | _,_=>.no)
 | .makeFunc (.func f) first caps=>if first.size=0 then
    (match xm (caps.toList.map s.ev) with
     | some l=>.val [] (.v (.c (.cl f l)))
     | none=>.no)
   else .no
 | .typeAssert x _ asserted true=>(match (s.ev x).nc with
   | some a=>(match B9 P gl a asserted with | some v=>.val [] v | none=>.no)
   | none=>.no)
 | .extract x i=>(match s.ev x with
   | .tu l=>(match l[i]? with | some v=>.val [] (.v v) | none=>.no)
   | _=>.no)
 | .call c=>(match c.callee with
   | .builtin .len=>zU (R7 P s c.args.toList c.argTypes.toList)
   | .builtin .cap=>zU (OU P s c.args.toList c.argTypes.toList)
   | .builtin .min=>zU (nmm true s c.args.toList)
   | .builtin .max=>zU (nmm false s c.args.toList)
   | _=>.no)
 | _=>.no
def af (x:Bool) (A B:Prop):Prop:=
 match x with
 | true=>A
 | false=>B
inductive Tr (α:Type):Type 1 where
 | ret (a:α)
 | br (c:Bool) (x y:Tr α)
 | aF (p:Prop) (x:Tr α)
 | all {ι:Type} (p:ι->Prop) (h:∃ i,p i) (f:ι->Tr α)
 | fail
def Tr.run {α:Type}:Tr α->(α->Prop)->Prop
 | .ret a,R=>R a
 | .br c x y,R=>af c (x.run R) (y.run R)
 | .aF p x,R=>p∧x.run R
 | .all p _ f,R=>∀ i,p i->(f i).run R
 | .fail,_=>False
structure Out where
 res:NS
 rg:List (Option aG)
abbrev au:=List NV->List aG->Tr Out
inductive aj where
 | normal
 | exit (id:Nat)
 | ret
 deriving DecidableEq
def names:NC->List Nat
 | .p r _ _=>[r]
 | .q r _ _ _ _=>[r]
 | .hq r _ _ _ _=>[r]
 | .h r _ _=>[r]
 | .hz r _=>[r]
 | .m r=>[r]
 | .cl _ cap=>cap.map (·.1)
 | _=>[]
def Body.names:Body->List Nat
 | .cells xs=>xs.flatMap Nx.names
 | .sg l=>(dt l).flatMap Nx.names
 | _=>[]
def NV.names (x:NV):List Nat:=x.gU.flatMap Nx.names
def NS.names:NS->List Nat
 | .v x=>x.names
 | .tu l=>l.flatMap NV.names
 | .dead=>[]
def cW (s:St):NC->List Nat
 | .p r _ _=>[r]
 | .q r _ _ _ _=>[r]
 | .m r=>[r]
 | .cl _ cap=>cap.map (·.1)
 | .h r _ _=>(match s.bK r with
   | some {body:=.cells _,..}=>[r]
   | _=>[])
 | _=>[]
def NS.cW (s:St):NS->List Nat
 | .v x=>x.gU.flatMap (Nx.cW s)
 | _=>[]
def reach (s:St):Nat->List Nat->List Nat->List Nat
 | 0,_,acc=>acc
 | _,[],acc=>acc
 | fuel+1,n::todo,acc=>
   if acc.contains n then reach s fuel todo acc
   else match s.bK n with
    | some g=>reach s fuel (g.body.names++todo) (acc++[n])
    | none=>reach s fuel todo acc
def bZ (ρ:Nat->Option Nat):NC->Option NC
 | .p r i c=>(ρ r).map fun r=>.p r i c
 | .h r o n=>(ρ r).map fun r=>.h r o n
 | .q r o w i c=>(ρ r).map fun r=>.q r o w i c
 | .hq r o w i n=>(ρ r).map fun r=>.hq r o w i n
 | .hz r n=>(ρ r).map fun r=>.hz r n
 | .m r=>(ρ r).map fun r=>.m r
 | .cl f cap=>(cap.mapM fun x=>(ρ x.1).map fun r=>(r,x.2)).map fun l=>.cl f l
 | x=>some x
def dJ {α β:Type} (f:α->Option β):List α->Option (List β)
 | []=>some []
 | x::xs=>match f x,dJ f xs with
   | some a,some l=>some (a::l)
   | _,_=>none
def iC (f:NC->Option NC):bq->Option bq
 | .cells xs=>(dJ f xs).map .cells
 | s=>some s
def Aw (f:NC->Option NC):NV->Option NV
 | .c x=>(f x).map .c
 | .ag xs=>(dJ f xs).map .ag
 | .sg l=>(dJ (iC f) l).map .sg
def rU (f:NC->Option NC):NS->Option NS
 | .v x=>(Aw f x).map .v
 | .tu l=>(dJ (Aw f) l).map .tu
 | .dead=>some .dead
def cX (f:NC->Option NC) (g:aG):Option aG:=
 match g.body with
 | .cells xs=>(dJ f xs).map fun l=>{g with body:=.cells l}
 | .sg l=>(dJ (iC f) l).map fun l=>{g with body:=.sg l}
 | _=>some g
def ik (f:NC->Option NC):List (Option aG)->Option (List (Option aG))
 | []=>some []
 | none::l=>(ik f l).map (none::·)
 | some g::l=>match cX f g,ik f l with
   | some a,some r=>some (some a::r)
   | _,_=>none
def dz (l:List Nat) (n:Nat):Option Nat:=l.findIdx? (·==n)
def kq (_P:Program) (s:St) (aB:List Nat) (_t:Option TypeId) (x:NC):Option (List Bool × NC):=
 match x with
 | .h r off len=>
   (match dz aB r with
    | some i=>some ([],.h i off len)
    | none=>(match nL s (.h r off len) with
      | some (c,.ints k xs)=>some (c,.l k xs)
      | some (c,.aA ks xs)=>some (c,.lr ks xs)
      | none=>(match lE s (.h r off len) with
        | some (c,sch,xs)=>some (c,.lt sch xs)
        | none=>none)))
 | .hq r o w i len=>
   (match dz aB r with
    | some j=>some ([],.hq j o w i len)
    | none=>(match nL s (.hq r o w i len) with
      | some (c,.ints k xs)=>some (c,.l k xs)
      | some (c,.aA ks xs)=>some (c,.lr ks xs)
      | _=>none))
 | .hz r len=>
   (match dz aB r with
    | some j=>some ([],.hz j len)
    | none=>(match nL s (.hz r len) with
      | some (c,.ints k xs)=>some (c,.l k xs)
      | some (c,.aA ks xs)=>if 0<ks.length then some (c,.lr ks xs) else none
      | none=>(match lE s (.hz r len) with
        | some (c,sch,xs)=>some (c,.lt sch xs)
        | none=>none)))
 | .sn=>some ([],.sn)
 | x=>(bZ (dz aB) x).map fun y=>([],y)
def Ca (f:NC->Option (List Bool × NC)):List NC->Option (List Bool × List NC)
 | []=>some ([],[])
 | x::xs=>match f x,Ca f xs with
   | some (c,a),some (d,l)=>some (c++d,a::l)
   | _,_=>none
def xn (f:NC->Option (List Bool × NC)):bq->Option (List Bool × bq)
 | .cells xs=>(Ca f xs).map fun p=>(p.1,.cells p.2)
 | s=>some ([],s)
def kr (f:NC->Option (List Bool × NC)):List bq->Option (List Bool × List bq)
 | []=>some ([],[])
 | x::xs=>match xn f x,kr f xs with
   | some (c,a),some (d,l)=>some (c++d,a::l)
   | _,_=>none
def qm (P:Program) (s:St) (aB:List Nat) (t:Option TypeId):NV->Option (List Bool × NV)
 | .c x=>(kq P s aB t x).map fun p=>(p.1,.c p.2)
 | .ag xs=>(Ca (kq P s aB none) xs).map fun p=>(p.1,.ag p.2)
 | .sg l=>(kr (kq P s aB none) l).map fun p=>(p.1,.sg p.2)
def od (P:Program) (s:St) (aB:List Nat):List TypeId->List NV->Option (List Bool × List NV)
 | _,[]=>some ([],[])
 | ts,x::xs=>match qm P s aB ts.head? x,od P s aB ts.tail xs with
   | some (c,a),some (d,l)=>some (c++d,a::l)
   | _,_=>none
def NC.isL:NC->Bool
 | .l _ _ | .lr _ _ | .pl _ _ _ | .pr _ _ _ _ | .lt _ _ | .pt _ _ _ _=>true
 | _=>false
def NS.tO:NS->Bool
 | .v x=>x.gU.any NC.isL
 | .tu l=>l.any fun x=>x.gU.any NC.isL
 | .dead=>false
def Cb (l:List (Option aG)):Bool:=l.any fun g=>match g with
 | some {body:=.cells xs,..}=>xs.any NC.isL
 | some {body:=.sg l,..}=>(dt l).any NC.isL
 | some {body:=.ij _ _,..}=>true
 | some {body:=.mp _ _ _,..}=>true
 | _=>false
def tP (aB:List Nat) (nm tot:Nat) (j:Nat):Option Nat:=
 if j<aB.length then aB[j]? else if j<tot then some (nm+(j - aB.length)) else none
def ku:List NS->Option (List NV)
 | []=>some []
 | x::xs=>match x.nv,ku xs with
   | some a,some l=>some (a::l)
   | _,_=>none
structure Cx where
 P:Program
 con:FuncId->Option au
 glob:List Nat
 m:Nat
 loops:List (Nat × List Nat × (St->Tr (aj × St)))
structure fQ where
 up:List (Nat × Option aG)
 v:NS
def Tr.bind {α β:Type}:Tr α->(α->Tr β)->Tr β
 | .ret a,f=>f a
 | .br c x y,f=>.br c (x.bind f) (y.bind f)
 | .aF p x,f=>.aF p (x.bind f)
 | .all p h g,f=>.all p h fun i=>(g i).bind f
 | .fail,_=>.fail
def gm {α:Type}:List Bool->Tr α->Tr α
 | [],t=>t
 | b::bs,t=>.br b (gm bs t) .fail
def EI (back:Nat->Option Nat):Nat->List (Option aG)->Option (List (Nat × Option aG))
 | _,[]=>some []
 | j,g::l=>match back j,EI back (j+1) l with
   | some n,some r=>some ((n,g)::r)
   | _,_=>none
def iD (X:Cx) (q:Nat) (aB:List Nat) (f:FuncId) (args:List NV) (nm:Nat) (s:St):Tr fQ:=
 match X.con f,X.P.funcs[f]? with
 | some T,some fn=>
   let vT:=(args.flatMap NV.names).filter fun n=>!aB.contains n
   match od X.P s aB fn.params.toList args,dJ (fun n=>(s.bK n).bind (cX (bZ (dz aB)))) aB with
   | some (c,xo),some I=>
     match T xo I with
     | .fail=>.fail
     | t=>gm c <| t.bind fun o=>
       match rU (bZ (tP aB nm o.rg.length)) o.res,(ik (bZ (tP aB nm o.rg.length)) o.rg).bind (EI (tP aB nm o.rg.length) 0) with
       | some res,some fR=>
         if aB.length<=o.rg.length∧o.rg.length<=aB.length+q then
          .ret {up:=fR++(if o.res.tO||Cb o.rg then vT.map fun n=>(n,none) else []),v:=res}
         else .fail
       | _,_=>.fail
   | _,_=>.fail
 | _,_=>.fail
def mD (X:Cx) (f:FuncId) (args:List NV) (nm:Nat) (s:St):Tr fQ:=iD X 16 (reach s 64 (args.flatMap fun x=>x.gU.flatMap (cW s)) []) f args nm s
def Body.len:Body->Option Nat
 | .cells xs=>some xs.length
 | .sg l=>some (b6 l)
 | .mp _ _ _=>some 0
 | _=>none
def partOf (P:Program) (g:aG) (o:Nat) (te:TypeId):Option aG:=
 match g.body with
 | .cells xs=>if o+al P te<=xs.length∧0<al P te∧al P te<xs.length∧Ir P te=false then some {st:=al P te,e:=te,body:=.cells ((xs.drop o).take (al P te))} else none
 | .sg l=>if o+al P te<=b6 l∧0<al P te∧al P te<b6 l then
    (match mz l o (al P te) with
     | some r=>(match Ir P te with
       | true=>some {st:=al P te,e:=te,body:=.sg r}
       | false=>some {st:=al P te,e:=te,body:=.cells (ay r)})
     | none=>none) else none
 | _=>none
def Cc (g h:aG) (o:Nat):Option aG:=
 match g.body,h.body with
 | .cells xs,.cells ys=>some {g with body:=.cells (aw xs o ys)}
 | .sg l,.cells ys=>(match k8 l o ys.length [.cells ys] with | some l'=>some {g with body:=.sg l'} | none=>none)
 | .sg l,.sg r=>(match k8 l o (b6 r) r with | some l'=>some {g with body:=.sg l'} | none=>none)
 | _,_=>none
def gX (P:Program) (s:St) (t:Option TypeId) (x:NV):Option (Nat × aG × Nat × aG):=
 match t,x with
 | some t,.c (.p r i c)=>(match P.underlying t,s.bK r with
   | some (.pointer te),some g=>(match partOf P g (i * g.st+c) te with
     | some h=>some (r,g,i * g.st+c,h)
     | none=>none)
   | _,_=>none)
 | some t,.c (.q r a w i c)=>(match P.underlying t,s.bK r with
   | some (.pointer te),some g=>(match partOf P g (a+i * w+c) te with
     | some h=>some (r,g,a+i * w+c,h)
     | none=>none)
   | _,_=>none)
 | _,_=>none
def but (nm n:Nat):Option Nat:=if n=nm then none else some n
def EJ (n:Nat):List (Nat × Option aG)->Option aG
 | []=>none
 | (m,g)::l=>match EJ n l with
   | some h=>some h
   | none=>if m=n then g else none
def qO (X:Cx) (f:FuncId) (r:Nat) (g:aG) (o:Nat) (h:aG) (rest:List NV) (nm:Nat) (s:St):Tr fQ:=
 let s' : St:={s with rg:=putAt (putAt s.rg r none) nm (some h)}
 let args:=.c (.p nm 0 0)::rest
 (iD X 15 (reach s' 64 (args.flatMap fun x=>x.gU.flatMap (cW s')) []) f args (nm+1) s').bind fun e=>
   match EJ nm e.up,rU (bZ (but nm)) e.v,ik (bZ (but nm)) (e.up.map (·.2)) with
   | some h',some v,some _=>
     (match Cc g h' o with
      | some g'=>if h'.body.len=h.body.len∧(e.up.all fun u=>u.1 !=nm||u.2.isSome)=true then .ret {up:=(e.up.filter fun u=>u.1 !=nm&&u.1 !=r)++[(r,some g')],v:=v} else .fail
      | none=>.fail)
   | _,_,_=>.fail
def abb {α:Type} (t u:Tr α):Tr α:=
 match t with
 | .fail=>u
 | t=>t
theorem EK {α:Type} {t u:Tr α} {R:α->Prop} (h:(abb t u).run R):t.run R∨u.run R:=by
 unfold abb at h
 split at h
 ·exact .inr h
 ·exact .inl h
def ju (X:Cx) (f:FuncId) (args:List NV) (nm:Nat) (s:St):Tr fQ:=
 match args with
 | x::rest=>(match gX X.P s ((X.P.funcs[f]?).bind fun fn=>fn.params.toList.head?) x with
   | some (r,g,o,h)=>abb (qO X f r g o h rest nm s) (mD X f args nm s)
   | none=>mD X f args nm s)
 | []=>mD X f args nm s
def cK.app:cK->cK->Option cK
 | .ints k xs,.ints k' ys=>if k=k' then some (.ints k (xs++ys)) else none
 | .aA ks xs,.aA nT ys=>if ks=nT then some (.aA ks (xs++ys)) else none
 | _,_=>none
def cK.length:cK->Nat
 | .ints _ xs=>xs.length
 | .aA _ xs=>xs.length
def cK.bK (e:TypeId):cK->aG
 | .ints k xs=>{st:=1,e:=e,body:=.ints k xs}
 | .aA ks xs=>{st:=ks.length,e:=e,body:=.aA ks xs}
def cK.fits (P:Program) (e:TypeId):cK->Bool
 | .ints k _=>decide (xh P e=some [.i k])
 | .aA ks _=>decide (xh P e=some ks)&&decide (0<ks.length)
def jg (P:Program) (e:TypeId) (n:Nat):List Bool:=[decide (n * bf P e<=140737488355328),decide (n<=9223372036854775807)]
def pK (P:Program) (s:St) (t:TypeId) (x y:NC) (nm:Nat):Tr fQ:=
 match P.underlying t with
 | some (.slice e)=>
   (match y with
    | .sn=>if 0<al P e then
      (match x with
       | .sn=>.ret {up:=[],v:=.v (.c .sn)}
       | .h r off len=>.ret {up:=[],v:=.v (.c (.h r off len))}
       | .hz r len=>.ret {up:=[],v:=.v (.c (.hz r len))}
       | _=>.fail) else .fail
    | y=>
      (match nL s y with
       | some (c,ys)=>
         if ys.fits P e then
          (match x with
           | .sn=>gm c <| .br (decide (ys.length=0)) (.ret {up:=[],v:=.v (.c .sn)})
              (gm (jg P e ys.length) (.ret {up:=[(nm,some (ys.bK e))],v:=.v (.c (.h nm 0 ys.length))}))
           | .h r off len=>
             (match off,nL s (.h r 0 len),s.bK r with
              | 0,some (d,xs),some g=>
                (match xs.app ys with
                 | some zs=>
                   if g.e=e∧xs.fits P e then
                    gm c <| gm d <| gm (jg P e (len+ys.length)) (.ret {up:=[(r,none),(nm,some (zs.bK e))],v:=.v (.c (.h nm 0 (len+ys.length)))})
                   else .fail
                 | none=>.fail)
              | _,_,_=>.fail)
           | .hz r len=>
             (match nL s (.hz r len),s.bK r with
              | some (d,xs),some g=>
                (match xs.app ys with
                 | some zs=>
                   if g.e=e∧xs.fits P e then
                    gm c <| gm d <| gm (jg P e (len+ys.length)) (.ret {up:=[(r,none),(nm,some (zs.bK e))],v:=.v (.c (.hz nm (len+ys.length)))})
                   else .fail
                 | none=>.fail)
              | _,_=>.fail)
           | _=>.fail)
         else .fail
       | none=>.fail))
 | _=>.fail
def lG (P:Program) (s:St) (t:TypeId) (x y:NC) (nm:Nat):Option (Tr fQ):=
 match P.underlying t with
 | some (.slice e)=>
   (match lE s y with
    | some (c,sch,ys)=>
      if rQ P e sch=true then
       (match x with
        | .sn=>some (gm c <| .br (decide (ys.length=0)) (.ret {up:=[],v:=.v (.c .sn)})
           (gm (jg P e ys.length) (.ret {up:=[(nm,some (fZ e sch ys))],v:=.v (.c (.h nm 0 ys.length))})))
        | .h r 0 len=>(match lE s (.h r 0 len),s.bK r with
          | some (d,rV,xs),some g=>
            if rV=sch∧g.e=e then
             some (gm c <| gm d <| gm (jg P e (len+ys.length)) (.ret {up:=[(r,none),(nm,some (fZ e sch (xs++ys)))],v:=.v (.c (.h nm 0 (len+ys.length)))}))
            else none
          | _,_=>none)
        | .hz r len=>(match lE s (.hz r len),s.bK r with
          | some (d,rV,xs),some g=>
            if rV=sch∧g.e=e then
             some (gm c <| gm d <| gm (jg P e (len+ys.length)) (.ret {up:=[(r,none),(nm,some (fZ e sch (xs++ys)))],v:=.v (.c (.hz nm (len+ys.length)))}))
            else none
          | _,_=>none)
        | _=>none)
      else none
    | none=>none)
 | _=>none
def tQ (P:Program) (s:St) (t u:TypeId) (x y:NC) (nm:Nat):Tr fQ:=
 match P.underlying t,P.underlying u,y with
 | some (.slice e),some (.int _),.i _ n=>
   (match x with
    | .sn=>(match zeroCells P e with
      | some [.i k z]=>gm [decide (0<n),decide (n.toNat * bf P e<=140737488355328),decide (n<=9223372036854775807)]
         (.ret {up:=[(nm,some ((cK.ints k (axx n.toNat z)).bK e))],v:=.v (.c (.h nm 0 n.toNat))})
      | _=>.fail)
    | .h r off len=>(match zeroCells P e,off,nL s (.h r 0 len),s.bK r with
      | some [.i k z],0,some (d,.ints k' xs),some g=>
        if g.e=e∧k=k' then
         gm d <| gm [decide (0<n),decide ((len+n.toNat) * bf P e<=140737488355328),decide (len+n.toNat<=9223372036854775807)]
          (.ret {up:=[(r,none),(nm,some ((cK.ints k (xs++axx n.toNat z)).bK e))],v:=.v (.c (.h nm 0 (len+n.toNat)))})
        else .fail
      | _,_,_,_=>.fail)
    | _=>.fail)
 | _,_,_=>.fail
def R9:Body->Option cK
 | .ints k xs=>some (.ints k xs)
 | .aA ks xs=>some (.aA ks xs)
 | _=>none
def cK.body:cK->Body
 | .ints k xs=>.ints k xs
 | .aA ks xs=>.aA ks xs
def cK.qk:cK->Nat->Nat->cK->Option cK
 | .ints k xs,o,n,.ints k' ys=>if k=k' then some (.ints k (aw xs o (ys.take n))) else none
 | .aA ks xs,o,n,.aA nT ys=>if ks=nT∧0<ks.length then some (.aA ks (aw xs o (ys.take n))) else none
 | _,_,_,_=>none
def Cd (P:Program) (s:St) (e:TypeId) (r off len:Nat) (y:NC):Tr fQ:=
 match s.bK r,nL s y with
 | some g,some (c,ys)=>
   (match R9 g.body with
    | some xs=>(match xs.qk off len ys with
      | some zs=>if al P e=g.st then gm (c++[decide (off+len<=xs.length)]) (.ret {up:=[(r,some {g with body:=zs.body})],v:=.v (.c (.i .i64 ((Nat.min ys.length len:Nat):Int)))}) else .fail
      | none=>.fail)
    | none=>.fail)
 | _,_=>.fail
def Ax (P:Program) (s:St) (t:TypeId) (x y:NC):Tr fQ:=
 match P.underlying t,x,y with
 | some (.slice e),.hq r o w a n,.hq r' o' w' a' n'=>
   (match s.bK r,s.bK r' with
    | some g,some g'=>
      (match g.body,g'.body with
       | .sg l,.sg l'=>
         if al P e=w∧w'=w∧0<w∧0<Nat.min n' n then
          (match mA l' o' w a' 0 (Nat.min n' n * w) true with
           | some (c1,v)=>(match pJ l o w a 0 v with
             | some (c2,l2)=>gm (c1++c2) (.ret {up:=[(r,some {g with body:=.sg l2})],v:=.v (.c (.i .i64 ((Nat.min n' n:Nat):Int)))})
             | none=>.fail)
           | none=>.fail)
         else .fail
       | _,_=>.fail)
    | _,_=>.fail)
 | some (.slice e),.h r off len,y=>Cd P s e r off len y
 | _,_,_=>.fail
def tR (P:Program) (s:St) (t:TypeId) (x:NC):Tr fQ:=
 match P.underlying t,x with
 | some (.slice _),.sn=>.ret {up:=[],v:=.tu []}
 | some (.slice e),.h r off len=>
   (match s.bK r,zeroCells P e with
    | some g,some z=>
      (match g.body with
       | .aA ks xs=>(match jP ks z with
         | some row=>if al P e=ks.length then gm [decide (off+len<=xs.length)] (.ret {up:=[(r,some {g with body:=.aA ks (aw xs off (axx len row))})],v:=.tu []}) else .fail
         | none=>.fail)
       | _=>.fail)
    | _,_=>.fail)
 | _,_=>.fail
def R1.OV (r:R1) (nm:Nat):Tr fQ:=
 match r with
 | .no=>.fail
 | .val c v=>gm c (.ret {up:=[],v:=v})
 | .new c g v=>gm c (.ret {up:=[(nm,some g)],v:=v nm})
 | .pH c n g=>gm c (.ret {up:=[(n,some g)],v:=.dead})
def bytesOf (P:Program) (s:St) (src dst:TypeId) (x:Operand):Option (List Bool × ByteArray):=
 match s.ev x with
 | .v (.c (.h r off len))=>
   (match P.underlying src,P.underlying dst with
    | some (.slice e),some .string=>
      (match P.underlying e,nL s (.h r off len) with
       | some (.int .u8),some (c,.ints .u8 xs)=>some (c,strOfNums xs)
       | _,_=>none)
    | _,_=>none)
 | .v (.c .sn)=>
   (match P.underlying src,P.underlying dst with
    | some (.slice e),some .string=>
      (match P.underlying e with
       | some (.int .u8)=>some ([],ByteArray.empty)
       | _=>none)
    | _,_=>none)
 | _=>none
def oe (P:Program) (s:St) (t:TypeId) (x:Operand):Option (Nat × IntKind × List Int):=
 match s.ev x,P.underlying t with
 | .v (.c (.p r 0 0)),some (.array n e)=>
   (match s.bK r with
    | some g=>(match g.body with
      | .ints k xs=>if n=xs.length∧0<n∧0<al P e then some (r,k,xs) else none
      | _=>none)
    | none=>none)
 | _,_=>none
def rW (P:Program) (s:St) (src dst:TypeId) (x:Operand):Option (Nat × IntKind × List Int):=
 match s.ev x,P.underlying src with
 | .v (.c (.h r 0 len)),some (.slice e)=>
   (match P.underlying e,s.bK r with
    | some (.int .u8),some g=>(match g.body with
      | .ints k xs=>if src=dst∧len=xs.length∧0<len then some (r,k,xs) else none
      | _=>none)
    | _,_=>none)
 | _,_=>none
def tS (P:Program) (s:St) (op:BinOp) (t:TypeId) (x y:Operand):Option (Bool × Bool):=
 match (s.ev x).nc,(s.ev y).nc,P.underlying t with
 | some (.l _ xs),some .sn,some (.slice _)=>(match op with
   | .eql=>some (xs.isEmpty,false)
   | .neq=>some (xs.isEmpty,true)
   | _=>none)
 | some (.lr _ xs),some .sn,some (.slice _)=>(match op with
   | .eql=>some (xs.isEmpty,false)
   | .neq=>some (xs.isEmpty,true)
   | _=>none)
 | some (.hz _ n),some .sn,some (.slice _)=>(match op with
   | .eql=>some (n==0,false)
   | .neq=>some (n==0,true)
   | _=>none)
 | _,_,_=>none
def ka (X:Cx) (op:Op) (nm:Nat) (s:St):Tr fQ:=
 match op with
 | .binOp Ic t x y _=>
   (match tS X.P s Ic t x y with
    | some (e,d)=>.br e (.all (fun _:Bool=>True) ⟨true,trivial⟩ fun b=>.ret {up:=[],v:=.v (.c (.b b))}) (.ret {up:=[],v:=.v (.c (.b d))})
    | none=>(match jI X.P s Ic t x y with
      | some b=>.ret {up:=[],v:=.v (.c (.b b))}
      | none=>(fG X.P X.glob s op).OV nm))
 | .pick c a b=>
   (match s.ev c with
    | .v (.c (.b x))=>.br x (.ret {up:=[],v:=s.ev a}) (.ret {up:=[],v:=s.ev b})
    | _=>.fail)
 | .call c=>
   (match c.callee with
    | .value f=>
      (match s.ev f,ku (c.args.toList.map s.ev) with
       | .v (.c (.cl f cap)),some l=>ju X f (l++cap.map fun x=>.c (.p x.1 x.2.1 x.2.2)) nm s
       | _,_=>.fail)
    | .builtin .append=>
      (match c.args.toList,c.argTypes.toList with
       | [x,y],[t,u]=>
         if t=u then
          (match (s.ev x).nc,(s.ev y).nc with
           | some a,some b=>(match lG X.P s t a b nm with
             | some tr=>tr
             | none=>pK X.P s t a b nm)
           | _,_=>.fail)
         else
          (match (s.ev x).nc,(s.ev y).nc with
           | some a,some b=>tQ X.P s t u a b nm
           | _,_=>.fail)
       | _,_=>.fail)
    | .builtin .delete=>
      (match c.args.toList,c.argTypes.toList with
       | [m,k],t::_=>(match rT X.P s t m k with
         | some (r,g)=>.ret {up:=[(r,some g)],v:=.tu []}
         | none=>.fail)
       | _,_=>.fail)
    | .builtin .copy=>
      (match c.args.toList,c.argTypes.toList with
       | [x,y],[t,_]=>
         (match (s.ev x).nc,(s.ev y).nc with
          | some a,some b=>Ax X.P s t a b
          | _,_=>.fail)
       | _,_=>.fail)
    | .builtin .clear=>
      (match c.args.toList,c.argTypes.toList with
       | [x],[t]=>(match (s.ev x).nc with
         | some a=>tR X.P s t a
         | none=>.fail)
       | _,_=>.fail)
    | _=>(fG X.P X.glob s op).OV nm)
 | .convert src dst x=>
   (match bytesOf X.P s src dst x with
    | some (c,z)=>gm c (.ret {up:=[],v:=.v (.c (.s z))})
    | none=>(match rW X.P s src dst x with
      | some (r,k,xs)=>.ret {up:=[(r,none)],v:=.v (.c (.l k xs))}
      | none=>(fG X.P X.glob s op).OV nm))
 | .slice t x none none none=>
   (match oe X.P s t x with
    | some (r,k,xs)=>.ret {up:=[(r,none)],v:=.v (.c (.l k xs))}
    | none=>(fG X.P X.glob s op).OV nm)
 | .lookup t m k ok=>
   (match rR X.P s t m k with
    | some (has,v,z)=>(match ok with
      | true=>.br has (.ret {up:=[],v:=.tu [v,.c (.b true)]}) (.ret {up:=[],v:=.tu [z,.c (.b false)]})
      | false=>.br has (.ret {up:=[],v:=.v v}) (.ret {up:=[],v:=.v z}))
    | none=>.fail)
 | .mapUpdate t m k v=>
   (match rS X.P s t m k v with
    | some (r,g)=>.ret {up:=[(r,some g)],v:=.dead}
    | none=>.fail)
 | .buildSlice t len parts=>
   (match kj X.P s t len parts.toList with
    | some g=>.ret {up:=[(nm,some g)],v:=.v (.c (.h nm 0 len))}
    | none=>(fG X.P X.glob s op).OV nm)
 | .makeMap t none=>
   (match EF X.P t with
    | some g=>.ret {up:=[(nm,some g)],v:=.v (.c (.m nm))}
    | none=>.fail)
 | op=>(fG X.P X.glob s op).OV nm
def EL (X:Cx) (op:Op) (nm:Nat) (s:St):Tr fQ:=
 match op with
 | .call c=>
   (match c.callee with
    | .value f=>
      (match s.ev f,ku (c.args.toList.map s.ev) with
       | .v (.c (.cl f cap)),some l=>iD X 16 (reach s 64 ((l++cap.map fun x=>NV.c (.p x.1 x.2.1 x.2.2)).flatMap NV.names) []) f (l++cap.map fun x=>.c (.p x.1 x.2.1 x.2.2)) nm s
       | _,_=>.fail)
    | _=>.fail)
 | _=>.fail
def Ay (X:Cx) (op:Op) (nm:Nat) (s:St):Tr fQ:=
 match ka X op nm s with
 | .fail=>EL X op nm s
 | t=>t
def St.fR (s:St):List (Nat × Option aG)->St
 | []=>s
 | (n,g)::l=>(s.cn n g).fR l
def St.app (s:St) (x:fQ) (dst:Option Tmp):St:=(s.fR x.up).put dst x.v
def pL (ops:Array Oper) (j:Nat):Option Tmp:=(ops[j]?).bind (·.dst)
def lit (x:Bool):NS:=.v (.c (.b x))
def xp {β:Type} (ops:Array Oper) (o:Oper) (E:St->Tr fQ) (s:St) (K:St->Tr β):Tr β:=
 match o.guard with
 | none=>(E s).bind fun x=>K (s.app x o.dst)
 | some (j,want)=>
   match pL ops j with
   | some d=>
     (match s.fr[d]? with
      | some (.v (.c (.b x)))=>
        .br x
         (match want with
          | true=>(E (s.put (some d) (lit true))).bind fun x=>K ((s.put (some d) (lit true)).app x o.dst)
          | false=>K ((s.put (some d) (lit true)).put o.dst (.tu [])))
         (match want with
          | false=>(E (s.put (some d) (lit false))).bind fun x=>K ((s.put (some d) (lit false)).app x o.dst)
          | true=>K ((s.put (some d) (lit false)).put o.dst (.tu [])))
      | some (.tu [])=>K (s.put o.dst (.tu []))
      | _=>.fail)
   | none=>.fail
def abd {β:Type} (X:Cx) (ops:Array Oper):List Oper->St->(St->Tr β)->Tr β
 | [],s,K=>K s
 | o::rest,s,K=>xp ops o (Ay X o.op s.rg.length) s (fun s'=>abd X ops rest s' K)
def aow (P:Program) (t:TypeId):Bool:=
 match zeroCells P t with
 | some z=>z.all fun x=>match x with
   | .pn=>false
   | _=>true
 | none=>false
def still (op:Op):Bool:=
 match op with
 | .move _ | .assign _ | .build _ _ | .nilCheck _ | .binOp _ _ _ _ _ | .unOp _ _ _ | .fieldAddr _ _ _ | .field _ _ _
 | .index _ _ _ | .extract _ _ | .pick _ _ _=>true
 | .load _ (.global _)=>true
 | .call {callee:=.builtin .len,..}=>true
 | .call {callee:=.builtin .min,..}=>true
 | .call {callee:=.builtin .max,..}=>true
 | _=>false
def jR (P:Program) (op:Op):Bool:=
 match op with
 | .store _ _ _=>false
 | .mapUpdate _ _ _ _=>false
 | .call {callee:=.value (.func f),..}=>(match P.funcs[f]? with
   | some fn=>fn.params.toList.all (aow P)
   | none=>false)
 | .call {callee:=.builtin .len,..}=>true
 | .call {callee:=.builtin .min,..}=>true
 | .call {callee:=.builtin .max,..}=>true
 | .call _=>false
 | _=>true
def cT (op:Op):Bool:=
 match op with
 | .call {callee:=.value _,..}=>true
 | _=>false
def gC (P:Program) (op:Op):Bool:=cT op&&!jR P op
def xq (op:Op):Bool:=
 match op with
 | .alloc _=>true
 | _=>false
def look (op:Op):Bool:=
 match op with
 | .load _ _=>true
 | _=>false
def k9 (o:Oper):List Nat:=(o.after.toList.filter (Region.binds .any)).map (·.on)
def ahead (ops:Array Oper):Nat->Nat->Nat->Bool
 | 0,_,_=>false
 | fuel+1,k,i=>
   match ops[i]? with
   | some o=>(k9 o).any fun m=>m==k||ahead ops fuel k m
   | none=>false
def rootOf (ops:Array Oper):Nat->Tmp->Option Tmp
 | 0,_=>none
 | f+1,t=>match ops.toList.find? (fun p=>decide (p.dst=some t)) with
   | none=>some t
   | some p=>(match p.op with
     | .fieldAddr _ (.tmp u) _=>rootOf ops f u
     | .nilCheck (.tmp u)=>rootOf ops f u
     | .move (.tmp u)=>rootOf ops f u
     | .indexAddr _ (.tmp u) _=>rootOf ops f u
     | _=>none)
def storeAt (ops:Array Oper) (o:Oper):Option Tmp:=
 match o.op with
 | .store _ (.tmp t) _=>rootOf ops (ops.size+1) t
 | _=>none
def kv (ops:Array Oper) (o:Oper):Option Tmp:=
 match o.op with
 | .call {callee:=.builtin .append,args:=args,..}=>(match args.toList with
   | .tmp t::_=>rootOf ops (ops.size+1) t
   | _=>none)
 | _=>none
def mE (P:Program) (ops:Array Oper) (o:Oper):Bool:=(storeAt ops o).isSome||(jR P o.op&&!cT o.op)
def Az (P:Program) (ops:Array Oper) (x y:Oper):Bool:=
 (still x.op||still y.op||(jR P x.op&&jR P y.op)||((storeAt ops x).isSome&&mE P ops y)||((storeAt ops y).isSome&&mE P ops x)||(gC P x.op&&look y.op)||(look x.op&&gC P y.op)||(gC P x.op&&xq y.op)||(xq x.op&&gC P y.op)||((kv ops x).isSome&&look y.op)||(look x.op&&(kv ops y).isSome))&&Oper.apart ops x y
def qP (P:Program) (ops:Array Oper):Bool:=
 (axy ops.size).all fun i=>
   match ops[i]? with
   | some y=>((k9 y).all fun m=>decide (m<i))&&(axy i).all fun k=>
     ahead ops ops.size k i ||
     match ops[k]? with
     | some x=>Az P ops x y
     | none=>false
   | none=>false
def fw (ops:Array Oper) (base:Nat) (s:St) (i:Nat) (o:Oper):Bool:=
 (o.op.operands.toList.flatMap fun x=>(s.ev x).names).all fun n=>decide (n<base)||ahead ops ops.size ((n - base) / 16) i
def iV (base i:Nat) (x:fQ):Bool:=x.up.all fun u=>decide (base+16 * i<=u.1)&&decide (u.1<base+16 * i+16)&&u.2.isSome
def fW (P:Program) (ops:Array Oper) (base:Nat) (s:St) (i:Nat) (o:Oper):Bool:=
 still o.op||!mE P ops o||(match storeAt ops o with
  | some t=>((s.ev (.tmp t)).names.all fun n=>decide (n<base))&&(match o.op with
    | .store _ a _=>(s.ev a).names.all fun n=>(s.ev (.tmp t)).names.contains n
    | _=>false)
  | none=>true)&&(axy ops.size).all fun k=>
  match ops[k]? with
  | some x=>
    (match storeAt ops x with
     | some t=>k==i||ahead ops ops.size k i||ahead ops ops.size i k||(s.ev (.tmp t)).names.all fun n=>decide (n<base)&&!(o.op.operands.toList.flatMap fun x=>(s.ev x).names).contains n
     | none=>true)
  | none=>true
def lone (ops:Array Oper) (i:Nat):Bool:=
 (axy ops.size).all fun k=>k==i||ahead ops ops.size k i||ahead ops ops.size i k||(match ops[k]? with
   | some x=>still x.op
   | none=>true)
def aox (P:Program) (t:TypeId):Bool:=
 match P.underlying t with
 | some (.slice e)=>(match P.underlying e with
   | some (.slice _)=>true
   | _=>false)
 | _=>false
def deep (P:Program) (op:Op):Bool:=
 match op with
 | .call {callee:=.value (.func f),..}=>(match P.funcs[f]? with
   | some fn=>fn.params.toList.any (aox P)
   | none=>false)
 | _=>false
def Sb (ops:Array Oper) (i:Nat):Bool:=
 (axy ops.size).all fun k=>k==i||ahead ops ops.size k i||ahead ops ops.size i k||(match ops[k]? with
   | some x=>still x.op||look x.op
   | none=>true)
def jS (P:Program) (ops:Array Oper) (i:Nat) (o:Oper):Bool:=jR P o.op&&!lone ops i&&!(deep P o.op&&Sb ops i)
def uX (P:Program) (ops:Array Oper) (i:Nat) (o:Oper):Bool:=jR P o.op&&!lone ops i&&(deep P o.op&&Sb ops i)
def Sd (base n:Nat) (x:fQ):Bool:=x.up.all fun u=>decide (base<=u.1)&&decide (u.1<base+16 * n)
def Ce (P:Program) (ops:Array Oper) (base:Nat) (s:St) (i:Nat) (o:Oper):Bool:=
 !look o.op||((axy ops.size).all fun k=>k==i||ahead ops ops.size k i||ahead ops ops.size i k||(match ops[k]? with
  | some x=>!deep P x.op&&!gC P x.op
  | none=>true))||(o.op.operands.toList.flatMap fun x=>(s.ev x).names).all fun n=>decide (n<base)
def rX (ops:Array Oper) (i:Nat):Bool:=
 (axy ops.size).any fun k=>!(k==i)&&!ahead ops ops.size k i&&!ahead ops ops.size i k&&(match ops[k]? with
   | some x=>xq x.op
   | none=>false)
def og (ops:Array Oper) (s:St) (i:Nat) (o:Oper):Bool:=
 !look o.op||(axy ops.size).all fun k=>match ops[k]? with
  | some x=>(match kv ops x with
    | some t=>k==i||ahead ops ops.size k i||ahead ops ops.size i k||(s.ev (.tmp t)).names.all fun n=>!(o.op.operands.toList.flatMap fun x=>(s.ev x).names).contains n
    | none=>true)
  | none=>true
def jB (ops:Array Oper) (base i:Nat) (s:St) (o:Oper) (x:fQ):Bool:=
 match kv ops o with
 | some t=>lone ops i||x.up.all fun u=>((s.ev (.tmp t)).names.contains u.1&&decide (u.1<base))||(decide (base+16 * i<=u.1)&&decide (u.1<base+16 * i+16))
 | none=>true
def jT (s:St) (op:Op):Option (FuncId × List NV):=
 match op with
 | .call {callee:=.value f,args:=args,..}=>
   (match s.ev f,ku (args.toList.map s.ev) with
    | .v (.c (.cl f cap)),some l=>some (f,l++cap.map fun x=>.c (.p x.1 x.2.1 x.2.2))
    | _,_=>none)
 | _=>none
def kz (P:Program) (base:Nat) (s:St) (op:Op):Bool:=
 match jT s op with
 | some (f,args)=>
   (args.flatMap fun x=>x.gU.flatMap (cW s)).all (fun n=>decide (n<base)) &&
   (axy base).all (fun n=>match s.bK n with
     | some g=>g.body.names.all fun m=>decide (m<base)
     | none=>true) &&
   (match args with
    | x::_=>(gX P s ((P.funcs[f]?).bind fun fn=>fn.params.toList.head?) x).isNone
    | []=>true)
 | none=>true
def mF (P:Program) (ops:Array Oper) (base:Nat) (s:St) (i:Nat) (o:Oper):Bool:=
 Ce P ops base s i o&&(!(gC P o.op&&rX ops i)||kz P base s o.op)
def xr {β:Type} (base:Nat) (s:St):List (Nat × Option aG)->Tr β->Tr β
 | [],k=>k
 | (n,g)::l,k=>
   match decide (n<base) with
   | true=>(match s.rg[n]? with
     | some g'=>.aF (g'=g) (xr base s l k)
     | none=>.fail)
   | false=>xr base s l k
def agd (base:Nat) (x:fQ):fQ:={x with up:=x.up.filter fun u=>decide (base<=u.1)}
def aoy (base n:Nat) (x:fQ):Bool:=x.up.all fun u=>decide (u.1<base+16 * n)
def beside (P:Program) (ops:Array Oper) (i:Nat) (o:Oper):Bool:=gC P o.op&&!lone ops i
def qn (P:Program) (ops:Array Oper) (base i:Nat) (o:Oper) (s:St) (x:fQ):Tr fQ:=
 match beside P ops i o with
 | true=>(match aoy base ops.size x&&(!rX ops i||iV base i (agd base x)) with
   | true=>xr base s x.up (.ret (agd base x))
   | false=>.fail)
 | false=>.ret x
def oh (X:Cx) (ops:Array Oper) (base i:Nat) (o:Oper) (s:St):Tr fQ:=
 match fw ops base s i o&&(!(jS X.P ops i o&&cT o.op)||(o.op.operands.toList.flatMap fun x=>(s.ev x).cW s).isEmpty)&&fW X.P ops base s i o&&mF X.P ops base s i o&&og ops s i o with
 | true=>(ka X o.op (base+16 * i) s).bind fun x=>
   match (!jS X.P ops i o||iV base i x)&&(!uX X.P ops i o||Sd base ops.size x)&&jB ops base i s o x with
   | true=>qn X.P ops base i o s x
   | false=>.fail
 | false=>.fail
def xu {β:Type} (X:Cx) (ops:Array Oper) (base:Nat):List Nat->St->(St->Tr β)->Tr β
 | [],s,K=>K s
 | i::rest,s,K=>
   match ops[i]? with
   | some o=>xp ops o (oh X ops base i o) s (fun s'=>xu X ops base rest s' K)
   | none=>.fail
def Cf (live:List Nat):Nat->List NS->List NS
 | _,[]=>[]
 | i,x::l=>(if live.contains i then x else .dead)::Cf live (i+1) l
def norm (m:Nat) (live:List Nat) (s:St):Option St:=
 let fr:=Cf live 0 s.fr
 let roots:=(axy m)++fr.flatMap NS.names
 let fresh:=(reach s 256 roots []).filter fun n=>m<=n
 let L:=axy m++fresh
 match ik (bZ (dz L)) (L.map s.bK) with
 | some rg=>some {fr:=fr.map fun x=>(rU (bZ (dz L)) x).getD .dead,rg:=rg}
 | none=>none
def zV {β:Type} (X:Cx):Code->St->(aj->St->Tr β)->Tr β
 | .skip,s,K=>K .normal s
 | .seq a b,s,K=>zV X a s (fun e s'=>match e with
   | .normal=>zV X b s' K
   | e=>K e s')
 | .cond c a b,s,K=>
   (match c,s.ev c with
    | .tmp t,.v (.c (.b x))=>.br x (zV X a (s.put (some t) (lit true)) K) (zV X b (s.put (some t) (lit false)) K)
    | _,.v (.c (.b x))=>.br x (zV X a s K) (zV X b s K)
    | _,_=>.fail)
 | .block id c,s,K=>
   (match c with
    | .loop _=>
      (match X.loops.find? (·.1==id) with
       | some (_,live,L)=>(match norm X.m live s with
         | some s'=>(L s').bind fun x=>K x.1 x.2
         | none=>.fail)
       | none=>.fail)
    | .rangeFunc _ _ _ _=>
      (match X.loops.find? (·.1==id) with
       | some (_,live,L)=>(match norm X.m live s with
         | some s'=>(L s').bind fun x=>K x.1 x.2
         | none=>.fail)
       | none=>.fail)
    | c=>zV X c s (fun e s'=>match e with
      | .exit j=>if j=id then K .normal s' else K (.exit j) s'
      | e=>K e s'))
 | .exit id,s,K=>K (.exit id) s
 | .ret,s,K=>K .ret s
 | .region _ ops false,s,K=>abd X ops ops.toList s (K .normal)
 | .region _ ops true,s,K=>
   (match qP X.P ops with
    | true=>xu X ops s.rg.length (axy ops.size) {s with rg:=s.rg++axx (16 * ops.size) none} (K .normal)
    | false=>.fail)
 | _,_,_=>.fail
def EM (P:Program) (gl:List Nat) (s:St):ResultVar->Option NV
 | .tmp t=>(s.fr.getD t .dead).nv
 | .cell a t=>(match (s.fr.getD a .dead).nc with
   | some x=>(match uW P gl s t x with
     | some ([],.v v)=>(match P.underlying t with
       | some _=>some v
       | none=>none)
     | _=>none)
   | none=>none)
def Iv (P:Program) (gl:List Nat) (s:St) (l:List ResultVar):Option NS:=
 match dJ (EM P gl s) l with
 | some [x]=>some (.v x)
 | some l=>some (.tu l)
 | none=>none
def Se (P:Program) (gl:List Nat) (m:Nat) (fn:Func) (s:St):Option Out:=
 match Iv P gl s fn.results.toList with
 | some res=>
   let fresh:=(reach s 256 ((axy m)++res.names) []).filter fun n=>m<=n
   let L:=axy m++fresh
   (match rU (bZ (dz L)) res,ik (bZ (dz L)) (L.map s.bK) with
    | some res,some rg=>some {res:=res,rg:=rg}
    | _,_=>none)
 | none=>none
def aoz (P:Program) (gl:List Nat) (m:Nat) (fn:Func) (e:aj) (s:St):Tr Out:=
 match e with
 | .exit _=>.fail
 | _=>match Se P gl m fn s with
   | some o=>.ret o
   | none=>.fail
def enter (fn:Func) (args:List NV) (I:List aG):St:=
 {fr:=args.map .v++axx (fn.ntmps - args.length) .dead,rg:=I.map some}
def aD (P:Program) (gl:List Nat) (con:FuncId->Option au) (loops:List (Nat × List Nat × (St->Tr (aj × St)))) (fn:Func) (args:List NV) (I:List aG):Tr Out:=
 match fn.body with
 | some c=>zV {P:=P,con:=con,glob:=gl,m:=I.length,loops:=loops} c (enter fn args I) (aoz P gl I.length fn)
 | none=>.fail
def bY:Code->List (Nat × Code)
 | .seq a b=>bY a++bY b
 | .cond _ a b=>bY a++bY b
 | .block j c=>(match c with
   | .loop body=>[(j,body)]
   | c=>bY c)
 | _=>[]
def cG:Code->List (Nat × Code)
 | .seq a b=>cG a++cG b
 | .cond _ a b=>cG a++cG b
 | .block j c=>(match c with
   | .loop _=>[]
   | .rangeFunc g ps a b=>[(j,.rangeFunc g ps a b)]
   | c=>cG c)
 | _=>[]
def mG (id:Nat):Code->Option Code
 | .seq a b=>(match mG id a with
   | some c=>some c
   | none=>mG id b)
 | .cond _ a b=>(match mG id a with
   | some c=>some c
   | none=>mG id b)
 | .block j c=>(match c with
   | .rangeFunc g ps a b=>if j=id then some (.rangeFunc g ps a b) else none
   | c=>mG id c)
 | .loop c=>mG id c
 | _=>none
def EN (fn:Func) (id:Nat):Code:=((fn.body.bind (mG id))).getD .skip
def oi (id:Nat):Code->Option Code
 | .seq a b=>(match oi id a with
   | some c=>some c
   | none=>oi id b)
 | .cond _ a b=>(match oi id a with
   | some c=>some c
   | none=>oi id b)
 | .block j c=>(match c with
   | .loop body=>if j=id then some body else oi id body
   | c=>oi id c)
 | .loop c=>oi id c
 | _=>none
def ae (fn:Func) (id:Nat):Code:=((fn.body.bind (oi id))).getD .skip
inductive R2 {α β:Type} (R:α->β->Prop):List α->List β->Prop
 | nil:R2 R [] []
 | cons {a b l m}:R a b->R2 R l m->R2 R (a::l) (b::m)
section
variable {α β:Type} {R S:α->β->Prop} {l:List α} {m:List β}
theorem R2.length (h:R2 R l m):l.length=m.length:=by
 induction h with
 | nil=>rfl
 | cons _ _ ih=>simp [ih]
theorem R2.imp (h:R2 R l m) (hi:∀ a b,R a b->S a b):R2 S l m:=by
 induction h with
 | nil=>exact .nil
 | cons a _ ih=>exact .cons (hi _ _ a) ih
theorem R2.imp_mem (h:R2 R l m) (hi:∀ a b,a∈l->R a b->S a b):R2 S l m:=by
 induction h with
 | nil=>exact .nil
 | cons a _ ih=>exact .cons (hi _ _ (by simp) a) (ih fun x y hx=>hi x y (by simp [hx]))
theorem R2.get (h:R2 R l m) {j:Nat} {a:α} (hj:l[j]? = some a):∃ b,m[j]? = some b∧R a b:=by
 induction h generalizing j with
 | nil=>simp at hj
 | cons r _ ih=>
   cases j with
   | zero=>simp at hj; subst hj; exact ⟨_,by simp,r⟩
   | succ j=>simp at hj; simpa using ih hj
theorem R2.append {l' : List α} {m' : List β} (h:R2 R l m) (h' : R2 R l' m'):R2 R (l++l') (m++m'):=by
 induction h with
 | nil=>exact h'
 | cons r _ ih=>exact .cons r ih
theorem R2.take (h:R2 R l m) (n:Nat):R2 R (l.take n) (m.take n):=by
 induction h generalizing n with
 | nil=>simp; exact .nil
 | cons r _ ih=>
   cases n with
   | zero=>simp; exact .nil
   | succ n=>simp; exact .cons r (ih n)
theorem R2.drop (h:R2 R l m) (n:Nat):R2 R (l.drop n) (m.drop n):=by
 induction h generalizing n with
 | nil=>simp; exact .nil
 | cons r h ih=>
   cases n with
   | zero=>simp; exact .cons r h
   | succ n=>simp; exact ih n
theorem R2.set (h:R2 R l m) (n:Nat) {a:α} {b:β} (r:R a b):R2 R (l.set n a) (m.set n b):=by
 induction h generalizing n with
 | nil=>simp; exact .nil
 | cons r' h ih=>
   cases n with
   | zero=>simp; exact .cons r h
   | succ n=>simp; exact .cons r' (ih n)
theorem R2.replicate (n:Nat) {a:α} {b:β} (r:R a b):R2 R (axx n a) (axx n b):=by
 induction n with
 | zero=>exact .nil
 | succ n ih=>rw [axz,axz]; exact .cons r ih
theorem R2.aiD (hl:l.length=m.length) (h:∀ (j:Nat) (a:α),l[j]? = some a->∃ b,m[j]? = some b∧R a b):R2 R l m:=by
 induction l generalizing m with
 | nil=>cases m with
   | nil=>exact .nil
   | cons=>simp at hl
 | cons a l ih=>cases m with
   | nil=>simp at hl
   | cons b m=>
     obtain ⟨b',hb,r⟩:=h 0 a (by simp)
     simp at hb
     subst hb
     exact .cons r (ih (by simpa using hl) fun j x hx=>by simpa using h (j+1) x (by simpa using hx))
theorem R2.flatMap {γ δ:Type} {T:γ->δ->Prop} {f:α->List γ} {g:β->List δ} (h:R2 R l m) (hf:∀ a b,R a b->R2 T (f a) (g b)):R2 T (l.flatMap f) (m.flatMap g):=by
 induction h with
 | nil=>exact .nil
 | cons r _ ih=>simp only [axA]; exact (hf _ _ r).append ih
theorem R2.om {γ:Type} {f:γ->α} {l:List γ} {T:γ->β->Prop} (h:R2 T l m) (hf:∀ a b,T a b->R (f a) b):R2 R (l.map f) m:=by
 induction h with
 | nil=>exact .nil
 | cons r _ ih=>exact .cons (hf _ _ r) ih
theorem R2.jh {γ:Type} (f:γ->α) (g:γ->β) (l:List γ) (h:∀ x,R (f x) (g x)):R2 R (l.map f) (l.map g):=by
 induction l with
 | nil=>exact .nil
 | cons a l ih=>exact .cons (h a) ih
end
structure cR where
 ax:Nat
 st:Nat
 sz:Nat
 e:TypeId
 gh:Bool
 pre:List Value
 post:Option (List Value)
def cR.o (B:cR):Nat:=B.pre.length
def cR.all (ax st sz:Nat) (e:TypeId):cR:=⟨ax,st,sz,e,false,[],none⟩
@[simp] theorem cR.aui (b st sz:Nat) (e:TypeId):(cR.all b st sz e).ax=b:=rfl
@[simp] theorem cR.aiE (b st sz:Nat) (e:TypeId):(cR.all b st sz e).st=st:=rfl
@[simp] theorem cR.aiF (b st sz:Nat) (e:TypeId):(cR.all b st sz e).sz=sz:=rfl
@[simp] theorem cR.axf (b st sz:Nat) (e:TypeId):(cR.all b st sz e).o=0:=rfl
structure Env where
 μ:Nat->Option cR
 kp:Nat->Option Obj
 ro:Nat->Bool
 er:Nat->Option Value
def Env.pt (Γ:Env) (r:Nat):Option cR:=match Γ.μ r with
 | some B=>if B.gh=true then none else some B
 | none=>none
def Env.wh (Γ:Env) (r:Nat):Option cR:=match Γ.μ r with
 | some B=>if B.gh=true∨B.post.isSome=true∨B.pre.isEmpty=false then none else some B
 | none=>none
theorem Env.bt {Γ:Env} {r:Nat} {B:cR}:Γ.pt r=some B↔Γ.μ r=some B∧B.gh=false:=by
 unfold Env.pt
 cases h:Γ.μ r with
 | none=>simp
 | some B'=>
   simp only []
   split
   ·rename_i e
    simp only [reduceCtorEq,Option.some.injEq,false_iff]
    rintro ⟨rfl,h⟩
    rw [e] at h; cases h
   ·rename_i e
    simp only [Option.some.injEq]
    constructor
    ·rintro rfl; exact ⟨rfl,by simpa using e⟩
    ·exact fun h=>h.1
theorem Env.fL {Γ:Env} {r:Nat} {B:cR}:Γ.wh r=some B↔Γ.μ r=some B∧B.gh=false∧B.post=none∧B.pre=[]:=by
 unfold Env.wh
 cases h:Γ.μ r with
 | none=>simp
 | some B'=>
   simp only []
   split
   ·rename_i e
    simp only [reduceCtorEq,Option.some.injEq,false_iff]
    rintro ⟨rfl,h1,h2,h3⟩
    rw [h1,h2,h3] at e; simp at e
   ·rename_i e
    simp only [Option.some.injEq]
    constructor
    ·rintro rfl
     simp only [not_or,Bool.not_eq_true,Option.isSome_eq_false_iff,Option.isNone_iff_eq_none,Bool.not_eq_false,List.isEmpty_iff] at e
     exact ⟨rfl,e⟩
    ·exact fun h=>h.1
theorem Env.gY {Γ:Env} {r:Nat} {B:cR} (h:Γ.wh r=some B):Γ.pt r=some B:=Env.bt.2 ⟨(Env.fL.1 h).1,(Env.fL.1 h).2.1⟩
theorem Env.Sf {Γ:Env} {r:Nat} {B:cR} (h:Γ.wh r=some B):B.o=0:=by unfold cR.o; rw [(Env.fL.1 h).2.2.2]; rfl
theorem Env.qo {Γ:Env} {r:Nat} {B:cR} (h:Γ.pt r=some B):Γ.μ r=some B:=(Env.bt.1 h).1
theorem Env.age {Γ:Env} {r:Nat} {B:cR} (h:Γ.wh r=some B):Γ.μ r=some B:=(Env.fL.1 h).1
def aL (ks:List CK) (xs:List (List Sc)):List Value:=xs.flatMap (bN ks)
def dE (Γ:Env) (ax off:Nat) (vs:List Value):Prop:=
 Γ.ro ax=true∧∃ c e fz,Γ.kp ax=some (.cells c e fz)∧∀ j x,vs[j]? = some x->c[off+j]? = some x
def OW (Γ:Env):NC->Value->Prop
 | .i k n,v=>v=.int k n
 | .b x,v=>v=.bool x
 | .s x,v=>v=.string x
 | .l k xs,v=>∃ a cap,v=.slice a xs.length cap∧xs.length<=cap∧(xs=[]∨∃ ax off,a=some ⟨ax,off,none⟩∧dE Γ ax off (xs.map (.int k)))
 | .lr ks xs,v=>∃ a cap,v=.slice a xs.length cap∧xs.length<=cap∧0<ks.length∧(xs=[]∨∃ ax off,a=some ⟨ax,off,none⟩∧dE Γ ax off (aL ks xs))
 | _,_=>False
abbrev FR (Γ:Env) (x:NC) (u:Value):Prop:=OW Γ x u∧u.oneCell'=true
def lH (Γ:Env):NC->Value->Prop
 | .i k n,v=>v=.int k n
 | .b x,v=>v=.bool x
 | .s x,v=>v=.string x
 | .p r i c,v=>∃ B,Γ.pt r=some B∧v=.pointer (some ⟨B.ax,B.o+(i * B.st+c),none⟩)
 | .q r o w i c,v=>∃ B,Γ.pt r=some B∧v=.pointer (some ⟨B.ax,B.o+(o+i * w+c),none⟩)
 | .hq r o w i n,v=>∃ B a cap,Γ.pt r=some B∧v=.slice (some ⟨B.ax,a,none⟩) n cap∧n<=cap∧cap<=maxLen∧(a=B.o+(o+i * w)∨cap=0)
 | .pn,v=>v=.pointer none
 | .h r off len,v=>∃ B o cap,Γ.wh r=some B∧v=.slice (some ⟨B.ax,o,none⟩) len cap∧len<=cap∧cap<=maxLen∧(o=off * B.st∧(off+cap) * B.st=B.sz∨cap=0)
 | .l k xs,v=>∃ a cap,v=.slice a xs.length cap∧xs.length<=cap∧(xs=[]∨∃ ax off,a=some ⟨ax,off,none⟩∧dE Γ ax off (xs.map (.int k)))
 | .lr ks xs,v=>∃ a cap,v=.slice a xs.length cap∧xs.length<=cap∧0<ks.length∧(xs=[]∨∃ ax off,a=some ⟨ax,off,none⟩∧dE Γ ax off (aL ks xs))
 | .pl k xs i,v=>∃ ax off,v=.pointer (some ⟨ax,off+i,none⟩)∧dE Γ ax off (xs.map (.int k))
 | .pr ks xs i c,v=>∃ ax off,v=.pointer (some ⟨ax,off+i * ks.length+c,none⟩)∧dE Γ ax off (aL ks xs)
 | .sn,v=>v=.slice none 0 0
 | .hz r len,v=>(len=0∧v=.slice none 0 0∧∃ B,Γ.μ r=some B)∨∃ B o cap,Γ.wh r=some B∧v=.slice (some ⟨B.ax,o,none⟩) len cap∧len<=cap∧cap<=maxLen∧(o=0 * B.st∧(0+cap) * B.st=B.sz∨cap=0)
 | .m r,v=>∃ B,Γ.pt r=some B∧v=.map (some B.ax)
 | .mn,v=>v=.map none
 | .lt sch xs,v=>∃ a cap,v=.slice a xs.length cap∧xs.length<=cap∧0<aO sch∧dD sch xs∧(xs=[]∨∃ ax off vs,a=some ⟨ax,off,none⟩∧dE Γ ax off vs∧R2 (FR Γ) (cL sch xs) vs)
 | .pt sch xs i c,v=>∃ ax off vs,v=.pointer (some ⟨ax,off+(i * aO sch+c),none⟩)∧0<aO sch∧dD sch xs∧dE Γ ax off vs∧R2 (FR Γ) (cL sch xs) vs
 | .g x,v=>v=.pointer (some ⟨x,0,none⟩)
 | .e k,v=>Γ.er k=some v
 | .en,v=>v=.nilIface
 | .cl f cap,v=>∃ caps:List Value,v=.func (.func f) #[] caps.toArray∧
    R2 (fun (x:Nat × Nat × Nat) u=>∃ B,Γ.pt x.1=some B∧u=.pointer (some ⟨B.ax,B.o+(x.2.1 * B.st+x.2.2),none⟩)) cap caps
def cM (Γ:Env):NV->Value->Prop
 | .c x,v=>lH Γ x v∧v.oneCell'=true
 | .ag xs,v=>∃ vs:List Value,v=.agg vs.toArray∧R2 (fun x u=>lH Γ x u∧u.oneCell'=true) xs vs
 | .sg l,v=>∃ vs:List Value,v=.agg vs.toArray∧R2 (fun x u=>lH Γ x u∧u.oneCell'=true) (ay l) vs∧aK l
def b5 (Γ:Env):NS->Value->Prop
 | .v x,v=>cM Γ x v
 | .tu l,v=>∃ vs:List Value,v=.tuple vs.toArray∧R2 (cM Γ) l vs
 | .dead,_=>True
abbrev CR (Γ:Env) (x:NC) (u:Value):Prop:=lH Γ x u∧u.oneCell'=true
def bG (Γ:Env) (st:Nat):Body->List Value->Prop
 | .cells xs,l=>∃ l1 l2,l=l1++l2∧R2 (CR Γ) xs l1
 | .ints k xs,l=>st=1∧∃ l2,l=xs.map (.int k)++l2
 | .aA ks xs,l=>st=ks.length∧0<ks.length∧∃ l2,l=aL ks xs++l2
 | .sg s,l=>∃ l1 l2,l=l1++l2∧R2 (CR Γ) (ay s) l1∧aK s
 | .ij sch xs,l=>st=aO sch∧0<aO sch∧∃ l1 l2,l=l1++l2∧R2 (FR Γ) (cL sch xs) l1∧dD sch xs
 | .mp _ _ _,_=>False
def lf (B:cR) (g:aG) (l:List Value):Prop:=
 l.take B.o=B.pre∧match B.post with
  | none=>B.pre=[]∧B.e=g.e
  | some post=>∃ n,g.body.len=some n∧l.drop (B.o+n)=post∧B.o+n<=l.length
structure nM (Γ:Env) (g:aG) (B:cR) (w:World) (c:Array Value):Prop where
 heap:w.heap[B.ax]? = some (.cells c B.e (0,0))
 st:B.st=g.st
 sz:c.size=B.sz
 body:bG Γ g.st g.body (c.toList.drop B.o)
 part:lf B g c.toList
def uY (g:aG):Prop:=(∃ k,g.body=.ints k [])∨(∃ ks,g.body=.aA ks [])∨∃ sch,g.body=.ij sch []∧0<aO sch
def gR (Γ:Env) (sch:List Part) (row:List FC) (v:Value):Prop:=∃ vs:List Value,v=.agg vs.toArray∧R2 (FR Γ) (ay (bj sch row 0)) vs∧aK (bj sch row 0)
structure qp (Γ:Env) (g:aG) (B:cR) (w:World):Prop where
 mp:∃ ks sch xs es ck,g.body=.mp ks sch xs∧w.heap[B.ax]? = some (.map es ck)∧R2 (fun x (e:MapEntry)=>gR Γ ks x.1 e.key∧gR Γ sch x.2 e.val) xs es.toList
 post:B.post=some []
 st:B.st=g.st
def cN (Γ:Env) (g:aG) (B:cR) (w:World):Prop:=(B.gh=true∧uY g)∨(B.gh=false∧∃ c,nM Γ g B w c)∨(B.gh=false∧qp Γ g B w)
def live (rg:List (Option aG)) (n:Nat):Prop:=∃ g,rg[n]? = some (some g)
structure aQ (Γ:Env) (rg:List (Option aG)) (w:World):Prop where
 live:∀ n g,rg[n]? = some (some g)->∃ B,Γ.μ n=some B∧cN Γ g B w
 inj:∀ n m B B',n≠m->Nx.live rg n->Nx.live rg m->Γ.pt n=some B->Γ.pt m=some B'->B.ax≠B'.ax
 kp:∀ b o,Γ.kp b=some o->w.heap[b]? = some o
 apart:∀ n B,Nx.live rg n->Γ.pt n=some B->Γ.kp B.ax=none
 ro:∀ b,Γ.ro b=true->∃ o,Γ.kp b=some o
theorem aQ.AA {Γ:Env} {rg:List (Option aG)} {w:World} (h:aQ Γ rg w) {r:Nat} {B:cR} {g:aG} (hB:Γ.pt r=some B) (hg:rg[r]? = some (some g)):(∃ c,nM Γ g B w c)∨qp Γ g B w:=by
 obtain ⟨B',h1,h2⟩:=h.live r g hg
 obtain ⟨h3,h4⟩:=Env.bt.1 hB
 rw [h3] at h1
 cases h1
 rcases h2 with ⟨h2,-⟩ | ⟨-,h2⟩ | ⟨-,h2⟩
 ·rw [h4] at h2; cases h2
 ·exact .inl h2
 ·exact .inr h2
theorem aQ.at {Γ:Env} {rg:List (Option aG)} {w:World} (h:aQ Γ rg w) {r:Nat} {B:cR} {g:aG} (hB:Γ.pt r=some B) (hg:rg[r]? = some (some g)) (hm:g.body.auj=false):∃ c,nM Γ g B w c:=by
 rcases h.AA hB hg with h | h
 ·exact h
 ·obtain ⟨ks,sch,xs,es,ck,h1,-⟩:=h.mp
  rw [h1] at hm; cases hm
theorem aQ.st {Γ:Env} {rg:List (Option aG)} {w:World} (h:aQ Γ rg w) {r:Nat} {B:cR} {g:aG} (hB:Γ.pt r=some B) (hg:rg[r]? = some (some g)):B.st=g.st:=by
 rcases h.AA hB hg with ⟨c,h⟩ | h
 ·exact h.st
 ·exact h.st
theorem aQ.obj {Γ:Env} {rg:List (Option aG)} {w:World} (h:aQ Γ rg w) {r:Nat} {B:cR} {g:aG} (hB:Γ.pt r=some B) (hg:rg[r]? = some (some g)):∃ o,w.heap[B.ax]? = some o:=by
 rcases h.AA hB hg with ⟨c,h⟩ | h
 ·exact ⟨_,h.heap⟩
 ·obtain ⟨ks,sch,xs,es,ck,-,h2,-⟩:=h.mp
  exact ⟨_,h2⟩
theorem aQ.Cg {Γ:Env} {rg:List (Option aG)} {w:World} (h:aQ Γ rg w) {r:Nat} {B:cR} {g:aG} (hB:Γ.wh r=some B) (hg:rg[r]? = some (some g)) :
  ∃ c:Array Value,w.heap[B.ax]? = some (.cells c g.e (0,0))∧B.st=g.st∧c.size=B.sz∧bG Γ g.st g.body c.toList:=by
 obtain ⟨-,-,hp,-⟩:=Env.fL.1 hB
 rcases h.AA (Env.gY hB) hg with ⟨c,h1,h2,h3,h4,h5,h6⟩ | hm
 rotate_left
 ·rw [hm.post] at hp; cases hp
 rw [hp] at h6
 obtain ⟨h7,h8⟩:=h6
 refine ⟨c,h8 ▸ h1,h2,h3,?_⟩
 have:B.o=0:=by unfold cR.o; rw [h7]; rfl
 rw [this] at h4
 exact h4
theorem aQ.o0 {Γ:Env} {rg:List (Option aG)} {w:World} (_:aQ Γ rg w) {r:Nat} {B:cR} {g:aG} (hB:Γ.wh r=some B) (_:rg[r]? = some (some g)):B.o=0:=Env.Sf hB
theorem aQ.whole {Γ:Env} {rg:List (Option aG)} {w:World} (h:aQ Γ rg w) {r:Nat} {B:cR} {g:aG} (hB:Γ.pt r=some B) (hg:rg[r]? = some (some g)) (hl:g.body.len=none):Γ.wh r=some B:=by
 obtain ⟨c,h1,h2,h3,h4,h5,h6⟩:=h.at hB hg (by cases hb:g.body <;> first | rfl | (rw [hb] at hl; cases hl))
 refine Env.fL.2 ⟨(Env.bt.1 hB).1,(Env.bt.1 hB).2,?_⟩
 cases hp:B.post with
 | none=>rw [hp] at h6; exact ⟨rfl,h6.1⟩
 | some post=>
   rw [hp] at h6
   obtain ⟨n,h7,-⟩:=h6
   rw [hl] at h7; cases h7
def cO (Γ:Env) (fr:List NS) (tmps:Array Value):Prop:=R2 (b5 Γ) fr tmps.toList
def GlobOk (glob:List Nat) (Γ:Env):Prop:=
 (∀ x∈glob.tail,∃ ad c e fz ca ta,Γ.er x=some (.iface (glob.headD 0) (.pointer (some ad)))∧Γ.kp x=some (.cells c e fz)∧c[0]? = some (.iface (glob.headD 0) (.pointer (some ad)))∧Γ.kp ad.block=some (.cells ca ta (0,0)))∧
 (∀ x∈glob.tail,∀ y∈glob.tail,x≠y->Γ.er x≠Γ.er y)
structure Env.le (Γ Γ' : Env):Prop where
 μ:∀ n B,Γ.μ n=some B->Γ'.μ n=some B
 kp:∀ b o,Γ.kp b=some o->Γ'.kp b=some o
 ro:∀ b,Γ.ro b=true->Γ'.ro b=true
 er:Γ'.er=Γ.er
theorem Env.le.refl (Γ:Env):Γ.le Γ:=⟨fun _ _ h=>h,fun _ _ h=>h,fun _ h=>h,rfl⟩
theorem Env.le.trans {a b c:Env} (h:a.le b) (k:b.le c):a.le c:=
 ⟨fun n B x=>k.μ n B (h.μ n B x),fun n B x=>k.kp n B (h.kp n B x),fun n x=>k.ro n (h.ro n x),k.er.trans h.er⟩
structure Wd (w w' : World):Prop where
 os:w'.os=w.os
 tape:w'.tape=w.tape
 output:w'.output=w.output
 size:w.heap.size<=w'.heap.size
theorem Wd.refl (w:World):Wd w w:=⟨rfl,rfl,rfl,axB _⟩
theorem Wd.trans {a b c:World} (h:Wd a b) (k:Wd b c):Wd a c:=⟨k.os.trans h.os,k.tape.trans h.tape,k.output.trans h.output,Nat.le_trans h.size k.size⟩
theorem Env.le.pt {Γ Γ' : Env} (h:Γ.le Γ') {n:Nat} {B:cR} (hB:Γ.pt n=some B):Γ'.pt n=some B:=Env.bt.2 ⟨h.μ _ _ (Env.bt.1 hB).1,(Env.bt.1 hB).2⟩
theorem Env.le.wh {Γ Γ' : Env} (h:Γ.le Γ') {n:Nat} {B:cR} (hB:Γ.wh n=some B):Γ'.wh n=some B:=Env.fL.2 ⟨h.μ _ _ (Env.fL.1 hB).1,(Env.fL.1 hB).2⟩
theorem dE.mono {Γ Γ' : Env} (h:Γ.le Γ') {b o:Nat} {vs:List Value} (r:dE Γ b o vs):dE Γ' b o vs:=by
 obtain ⟨h1,c,e,fz,h2,h3⟩:=r
 exact ⟨h.ro _ h1,c,e,fz,h.kp _ _ h2,h3⟩
theorem OW.mono {Γ Γ' : Env} (h:Γ.le Γ') {x:NC} {v:Value} (r:OW Γ x v):OW Γ' x v:=by
 cases x with
 | l k xs=>
   obtain ⟨a,cap,h1,h2,h3⟩:=r
   refine ⟨a,cap,h1,h2,h3.imp id ?_⟩
   rintro ⟨ax,off,h4,h5⟩
   exact ⟨ax,off,h4,h5.mono h⟩
 | lr ks xs=>
   obtain ⟨a,cap,h1,h2,h0,h3⟩:=r
   refine ⟨a,cap,h1,h2,h0,h3.imp id ?_⟩
   rintro ⟨ax,off,h4,h5⟩
   exact ⟨ax,off,h4,h5.mono h⟩
 | _=>exact r
theorem FR.mono {Γ Γ' : Env} (h:Γ.le Γ') {x:NC} {v:Value} (r:FR Γ x v):FR Γ' x v:=⟨r.1.mono h,r.2⟩
theorem OW.c {Γ:Env} {x:NC} {v:Value} (r:OW Γ x v):lH Γ x v:=by
 cases x <;> first | exact r | exact r.elim
theorem FR.c {Γ:Env} {x:NC} {v:Value} (r:FR Γ x v):CR Γ x v:=⟨r.1.c,r.2⟩
theorem gR.mono {Γ Γ' : Env} (h:Γ.le Γ') {sch:List Part} {row:List FC} {v:Value} (r:gR Γ sch row v):gR Γ' sch row v:=by
 obtain ⟨vs,h1,h2,h3⟩:=r
 exact ⟨vs,h1,h2.imp fun _ _ r=>r.mono h,h3⟩
theorem lH.mono {Γ Γ' : Env} (h:Γ.le Γ') {x:NC} {v:Value} (r:lH Γ x v):lH Γ' x v:=by
 cases x with
 | m r'=>obtain ⟨B,h1,h2⟩:=r; exact ⟨B,h.pt h1,h2⟩
 | lt sch xs=>
   obtain ⟨a,cap,h1,h2,h0,hk,h3⟩:=r
   refine ⟨a,cap,h1,h2,h0,hk,h3.imp id ?_⟩
   rintro ⟨ax,off,vs,h4,h5,h6⟩
   exact ⟨ax,off,vs,h4,h5.mono h,h6.imp fun _ _ r=>r.mono h⟩
 | pt sch xs i c=>
   obtain ⟨ax,off,vs,h1,h0,hk,h2,h3⟩:=r
   exact ⟨ax,off,vs,h1,h0,hk,h2.mono h,h3.imp fun _ _ r=>r.mono h⟩
 | p r' i c=>obtain ⟨B,h1,h2⟩:=r; exact ⟨B,h.pt h1,h2⟩
 | h r' o n=>obtain ⟨B,o,cap,h1,h2⟩:=r; exact ⟨B,o,cap,h.wh h1,h2⟩
 | hz r' n=>
   rcases r with ⟨h1,h2,B,h3⟩ | ⟨B,o,cap,h1,h2⟩
   ·exact .inl ⟨h1,h2,B,h.μ _ _ h3⟩
   ·exact .inr ⟨B,o,cap,h.wh h1,h2⟩
 | q r' o w i c=>obtain ⟨B,h1,h2⟩:=r; exact ⟨B,h.pt h1,h2⟩
 | hq r' o w i n=>obtain ⟨B,a,cap,h1,h2⟩:=r; exact ⟨B,a,cap,h.pt h1,h2⟩
 | l k xs=>
   obtain ⟨a,cap,h1,h2,h3⟩:=r
   refine ⟨a,cap,h1,h2,h3.imp id ?_⟩
   rintro ⟨ax,off,h4,h5⟩
   exact ⟨ax,off,h4,h5.mono h⟩
 | lr ks xs=>
   obtain ⟨a,cap,h1,h2,h0,h3⟩:=r
   refine ⟨a,cap,h1,h2,h0,h3.imp id ?_⟩
   rintro ⟨ax,off,h4,h5⟩
   exact ⟨ax,off,h4,h5.mono h⟩
 | pl k xs i=>obtain ⟨ax,off,h1,h2⟩:=r; exact ⟨ax,off,h1,h2.mono h⟩
 | pr ks xs i c=>obtain ⟨ax,off,h1,h2⟩:=r; exact ⟨ax,off,h1,h2.mono h⟩
 | e k=>have e:=h.er; simp only [lH] at r ⊢; rw [e]; exact r
 | cl f cap=>
   obtain ⟨caps,h1,h2⟩:=r
   refine ⟨caps,h1,h2.imp ?_⟩
   rintro a b ⟨B,h3,h4⟩
   exact ⟨B,h.pt h3,h4⟩
 | _=>exact r
theorem CR.mono {Γ Γ' : Env} (h:Γ.le Γ') {x:NC} {v:Value} (r:CR Γ x v):CR Γ' x v:=⟨r.1.mono h,r.2⟩
theorem cM.mono {Γ Γ' : Env} (h:Γ.le Γ') {x:NV} {v:Value} (r:cM Γ x v):cM Γ' x v:=by
 cases x with
 | c x=>exact CR.mono h r
 | ag xs=>obtain ⟨vs,h1,h2⟩:=r; exact ⟨vs,h1,h2.imp fun _ _ r=>CR.mono h r⟩
 | sg l=>obtain ⟨vs,h1,h2,h3⟩:=r; exact ⟨vs,h1,h2.imp fun _ _ r=>CR.mono h r,h3⟩
theorem b5.mono {Γ Γ' : Env} (h:Γ.le Γ') {x:NS} {v:Value} (r:b5 Γ x v):b5 Γ' x v:=by
 cases x with
 | v x=>exact cM.mono h r
 | tu l=>obtain ⟨vs,h1,h2⟩:=r; exact ⟨vs,h1,h2.imp fun _ _ r=>cM.mono h r⟩
 | dead=>trivial
theorem bG.mono {Γ Γ' : Env} (h:Γ.le Γ') {st:Nat} {b:Body} {l:List Value} (r:bG Γ st b l):bG Γ' st b l:=by
 cases b with
 | cells xs=>obtain ⟨l1,l2,h1,h2⟩:=r; exact ⟨l1,l2,h1,h2.imp fun _ _ r=>CR.mono h r⟩
 | sg s=>obtain ⟨l1,l2,h1,h2,h3⟩:=r; exact ⟨l1,l2,h1,h2.imp fun _ _ r=>CR.mono h r,h3⟩
 | ij sch xs=>obtain ⟨hs,h0,l1,l2,h1,h2,h3⟩:=r; exact ⟨hs,h0,l1,l2,h1,h2.imp fun _ _ r=>FR.mono h r,h3⟩
 | mp ks sch xs=>exact r
 | ints k xs=>exact r
 | aA ks xs=>exact r
theorem nM.mono {Γ Γ' : Env} (h:Γ.le Γ') {g:aG} {B:cR} {w:World} {c:Array Value} (r:nM Γ g B w c):nM Γ' g B w c:=⟨r.heap,r.st,r.sz,r.body.mono h,r.part⟩
theorem qp.mono {Γ Γ' : Env} (h:Γ.le Γ') {g:aG} {B:cR} {w:World} (r:qp Γ g B w):qp Γ' g B w:=by
 obtain ⟨⟨ks,sch,xs,es,ck,h1,h2,h3⟩,h4,h5⟩:=r
 exact ⟨⟨ks,sch,xs,es,ck,h1,h2,h3.imp fun _ _ r=>⟨r.1.mono h,r.2.mono h⟩⟩,h4,h5⟩
theorem cN.mono {Γ Γ' : Env} (h:Γ.le Γ') {g:aG} {B:cR} {w:World} (r:cN Γ g B w):cN Γ' g B w:=by
 rcases r with r | ⟨h0,c,r⟩ | ⟨h0,r⟩
 ·exact .inl r
 ·exact .inr (.inl ⟨h0,c,r.mono h⟩)
 ·exact .inr (.inr ⟨h0,r.mono h⟩)
theorem cO.mono {Γ Γ' : Env} (h:Γ.le Γ') {fr:List NS} {t:Array Value} (r:cO Γ fr t):cO Γ' fr t:=R2.imp r fun _ _ r=>r.mono h
theorem GlobOk.mono {Γ Γ' : Env} (h:Γ.le Γ') {g:List Nat} (r:GlobOk g Γ):GlobOk g Γ':=by
 refine ⟨fun x hx=>?_,fun x hx y hy b9=>by rw [h.er]; exact r.2 x hx y hy b9⟩
 obtain ⟨ad,c,e,fz,ca,ta,h1,h2,h3,h4⟩:=r.1 x hx
 exact ⟨ad,c,e,fz,ca,ta,by rw [h.er]; exact h1,h.kp _ _ h2,h3,h.kp _ _ h4⟩
def Env.add (Γ:Env) (n:Nat) (B:cR):Env:={Γ with μ:=fun m=>if m=n then some B else Γ.μ m}
theorem Env.jq (Γ:Env) (n:Nat) (B:cR) (h:Γ.μ n=none):Γ.le (Γ.add n B):=
 ⟨fun m B' hm=>by
   simp only [Env.add]
   split
   ·rename_i e; rw [e,h] at hm; cases hm
   ·exact hm,fun _ _ h=>h,fun _ h=>h,rfl⟩
theorem aW {c:Bool} {A B:Prop}:af c A B↔(c=true∧A)∨(c=false∧B):=by cases c <;> simp [af]
theorem Tr.run_bind {α β:Type} (t:Tr α) (f:α->Tr β) (R:β->Prop):(t.bind f).run R=t.run fun a=>(f a).run R:=by
 induction t with
 | ret a=>rfl
 | br c x y wI wJ=>simp only [Tr.bind,Tr.run,wI,wJ]
 | aF p x ih=>simp only [Tr.bind,Tr.run,ih]
 | all p h g ih=>simp only [Tr.bind,Tr.run,ih]
 | fail=>rfl
theorem Tr.aN {α:Type} (t:Tr α) {R S:α->Prop} (h:∀ a,R a->S a) (hr:t.run R):t.run S:=by
 induction t with
 | ret a=>exact h a hr
 | br c x y wI wJ=>
   simp only [Tr.run] at hr ⊢
   rcases aW.1 hr with ⟨hc,hx⟩ | ⟨hc,hy⟩
   ·exact aW.2 (.inl ⟨hc,wI hx⟩)
   ·exact aW.2 (.inr ⟨hc,wJ hy⟩)
 | aF p x ih=>exact ⟨hr.1,ih hr.2⟩
 | all p h' g ih=>exact fun i hi=>ih i (hr i hi)
 | fail=>exact hr
theorem Tr.OX {α:Type} (t:Tr α) (hr:t.run fun _=>False):False:=by
 induction t with
 | ret a=>exact hr
 | br c x y wI wJ=>
   rcases aW.1 hr with ⟨_,hx⟩ | ⟨_,hy⟩
   ·exact wI hx
   ·exact wJ hy
 | aF p x ih=>exact ih hr.2
 | all p h g ih=>
   obtain ⟨i,hi⟩:=h
   exact ih i (hr i hi)
 | fail=>exact hr
theorem Tr.abe {α ι:Type} (t:Tr α) {p:ι->Prop} (h:∃ i,p i) {S:ι->α->Prop} (hr:∀ i,p i->t.run (S i)):t.run fun a=>∀ i,p i->S i a:=by
 induction t with
 | ret a=>exact hr
 | br c x y wI wJ=>
   cases c with
   | true=>exact wI hr
   | false=>exact wJ hr
 | aF q x ih=>
   obtain ⟨i,hi⟩:=h
   exact ⟨(hr i hi).1,ih fun i hi=>(hr i hi).2⟩
 | all q h' g ih=>exact fun j hj=>ih j fun i hi=>hr i hi j hj
 | fail=>
   obtain ⟨i,hi⟩:=h
   exact hr i hi
theorem Tr.Sg {α β:Type} (t:Tr α) (u:Tr β) {K:α->β->Prop} (h:t.run fun a=>u.run fun b=>K a b):u.run fun b=>t.run fun a=>K a b:=by
 induction t with
 | ret a=>exact h
 | br c x y wI wJ=>
   cases c with
   | true=>exact wI h
   | false=>exact wJ h
 | aF p x ih=>exact Tr.aN _ (fun b hb=>⟨h.1,hb⟩) (ih h.2)
 | all p hp g ih=>exact Tr.abe u hp fun i hi=>ih i (h i hi)
 | fail=>exact h.elim
def bT (l:List Bool):Prop:=∀ b∈l,b=true
theorem bC {α:Type} (c:List Bool) (t:Tr α) (R:α->Prop):(gm c t).run R↔bT c∧t.run R:=by
 induction c with
 | nil=>simp [gm,bT]
 | cons b bs ih=>
   simp only [gm,Tr.run,aW,ih,bT]
   cases b <;> simp
theorem bn (l:List (Option aG)) (n:Nat) (x:Option aG) (m:Nat) (g:aG) :
  (putAt l n x)[m]? = some (some g)↔(m=n∧x=some g)∨(m≠n∧l[m]? = some (some g)):=by
 unfold putAt
 split
 ·rename_i h
  rw [List.getElem?_set]
  by_cases e:n=m
  ·subst e; simp [h]
  ·simp [e,Ne.symm e]
 ·rename_i h
  rw [axC,List.getElem?_append]
  split
  ·rename_i h1
   have:m≠n:=by omega
   simp [this]
  ·rename_i h1
   have hl:l[m]? = none:=axD (by omega)
   rw [hl,List.getElem?_append]
   simp only [List.length_replicate]
   split
   ·rename_i h2
    rw [List.getElem?_replicate]
    have:m≠n:=by omega
    simp [this]
   ·rename_i h2
    by_cases e:m=n
    ·subst e; simp
    ·have:m - l.length - (n - l.length)≠0:=by omega
     obtain ⟨k,hk⟩:=Nat.exists_eq_succ_of_ne_zero this
     simp [e,hk]
theorem cq (l:List (Option aG)) (n:Nat) (x:Option aG) (m:Nat):live (putAt l n x) m↔(m=n∧x.isSome=true)∨(m≠n∧live l m):=by
 unfold live
 simp only [bn]
 constructor
 ·rintro ⟨g,⟨h,e⟩ | ⟨h,e⟩⟩
  ·exact .inl ⟨h,by simp [e]⟩
  ·exact .inr ⟨h,g,e⟩
 ·rintro (⟨h,e⟩ | ⟨h,g,e⟩)
  ·obtain ⟨g,rfl⟩:=Option.isSome_iff_exists.1 e; exact ⟨g,.inl ⟨h,rfl⟩⟩
  ·exact ⟨g,.inr ⟨h,e⟩⟩
theorem bS (s:St) (n:Nat) (g:aG):s.bK n=some g↔s.rg[n]? = some (some g):=by
 unfold St.bK
 split
 ·rename_i r h; simp [h]
 ·rename_i h
  simp only [reduceCtorEq,false_iff]
  intro e
  exact h _ e
theorem fy {w:World} {b:Nat} {o:Obj} (h:w.heap[b]? = some o):b<w.heap.size:=(Array.getElem?_eq_some_iff.1 h).1
theorem nM.move {Γ:Env} {g:aG} {B:cR} {w w' : World} {c:Array Value} (r:nM Γ g B w c) (h:w'.heap[B.ax]? = w.heap[B.ax]?):nM Γ g B w' c:=⟨h.trans r.heap,r.st,r.sz,r.body,r.part⟩
theorem qp.move {Γ:Env} {g:aG} {B:cR} {w w' : World} (r:qp Γ g B w) (h:w'.heap[B.ax]? = w.heap[B.ax]?):qp Γ g B w':=by
 obtain ⟨⟨ks,sch,xs,es,ck,h1,h2,h3⟩,h4,h5⟩:=r
 exact ⟨⟨ks,sch,xs,es,ck,h1,h.trans h2,h3⟩,h4,h5⟩
theorem qp.lt {Γ:Env} {g:aG} {B:cR} {w:World} (r:qp Γ g B w):B.ax<w.heap.size:=by
 obtain ⟨⟨ks,sch,xs,es,ck,h1,h2,h3⟩,h4,h5⟩:=r
 exact fy h2
theorem cN.heap {Γ:Env} {g:aG} {B:cR} {w w' : World} (r:cN Γ g B w) (h:B.gh=false->w'.heap[B.ax]? = w.heap[B.ax]?):cN Γ g B w':=by
 rcases r with r | ⟨h0,c,r⟩ | ⟨h0,r⟩
 ·exact .inl r
 ·exact .inr (.inl ⟨h0,c,r.move (h h0)⟩)
 ·exact .inr (.inr ⟨h0,r.move (h h0)⟩)
theorem cN.lt {Γ:Env} {g:aG} {B:cR} {w:World} (r:cN Γ g B w) (h:B.gh=false):B.ax<w.heap.size:=by
 rcases r with ⟨r,-⟩ | ⟨-,c,r⟩ | ⟨-,r⟩
 ·rw [h] at r; cases r
 ·exact fy r.heap
 ·exact r.lt
theorem aQ.OY {Γ:Env} {rg:List (Option aG)} {w w' : World} (r:aQ Γ rg w) (h:∀ b,b<w.heap.size->w'.heap[b]? = w.heap[b]?):aQ Γ rg w':=by
 refine ⟨fun n g hg=>?_,r.inj,fun b o hb=>?_,r.apart,r.ro⟩
 ·obtain ⟨B,h1,h2⟩:=r.live n g hg
  exact ⟨B,h1,h2.heap fun h0=>h _ (h2.lt h0)⟩
 ·have:=r.kp b o hb
  rw [h b (fy this)]; exact this
theorem aQ.kill {Γ:Env} {rg:List (Option aG)} {w:World} (r:aQ Γ rg w) (n:Nat):aQ Γ (putAt rg n none) w:=by
 have hl:∀ m,Nx.live (putAt rg n none) m->Nx.live rg m:=fun m h=>by
  rcases (cq _ _ _ _).1 h with ⟨_,e⟩ | ⟨_,e⟩
  ·simp at e
  ·exact e
 refine ⟨fun m g hg=>?_,fun a b B B' b9 ha hb=>r.inj a b B B' b9 (hl a ha) (hl b hb),r.kp,fun m B hm=>r.apart m B (hl m hm),r.ro⟩
 rcases (bn _ _ _ _ _).1 hg with ⟨_,e⟩ | ⟨_,e⟩
 ·cases e
 ·exact r.live m g e
theorem aQ.change {Γ:Env} {rg:List (Option aG)} {w w' : World} (r:aQ Γ rg w) {n:Nat} {B:cR} {g' : aG} (hn:Nx.live rg n) (hB:Γ.pt n=some B)
  (h:∀ b,b≠B.ax->w'.heap[b]? = w.heap[b]?) (hg:cN Γ g' B w'):aQ Γ (putAt rg n (some g')) w':=by
 have hl:∀ m,Nx.live (putAt rg n (some g')) m->Nx.live rg m:=fun m h=>by
  rcases (cq _ _ _ _).1 h with ⟨e,_⟩ | ⟨_,e⟩
  ·rw [e]; exact hn
  ·exact e
 refine ⟨fun m g hm=>?_,fun a b B B' b9 ha hb=>r.inj a b B B' b9 (hl a ha) (hl b hb),fun b o hb=>?_,fun m B hm=>r.apart m B (hl m hm),r.ro⟩
 ·rcases (bn _ _ _ _ _).1 hm with ⟨rfl,e⟩ | ⟨b9,e⟩
  ·cases e; exact ⟨B,Env.qo hB,hg⟩
  ·obtain ⟨B',h1,h2⟩:=r.live m g e
   exact ⟨B',h1,h2.heap fun h0=>h _ (r.inj m n B' B b9 ⟨g,e⟩ hn (Env.bt.2 ⟨h1,h0⟩) hB)⟩
 ·rw [h b]; exact r.kp b o hb
  rintro rfl
  rw [r.apart n B hn hB] at hb; cases hb
theorem dw (w:World) (o:Obj) (b:Nat) (h:b<w.heap.size):(w.alloc o).heap[b]? = w.heap[b]?:=by
 show (w.heap.push o)[b]? = _
 rw [Array.getElem?_push,if_neg (by omega)]
theorem Env.dq (Γ:Env) (n:Nat) (B:cR):(Γ.add n B).μ n=some B:=by simp [Env.add]
theorem Env.mH {Γ:Env} {n:Nat} {B:cR} (h:B.gh=false):(Γ.add n B).pt n=some B:=Env.bt.2 ⟨Γ.dq n B,h⟩
theorem Env.tT {Γ:Env} {n:Nat} {B:cR} (h:B.gh=false) (h' : B.post=none) (h2:B.pre=[]):(Γ.add n B).wh n=some B:=Env.fL.2 ⟨Γ.dq n B,h,h',h2⟩
theorem Env.cw {Γ:Env} {n:Nat} {B:cR} {m:Nat} (h:m≠n):(Γ.add n B).pt m=Γ.pt m:=by
 have:(Γ.add n B).μ m=Γ.μ m:=by simp [Env.add,h]
 unfold Env.pt
 rw [this]
theorem cN.all {Γ:Env} {g:aG} {w:World} {b st sz:Nat} {c:Array Value} (h:w.heap[b]? = some (.cells c g.e (0,0))) (fv:st=g.st) (cS:c.size=sz) (hb:bG Γ g.st g.body c.toList):cN Γ g (cR.all b st sz g.e) w:=
 .inr (.inl ⟨rfl,c,h,fv,cS,hb,rfl,rfl,rfl⟩)
theorem aQ.new {Γ:Env} {rg:List (Option aG)} {w:World} (r:aQ Γ rg w) {nm:Nat} {g:aG} {cs:Array Value} (fH:Γ.μ nm=.none)
  (hb:bG Γ g.st g.body cs.toList) :
  aQ (Γ.add nm (cR.all w.heap.size g.st cs.size g.e)) (putAt rg nm (some g)) (w.alloc (.cells cs g.e)):=by
 generalize zW:cR.all w.heap.size g.st cs.size g.e=Bn
 have RH:Bn.gh=false:=by rw [<- zW]; rfl
 have lI:Bn.ax=w.heap.size:=by rw [<- zW]; rfl
 have hle:=Γ.jq nm Bn fH
 have hnl:¬ Nx.live rg nm:=by rintro ⟨g',rY⟩; obtain ⟨B,hB,_⟩:=r.live nm g' rY; rw [fH] at hB; cases hB
 have hold:∀ m B,m≠nm->Nx.live rg m->(Γ.add nm Bn).pt m=some B->Γ.pt m=some B∧B.ax<w.heap.size:=by
  intro m B b9 hm hB
  rw [Env.cw b9] at hB
  obtain ⟨g',rY⟩:=hm
  obtain ⟨o,ho⟩:=r.obj hB rY
  exact ⟨hB,fy ho⟩
 have nU:(Γ.add nm Bn).pt nm=some Bn:=Env.mH RH
 refine ⟨fun m g' hm=>?_,fun a b B B' b9 ha hb ea eb=>?_,fun b o hb=>?_,fun m B hm eB=>?_,r.ro⟩
 ·rcases (bn _ _ _ _ _).1 hm with ⟨rfl,e⟩ | ⟨b9,e⟩
  ·cases e
   refine ⟨_,Env.qo nU,?_⟩
   rw [<- zW]
   exact cN.all (heap_alloc_new w _) rfl rfl (hb.mono (zW ▸ hle))
  ·obtain ⟨B',h3,h4⟩:=r.live m g' e
   exact ⟨B',hle.μ _ _ h3,(h4.heap fun h0=>dw w _ _ (h4.lt h0)).mono hle⟩
 ·rcases (cq _ _ _ _).1 ha with ⟨rfl,_⟩ | ⟨na,la⟩ <;> rcases (cq _ _ _ _).1 hb with ⟨rfl,_⟩ | ⟨nb,lb⟩
  ·exact (b9 rfl).elim
  ·rw [nU] at ea; cases ea
   have:=(hold b B' nb lb eb).2
   omega
  ·rw [nU] at eb; cases eb
   have:=(hold a B na la ea).2
   omega
  ·exact r.inj a b B B' b9 la lb (hold a B na la ea).1 (hold b B' nb lb eb).1
 ·have:=r.kp b o hb
  rw [dw w _ _ (fy this)]; exact this
 ·rcases (cq _ _ _ _).1 hm with ⟨rfl,_⟩ | ⟨nm',lm⟩
  ·rw [nU] at eB; cases eB
   show Γ.kp Bn.ax=.none
   rw [lI]
   cases e:Γ.kp w.heap.size with
   | none=>rfl
   | some o=>have:=fy (r.kp _ _ e); omega
  ·exact r.apart m B lm (hold m B nm' lm eB).1
def cR.map (ax:Nat) (e:TypeId):cR:=⟨ax,0,0,e,false,[],some []⟩
theorem aQ.aiG {Γ:Env} {rg:List (Option aG)} {w:World} (r:aQ Γ rg w) {nm:Nat} {g:aG} {ks sch:List Part} (fH:Γ.μ nm=.none) (hb:g.body=.mp ks sch []) (fv:g.st=0) :
  aQ (Γ.add nm (cR.map w.heap.size g.e)) (putAt rg nm (some g)) (w.alloc (.map #[] 0)):=by
 generalize zW:cR.map w.heap.size g.e=Bn
 have RH:Bn.gh=false:=by rw [<- zW]; rfl
 have lI:Bn.ax=w.heap.size:=by rw [<- zW]; rfl
 have hle:=Γ.jq nm Bn fH
 have hnl:¬ Nx.live rg nm:=by rintro ⟨g',rY⟩; obtain ⟨B,hB,_⟩:=r.live nm g' rY; rw [fH] at hB; cases hB
 have hold:∀ m B,m≠nm->Nx.live rg m->(Γ.add nm Bn).pt m=some B->Γ.pt m=some B∧B.ax<w.heap.size:=by
  intro m B b9 hm hB
  rw [Env.cw b9] at hB
  obtain ⟨g',rY⟩:=hm
  obtain ⟨o,ho⟩:=r.obj hB rY
  exact ⟨hB,fy ho⟩
 have nU:(Γ.add nm Bn).pt nm=some Bn:=Env.mH RH
 refine ⟨fun m g' hm=>?_,fun a b B B' b9 ha hb ea eb=>?_,fun b o hb=>?_,fun m B hm eB=>?_,r.ro⟩
 ·rcases (bn _ _ _ _ _).1 hm with ⟨rfl,e⟩ | ⟨b9,e⟩
  ·cases e
   refine ⟨_,Env.qo nU,.inr (.inr ⟨RH,⟨ks,sch,[],#[],0,hb,?_,.nil⟩,?_,?_⟩)⟩
   ·rw [lI]; exact heap_alloc_new w _
   ·rw [<- zW]; rfl
   ·rw [<- zW]; exact fv.symm
  ·obtain ⟨B',h3,h4⟩:=r.live m g' e
   exact ⟨B',hle.μ _ _ h3,(h4.heap fun h0=>dw w _ _ (h4.lt h0)).mono hle⟩
 ·rcases (cq _ _ _ _).1 ha with ⟨rfl,_⟩ | ⟨na,la⟩ <;> rcases (cq _ _ _ _).1 hb with ⟨rfl,_⟩ | ⟨nb,lb⟩
  ·exact (b9 rfl).elim
  ·rw [nU] at ea; cases ea
   have:=(hold b B' nb lb eb).2
   omega
  ·rw [nU] at eb; cases eb
   have:=(hold a B na la ea).2
   omega
  ·exact r.inj a b B B' b9 la lb (hold a B na la ea).1 (hold b B' nb lb eb).1
 ·have:=r.kp b o hb
  rw [dw w _ _ (fy this)]; exact this
 ·rcases (cq _ _ _ _).1 hm with ⟨rfl,_⟩ | ⟨nm',lm⟩
  ·rw [nU] at eB; cases eB
   show Γ.kp Bn.ax=.none
   rw [lI]
   cases e:Γ.kp w.heap.size with
   | none=>rfl
   | some o=>have:=fy (r.kp _ _ e); omega
  ·exact r.apart m B lm (hold m B nm' lm eB).1
theorem info_of_underlying {P:Program} {t:TypeId} {d:TypeDesc} (h:P.underlying t=some d):∃ i,P.info? t=some i:=by
 cases e:P.info? t with
 | some i=>exact ⟨i,rfl⟩
 | none=>simp [Program.underlying,e] at h
theorem aT {P:Program} {t:TypeId} (h:0<al P t):∃ i,P.info? t=some i∧i.size=al P t:=by
 cases e:P.info? t with
 | some i=>exact ⟨i,rfl,by simp [al,e]⟩
 | none=>simp [al,e] at h
theorem run_typeInfo {P:Program} {t:TypeId} {i:TypeInfo} (h:P.info? t=some i) (w:World):(typeInfo t).run P w=.ok i w:=by simp [typeInfo,h]
theorem run_sizeOf {P:Program} {t:TypeId} {i:TypeInfo} (h:P.info? t=some i) (w:World):(sizeOf t).run P w=.ok (al P t) w:=by simp [sizeOf,run_typeInfo h,al,h]
theorem dI {P:Program} {t:TypeId} {d:TypeDesc} (h:P.underlying t=some d) (w:World):(isAgg t).run P w=.ok (b4 P t) w:=by
 simp only [isAgg,Sem.run_bind,run_underlying h,Result.andThen_ok,b4,h]
 cases d <;> rfl
theorem cr {P:Program} {t:TypeId} {z:List NC} (h:zeroCells P t=some z) :
  ∃ i v,P.info? t=some i∧i.zero=some v∧v.cells.size=al P t∧rN v.cells.toList=some z:=by
 unfold zeroCells at h
 split at h
 ·rename_i i hi
  split at h
  ·rename_i v hv
   split at h
   ·rename_i hs
    exact ⟨i,v,hi,hv,by simp [al,hi,hs],h⟩
   ·cases h
  ·cases h
 ·cases h
theorem EO {Γ:Env} {v:Value} {x:NC} (h:aa8 v=some x):CR Γ x v:=by
 unfold aa8 at h
 split at h <;> first
  | (cases h; exact ⟨rfl,rfl⟩)
  | cases h
theorem cQ {Γ:Env}:∀ {l:List Value} {z:List NC},rN l=some z->R2 (CR Γ) z l
 | [],z,h=>by simp [rN] at h; subst h; exact .nil
 | v::l,z,h=>by
   simp only [rN] at h
   split at h
   ·rename_i a r ha hr
    cases h
    exact .cons (EO ha) (cQ hr)
   ·cases h
theorem cC {P:Program} {t:TypeId} {i:TypeInfo} {v:Value} (h:P.info? t=some i) (hz:i.zero=some v) (w:World):(zeroValue t).run P w=.ok v w:=by
 simp [zeroValue,run_typeInfo h,hz]
theorem EP {k:CK} {x:NC} {y:Sc} {Γ:Env} {v:Value} (h:zT k x=some y) (r:CR Γ x v):v=n8 k y:=by
 cases k with
 | i k=>
   cases x <;> simp only [zT,reduceCtorEq] at h
   split at h
   ·rename_i e; cases h; subst e; exact r.1
   ·cases h
 | b=>cases x <;> simp only [zT,reduceCtorEq,Option.some.injEq] at h; subst h; exact r.1
theorem iW {α:Type} (f:CK->Sc->α):∀ (ks:List CK) (a:Sc) (row:List Sc) (j:Nat),rowFrom f ks (a::row) (j+1)=rowFrom f ks row j
 | [],_,_,_=>rfl
 | k::ks,a,row,j=>by simp [rowFrom,iW f ks a row (j+1)]
theorem jU {α:Type} (f:CK->Sc->α):∀ (ks:List CK) (row:List Sc) (j:Nat),(rowFrom f ks row j).length=ks.length
 | [],_,_=>rfl
 | k::ks,row,j=>by simp [rowFrom,jU f ks row (j+1)]
theorem oq {α:Type} (f:CK->Sc->α):∀ (ks:List CK) (row:List Sc) (j c:Nat) (k:CK),ks[c]? = some k->(rowFrom f ks row j)[c]? = some (f k (row.getD (j+c) (.i 0)))
 | [],_,_,_,_,h=>by simp at h
 | k::ks,row,j,0,k',h=>by simp at h; subst h; simp [rowFrom]
 | k::ks,row,j,c+1,k',h=>by
   simp at h
   rw [rowFrom,List.getElem?_cons_succ,oq f ks row (j+1) c k' h]
   congr 3; omega
@[simp] theorem fb (ks:List CK) (row:List Sc):(bN ks row).length=ks.length:=jU _ _ _ _
theorem Iw (Γ:Env) (k:CK) (s:Sc):CR Γ (rM k s) (n8 k s):=by cases k <;> exact ⟨rfl,rfl⟩
theorem eE (Γ:Env) (ks:List CK) (row:List Sc):R2 (CR Γ) (bV ks row) (bN ks row):=by
 unfold bV bN
 generalize 0=j
 induction ks generalizing j with
 | nil=>exact .nil
 | cons k ks ih=>exact .cons (Iw Γ k _) (ih (j+1))
theorem jV {Γ:Env}:∀ {ks:List CK} {xs:List NC} {row:List Sc} {l:List Value},jP ks xs=some row->R2 (CR Γ) xs l->l=bN ks row
 | [],[],row,l,h,r=>by cases r; simp [bN,rowFrom]
 | [],_::_,_,_,h,_=>by simp [jP] at h
 | _::_,[],_,_,h,_=>by simp [jP] at h
 | k::ks,x::xs,row,l,h,r=>by
   simp only [jP] at h
   split at h
   ·rename_i a t ha ht
    cases h
    cases r with
    | cons r1 r2=>
      rw [EP ha r1,jV ht r2]
      simp [bN,rowFrom,iW]
   ·cases h
theorem ot {Γ:Env} {ks:List CK}:∀ {n:Nat} {xs:List NC} {rows:List (List Sc)} {l:List Value},iy ks n xs=some rows->R2 (CR Γ) xs l->l=aL ks rows∧rows.length=n
 | 0,[],rows,l,h,r=>by simp [iy] at h; subst h; cases r; simp [aL]
 | 0,_::_,_,_,h,_=>by simp [iy] at h
 | n+1,xs,rows,l,h,r=>by
   simp only [iy] at h
   split at h
   ·rename_i a t ha ht
    cases h
    have h1:=jV ha (r.take ks.length)
    obtain ⟨h2,h3⟩:=ot ht (r.drop ks.length)
    refine ⟨?_,by simp [h3]⟩
    rw [<- axE ks.length l,h1,h2]
    simp [aL]
   ·cases h
theorem kA {Γ:Env} {k:IntKind}:∀ {xs:List NC} {l:List Int} {vs:List Value},jo k xs=some l->R2 (CR Γ) xs vs->vs=l.map (.int k)
 | [],l,vs,h,r=>by simp [jo] at h; subst h; cases r; rfl
 | x::xs,l,vs,h,r=>by
   cases x <;> simp only [jo,reduceCtorEq] at h
   split at h
   ·rename_i e
    split at h
    ·rename_i l' hl
     cases h
     cases r with
     | cons r1 r2=>rw [kA hl r2,show _=_ from r1.1,e]; rfl
    ·cases h
   ·cases h
theorem rZ {Γ:Env} (P:Program) (e:TypeId) (n:Nat) {xs:List NC} {l:List Value} (r:R2 (CR Γ) xs l):bG Γ (gV P e n xs).1 (gV P e n xs).2 l:=by
 have hc:bG Γ (al P e) (.cells xs) l:=⟨l,[],by simp,r⟩
 have uZ:bG Γ 1 (.cells xs) l:=⟨l,[],by simp,r⟩
 unfold gV
 split
 ·split
  ·rename_i l' hl
   exact ⟨rfl,[],by simp [kA hl r]⟩
  ·exact uZ
 ·split
  ·rename_i ks b9 Ch
   split
   ·rename_i rows hr
    exact ⟨rfl,Ch,[],by simp [(ot hr r).1]⟩
   ·exact hc
  ·exact hc
 ·exact hc
theorem xv {Γ:Env} (P:Program) (t:TypeId) {xs:List NC} {l:List Value} (r:R2 (CR Γ) xs l):bG Γ (k6 P t xs).st (k6 P t xs).body l∧(k6 P t xs).e=t:=by
 unfold k6
 split
 ·exact ⟨rZ P _ _ r,rfl⟩
 ·exact ⟨⟨l,[],by simp,r⟩,rfl⟩
theorem R2.sa {Γ:Env} {xs:List NC} {l:List Value} (r:R2 (CR Γ) xs l):∀ u∈l,u.oneCell'=true:=by
 induction r with
 | nil=>simp
 | cons h _ ih=>intro u hu; rcases List.mem_cons.1 hu with rfl | hu; exact h.2; exact ih u hu
theorem Ci {v:Value} (h:v.oneCell'=true):v.cells=#[v]:=by cases v <;> simp [Value.oneCell',Value.cells] at h ⊢
theorem cM.cells {Γ:Env} {x:NV} {v:Value} (r:cM Γ x v):R2 (CR Γ) x.cells v.cells.toList:=by
 cases x with
 | c x=>rw [Ci r.2]; exact .cons r .nil
 | ag xs=>obtain ⟨vs,rfl,h⟩:=r; simpa [Value.cells,NV.cells] using h
 | sg l=>obtain ⟨vs,rfl,h,-⟩:=r; simpa [Value.cells,NV.cells] using h
theorem ER (Γ:Env) (v:Value):b5 Γ (ofConst v) v:=by
 unfold ofConst
 split
 ·rename_i cs
  split
  ·rename_i l hl
   exact ⟨cs.toList,by simp,cQ hl⟩
  ·trivial
 ·split
  ·rename_i x hx; exact EO hx
  ·trivial
theorem aS {Γ:Env} {s:St} {a:Act} (h:cO Γ s.fr a.tmps) (x:Operand):b5 Γ (s.ev x) (a.eval x):=by
 cases x with
 | tmp t=>
   simp only [St.ev,Act.eval,axF]
   cases e:s.fr[t]? with
   | none=>trivial
   | some n=>
     obtain ⟨b,hb,r⟩:=R2.get h e
     simp only [Array.getElem?_toList] at hb
     simpa [Array.getD_eq_getD_getElem?,hb] using r
 | const v=>exact ER Γ v
 | global g=>exact ⟨rfl,rfl⟩
 | func f=>exact ⟨⟨[],rfl,.nil⟩,rfl⟩
theorem cD {Γ:Env} {n:NS} {v:Value} {x:NC} (r:b5 Γ n v) (h:n.nc=some x):CR Γ x v:=by
 unfold NS.nc at h
 split at h
 ·cases h; exact r
 ·cases h
theorem iE {Γ:Env} {n:NS} {v:Value} {x:NV} (r:b5 Γ n v) (h:n.nv=some x):cM Γ x v:=by
 unfold NS.nv at h
 split at h
 ·cases h; exact r
 ·cases h
section
variable {α β:Type} {g:α->List β} {w:Nat}
theorem OZ (hg:∀ x,(g x).length=w) (xs:List α):(xs.flatMap g).length=xs.length * w:=by
 induction xs with
 | nil=>simp
 | cons a xs ih=>rw [axA,axG,hg,ih,List.length_cons,axH]; omega
theorem abf (hg:∀ x,(g x).length=w) (xs:List α) (i:Nat):(xs.flatMap g).drop (i * w)=(xs.drop i).flatMap g:=by
 induction i generalizing xs with
 | zero=>simp
 | succ i ih=>
   cases xs with
   | nil=>simp
   | cons a xs=>
     have h1:(g a++xs.flatMap g).drop w=xs.flatMap g:=by rw [axI,<- hg a]; simp
     rw [axA,axH,axJ,<- List.drop_drop,h1,ih,List.drop_succ_cons]
theorem abg (hg:∀ x,(g x).length=w) (xs:List α) (i:Nat):(xs.flatMap g).take (i * w)=(xs.take i).flatMap g:=by
 induction i generalizing xs with
 | zero=>simp
 | succ i ih=>
   cases xs with
   | nil=>simp
   | cons a xs=>
     rw [axK,axA,axA,axH,axJ,axL,hg a,axM,ih,axN (by rw [hg a]; omega)]
end
theorem dn (ks:List CK) (row:List Sc):(bV ks row).length=ks.length:=jU _ _ _ _
theorem dc (ks:List CK) (xs:List (List Sc)):(bJ ks xs).length=xs.length * ks.length:=OZ (dn ks) xs
theorem u0 (ks:List CK) (xs:List (List Sc)) (i:Nat):(bJ ks xs).drop (i * ks.length)=bJ ks (xs.drop i):=abf (dn ks) xs i
theorem u3 (ks:List CK) (xs:List (List Sc)) (i:Nat):(bJ ks xs).take (i * ks.length)=bJ ks (xs.take i):=abg (dn ks) xs i
theorem zX (ks:List CK) (xs ys:List (List Sc)):bJ ks (xs++ys)=bJ ks xs++bJ ks ys:=by simp [bJ]
theorem Iy (ks:List CK) (r:List Sc):bJ ks [r]=bV ks r:=by simp [bJ]
theorem mI (ks:List CK) (xs:List (List Sc)) (j q:Nat):((bJ ks xs).drop (j * ks.length)).take (q * ks.length)=bJ ks ((xs.drop j).take q):=by rw [u0,u3]
theorem xw (ks:List CK) (xs:List (List Sc)) (i:Nat) (h:i<xs.length):((bJ ks xs).drop (i * ks.length)).take ks.length=bV ks (xs.getD i []):=by
 have h1:=mI ks xs i 1
 rw [Nat.one_mul] at h1
 rw [h1]
 have e:(xs.drop i).take 1=[xs.getD i []]:=by
  rw [axO h,axK,List.take_zero,axF,axP h,Option.getD_some]
 rw [e,Iy]
theorem mJ (ks:List CK) (xs:List (List Sc)) (i c:Nat) (k:CK) (h:i<xs.length) (hk:ks[c]? = some k) :
  (bJ ks xs)[i * ks.length+c]? = some (rM k ((xs.getD i []).getD c (.i 0))):=by
 have hc:c<ks.length:=(List.getElem?_eq_some_iff.1 hk).1
 have h1:=xw ks xs i h
 have h2:(bV ks (xs.getD i []))[c]? = some (rM k ((xs.getD i []).getD c (.i 0))):=by
  have:=oq rM ks (xs.getD i []) 0 c k hk
  simpa [bV] using this
 rw [<- h1,axQ,if_pos hc,axR] at h2
 exact h2
theorem sc (ks:List CK) (row:List Sc) (c:Nat) (z:Sc) (j:Nat) (hj:j<ks.length):(setRow ks row c z).getD j (.i 0)=if j=c then z else row.getD j (.i 0):=by
 simp [setRow,axF,hj]
theorem qq (ks:List CK) (xs:List (List Sc)) (i c:Nat) (k:CK) (z:Sc) (h:i<xs.length) (hk:ks[c]? = some k) :
  bJ ks (xs.set i (setRow ks (xs.getD i []) c z))=(bJ ks xs).set (i * ks.length+c) (rM k z):=by
 have hc:c<ks.length:=(List.getElem?_eq_some_iff.1 hk).1
 apply List.ext_getElem?
 intro m
 by_cases hm:m<xs.length * ks.length
 ·have hw:0<ks.length:=by omega
  have hi' : m / ks.length<xs.length:=(axS hw).2 hm
  have lJ : m % ks.length<ks.length:=Nat.mod_lt _ hw
  have em:m / ks.length * ks.length+m % ks.length=m:=by rw [axT]; exact axU m ks.length
  have Ie : ks[m % ks.length]? = some ks[m % ks.length]:=axP lJ
  have g1:=mJ ks xs (m / ks.length) (m % ks.length) _ hi' Ie
  have g2:=mJ ks (xs.set i (setRow ks (xs.getD i []) c z)) (m / ks.length) (m % ks.length) _ (by simpa using hi') Ie
  rw [em] at g1 g2
  rw [g2,List.getElem?_set]
  by_cases e:i * ks.length+c=m
  ·have ei:m / ks.length=i:=by
    rw [<- e,axJ,Nat.add_mul_div_right _ _ hw,Nat.div_eq_of_lt hc]; simp
   have ec:m % ks.length=c:=by rw [<- e,axJ,Nat.add_mul_mod_self_right,Nat.mod_eq_of_lt hc]
   rw [if_pos e,if_pos (by rw [dc]; omega)]
   have hkk:ks[m % ks.length]=k:=by
    have:ks[m % ks.length]? = some k:=by rw [ec]; exact hk
    rw [Ie] at this; exact Option.some.inj this
   rw [hkk]
   have:(xs.set i (setRow ks (xs.getD i []) c z)).getD (m / ks.length) []=setRow ks (xs.getD i []) c z:=by
    simp [axF,ei,h]
   rw [this,sc ks _ c z _ lJ,if_pos ec]
  ·rw [if_neg e,g1]
   congr 2
   by_cases ei:m / ks.length=i
   ·have ec:m % ks.length≠c:=by intro ec; exact e (by rw [<- ei,<- ec]; exact em)
    have:(xs.set i (setRow ks (xs.getD i []) c z)).getD (m / ks.length) []=setRow ks (xs.getD i []) c z:=by
     simp [axF,ei,h]
    rw [this,sc ks _ c z _ lJ,if_neg ec,ei]
   ·have:(xs.set i (setRow ks (xs.getD i []) c z)).getD (m / ks.length) []=xs.getD (m / ks.length) []:=by
     simp [axF,Ne.symm ei]
    rw [this]
 ·rw [axD (by rw [dc,axV]; omega),axD (by rw [axV,dc]; omega)]
theorem Cj {k:CK} {x:NC} {y:Sc} (h:zT k x=some y):x=rM k y:=by
 cases k with
 | i k=>
   cases x <;> simp only [zT,reduceCtorEq] at h
   split at h
   ·rename_i e; cases h; subst e; rfl
   ·cases h
 | b=>cases x <;> simp only [zT,reduceCtorEq,Option.some.injEq] at h; subst h; rfl
theorem xx:∀ {ks:List CK} {xs:List NC} {row:List Sc},jP ks xs=some row->xs=bV ks row
 | [],[],row,h=>by cases h; rfl
 | [],_::_,_,h=>by simp [jP] at h
 | _::_,[],_,h=>by simp [jP] at h
 | k::ks,x::xs,row,h=>by
   simp only [jP] at h
   split at h
   ·rename_i a t ha ht
    cases h
    rw [Cj ha,xx ht]
    simp [bV,rowFrom,iW]
   ·cases h
theorem tU {ks:List CK}:∀ {n:Nat} {xs:List NC} {rows:List (List Sc)},iy ks n xs=some rows->xs=bJ ks rows∧rows.length=n
 | 0,[],rows,h=>by simp [iy] at h; subst h; exact ⟨rfl,rfl⟩
 | 0,_::_,_,h=>by simp [iy] at h
 | n+1,xs,rows,h=>by
   simp only [iy] at h
   split at h
   ·rename_i a t ha ht
    cases h
    obtain ⟨h2,h3⟩:=tU ht
    refine ⟨?_,by simp [h3]⟩
    rw [<- axE ks.length xs,xx ha,h2]
    simp [bJ]
   ·cases h
theorem tV {k:IntKind}:∀ {xs:List NC} {l:List Int},jo k xs=some l->xs=dm k l
 | [],l,h=>by simp [jo] at h; subst h; rfl
 | x::xs,l,h=>by
   cases x <;> simp only [jo,reduceCtorEq] at h
   split at h
   ·rename_i e
    split at h
    ·rename_i l' hl
     cases h
     rw [tV hl,e]; rfl
    ·cases h
   ·cases h
theorem O0 {Γ:Env} {k:CK} {s:Sc} {v:Value} (h:CR Γ (rM k s) v):v=n8 k s:=by cases k <;> exact h.1
theorem zY {Γ:Env} {ks:List CK} {row:List Sc} {vs:List Value} (r:R2 (CR Γ) (bV ks row) vs):vs=bN ks row:=by
 unfold bV at r
 unfold bN
 generalize 0=j at r
 induction ks generalizing j vs with
 | nil=>cases r; rfl
 | cons k ks ih=>
   cases r with
   | cons a b=>rw [O0 a,ih _ b]; rfl
theorem kB {Γ:Env} {ks:List CK} {xs:List (List Sc)} {vs:List Value} (r:R2 (CR Γ) (bJ ks xs) vs):vs=aL ks xs:=by
 induction xs generalizing vs with
 | nil=>cases r; rfl
 | cons a xs ih=>
   have e:bJ ks (a::xs)=bV ks a++bJ ks xs:=by simp [bJ]
   rw [e] at r
   have h1:=r.take ks.length
   have h2:=r.drop ks.length
   rw [axW (by rw [dn]; omega),axN (by rw [dn]; omega)] at h1
   rw [axI,dn,Nat.sub_self,axX (by rw [dn]; omega),axY,axZ] at h2
   rw [<- axE ks.length vs,zY h1,ih h2]
   simp [aL]
theorem kC {Γ:Env} {k:IntKind} {xs:List Int} {vs:List Value} (r:R2 (CR Γ) (dm k xs) vs):vs=xs.map (.int k):=by
 induction xs generalizing vs with
 | nil=>cases r; rfl
 | cons a xs ih=>
   cases r with
   | cons h1 h2=>rw [ih h2,show _=_ from h1.1]; rfl
theorem ak (s:bq) (l:List bq):ay (s::l)=s.flat++ay l:=by cases l <;> simp [ay]
theorem aK.head {s:bq} {l:List bq} (h:aK (s::l)):s.ok:=h s (by simp)
theorem aK.tail {s:bq} {l:List bq} (h:aK (s::l)):aK l:=fun x hx=>h x (by simp [hx])
theorem aK.mk {s:bq} {l:List bq} (h:s.ok) (h' : aK l):aK (s::l):=fun x hx=>by
 rcases List.mem_cons.1 hx with rfl | hx
 ·exact h
 ·exact h' x hx
theorem aK.none:aK []:=fun x hx=>by cases hx
theorem bq.fe {s:bq} (h:s.ok):s.flat.length=s.size:=by
 cases s with
 | cells xs=>rfl
 | ints k n xs=>simp only [bq.flat,bq.size,dm,List.length_map]; exact h
 | aA ks n xs=>simp only [bq.flat,bq.size,dc]; rw [h.1]
theorem aZ {l:List bq} (h:aK l):(ay l).length=b6 l:=by
 induction l with
 | nil=>rfl
 | cons s l ih=>rw [ak,axG,bq.fe h.head,ih h.tail]; rfl
theorem NV.dU (v:NV):ay v.my=v.cells:=by cases v <;> rfl
theorem cM.my {Γ:Env} {x:NV} {v:Value} (r:cM Γ x v):aK x.my∧x.cells.length=x.size:=by
 cases x with
 | c x=>exact ⟨aK.mk trivial aK.none,rfl⟩
 | ag xs=>exact ⟨aK.mk trivial aK.none,rfl⟩
 | sg l=>obtain ⟨vs,-,-,h⟩:=r; exact ⟨h,aZ h⟩
theorem Iz {l:List bq} {x:NC} (h:x∈ay l):x∈dt l∨∃ k s,x=rM k s:=by
 induction l with
 | nil=>cases h
 | cons s l ih=>
   rw [ak,List.mem_append] at h
   simp only [dt,List.mem_append]
   rcases h with h | h
   ·cases s with
    | cells xs=>exact .inl (.inl h)
    | ints k n xs=>
      simp only [bq.flat,dm,List.mem_map] at h
      obtain ⟨z,-,rfl⟩:=h
      exact .inr ⟨.i k,.i z,rfl⟩
    | aA ks n xs=>
      simp only [bq.flat,bJ,List.mem_flatMap] at h
      obtain ⟨row,-,h⟩:=h
      unfold bV at h
      generalize 0=j at h
      right
      induction ks generalizing j with
      | nil=>cases h
      | cons k ks ihk=>
        simp only [rowFrom,List.mem_cons] at h
        rcases h with rfl | h
        ·exact ⟨k,_,rfl⟩
        ·exact ihk _ h
   ·rcases ih h with h | h
    ·exact .inl (.inr h)
    ·exact .inr h
theorem mK {α:Type} (a b:List α) (o n:Nat) (h:o+n<=a.length):((a++b).drop o).take n=(a.drop o).take n:=by
 rw [ax0 (by omega),axW (by simp; omega)]
theorem Ck {α:Type} (a b:List α) (o n:Nat) (h:a.length<=o):((a++b).drop o).take n=(b.drop (o - a.length)).take n:=by
 rw [axI,axX h,axY]
theorem Si {α:Type} (a b:List α) (o n:Nat) (h:o<=a.length) (h2:a.length<=o+n):((a++b).drop o).take n=(a.drop o).take (a.length - o)++(b.drop 0).take (n - (a.length - o)):=by
 rw [ax0 h,axL]
 simp only [ax1,axZ]
 rw [axN (l:=a.drop o) (by simp; omega),axN (l:=a.drop o) (by simp)]
theorem bq.Sj {s t:bq} {o n:Nat} (hs:s.ok) (h:s.cut o n=some t) (hb:o+n<=s.size):t.ok∧t.flat=(s.flat.drop o).take n:=by
 cases s with
 | cells xs=>
   simp only [bq.cut] at h
   split at h
   ·cases h; exact ⟨trivial,rfl⟩
   ·cases h
 | ints k m xs=>
   have hs:xs.length=m:=hs
   simp only [bq.cut] at h
   split at h
   ·rename_i e
    split at h
    ·rename_i e0
     cases h
     subst e0 e
     refine ⟨hs,?_⟩
     simp only [bq.flat,axZ]
     rw [axN (by simp [dm,hs])]
    ·cases h
   ·split at h
    ·rename_i hle
     cases h
     refine ⟨?_,?_⟩
     ·show ((xs.drop o).take n).length=n
      simp; omega
     ·simp only [bq.flat,dm,ax2,ax3]
    ·cases h
 | aA ks m xs=>
   obtain ⟨hl,h0⟩:xs.length=m∧0<ks.length:=hs
   simp only [bq.cut] at h
   split at h
   ·rename_i e
    split at h
    ·rename_i e0
     cases h
     subst e0
     refine ⟨⟨hl,h0⟩,?_⟩
     simp only [bq.flat,axZ]
     rw [axN (by rw [dc,hl,e]; omega)]
    ·cases h
   ·split at h
    ·rename_i hc
     cases h
     obtain ⟨-,ho,hn,hle⟩:=hc
     have eo:o / ks.length * ks.length=o:=by rw [axT]; exact ax4 (ax5 ho)
     have en:n / ks.length * ks.length=n:=by rw [axT]; exact ax4 (ax5 hn)
     refine ⟨⟨?_,h0⟩,?_⟩
     ·simp; omega
     ·simp only [bq.flat]
      rw [<- mI,eo,en]
    ·cases h
theorem gF:∀ {l r:List bq} {o n:Nat},aK l->mz l o n=some r->aK r∧ay r=((ay l).drop o).take n∧(n=0∨o+n<=(ay l).length)
 | [],r,o,n,_,h=>by
   simp only [mz] at h
   split at h
   ·rename_i e; cases h; subst e; exact ⟨aK.none,by simp [ay],.inl rfl⟩
   ·cases h
 | s::l,r,o,n,hl,h=>by
   simp only [mz] at h
   have hlen:=bq.fe hl.head
   split at h
   ·rename_i e; cases h; subst e; exact ⟨aK.none,by simp [ay],.inl rfl⟩
   ·rename_i hn
    split at h
    ·rename_i hle
     obtain ⟨h1,h2,h3⟩:=gF hl.tail h
     refine ⟨h1,?_,.inr ?_⟩
     ·rw [h2,ak,Ck _ _ _ _ (by omega),hlen]
     ·rw [ak,axG,hlen]; omega
    ·rename_i hgt
     split at h
     case h_2=>cases h
     rename_i a q ha hq
     cases h
     obtain ⟨h1,h2⟩:=bq.Sj hl.head ha (by omega)
     obtain ⟨h3,h4,h5⟩:=gF hl.tail hq
     refine ⟨aK.mk h1 h3,?_,.inr ?_⟩
     ·rw [ak,ak,h2,h4]
      by_cases hc:n<=s.size - o
      ·rw [Nat.min_eq_left hc,Nat.sub_self,mK _ _ _ _ (by omega)]; simp
      ·rw [Nat.min_eq_right (by omega),Si _ _ _ _ (by omega) (by omega),hlen]
     ·rw [ak,axG,hlen]; omega
theorem u4:∀ {l:List bq} {o:Nat} {x:NC},aK l->xi l o=some x->(ay l)[o]? = some x
 | [],_,_,_,h=>by simp [xi] at h
 | s::l,o,x,hl,h=>by
   simp only [xi] at h
   have hlen:=bq.fe hl.head
   rw [ak]
   split at h
   ·rename_i hle
    rw [List.getElem?_append_right (by omega),hlen]
    exact u4 hl.tail h
   ·rename_i hgt
    rw [ax6 (by omega)]
    cases s with
    | cells xs=>exact h
    | ints k n xs=>
      simp only [Option.some.injEq] at h
      have hs:xs.length=n:=hl.head
      have ho:o<xs.length:=by rw [hs]; simp only [bq.size] at hgt; omega
      simp only [bq.flat,dm,List.getElem?_map,axP ho,Option.map_some,<- h,axF,Option.getD_some]
    | aA ks n xs=>
      obtain ⟨hs,h0⟩:xs.length=n∧0<ks.length:=hl.head
      simp only at h
      split at h
      case h_2=>cases h
      rename_i k hk
      cases h
      have hi:o / ks.length<xs.length:=by
       rw [axS h0,hs]
       simp only [bq.size] at hgt
       omega
      have:=mJ ks xs (o / ks.length) (o % ks.length) k hi hk
      have em:o / ks.length * ks.length+o % ks.length=o:=by rw [axT]; exact axU o ks.length
      rw [em] at this
      exact this
structure eM (fl:List NC) (o n:Nat) (agg:Bool) (v:NV):Prop where
 all:agg=true->v.cells=(fl.drop o).take n∧v.cells.length=n∧aK v.my∧∀ x,v≠.c x
 one:agg=false->∃ x,v=.c x∧fl[o]? = some x
theorem IA {n:Nat} {l:List bq} (h:aK l):(mkSub n l).cells=ay l∧aK (mkSub n l).my∧∀ x,mkSub n l≠.c x:=by
 unfold mkSub
 split
 ·exact ⟨rfl,aK.mk trivial aK.none,fun x h=>by cases h⟩
 ·exact ⟨rfl,h,fun x h=>by cases h⟩
theorem eM.Cm {fl:List NC} {o n:Nat} {l:List bq} (hl:aK l) (h:ay l=(fl.drop o).take n) (hb:n=0∨o+n<=fl.length):eM fl o n true (mkSub n l):=by
 obtain ⟨h1,h2,h3⟩:=IA (n:=n) hl
 refine ⟨fun _=>⟨h1.trans h,?_,h2,h3⟩,fun h=>by cases h⟩
 rw [h1,h]
 simp only [ax7,ax1]
 omega
theorem eM.IB {fl:List NC} {o n:Nat} {x:NC} (h:fl[o]? = some x):eM fl o n false (.c x):=⟨fun e=>Bool.noConfusion e,fun _=>⟨x,rfl,h⟩⟩
theorem eM.skip {a fl:List NC} {o n:Nat} {agg:Bool} {v:NV} (h:eM fl o n agg v):eM (a++fl) (a.length+o) n agg v:=by
 refine ⟨fun e=>?_,fun e=>?_⟩
 ·obtain ⟨h1,h2⟩:=h.all e
  exact ⟨by rw [Ck _ _ _ _ (by omega),axM]; exact h1,h2⟩
 ·obtain ⟨x,h1,h2⟩:=h.one e
  exact ⟨x,h1,by rw [List.getElem?_append_right (by omega),axM]; exact h2⟩
theorem ji {l:List bq} {o n:Nat} {agg:Bool} {v:NV} (hl:aK l) (h:qN l o n agg=some v):eM (ay l) o n agg v:=by
 unfold qN at h
 cases agg with
 | true=>
   simp only at h
   split at h
   ·rename_i r hr
    cases h
    obtain ⟨h1,h2,h3⟩:=gF hl hr
    exact eM.Cm h1 h2 h3
   ·cases h
 | false=>
   simp only at h
   split at h
   ·rename_i x hx
    cases h
    exact eM.IB (u4 hl hx)
   ·cases h
theorem wL (i q:Nat):fY i q=i * q:=by
 unfold fY
 split
 ·simp
 ·rfl
theorem mL (j i:Nat):eR j i=j+i:=by
 unfold eR
 split
 ·simp
 ·rfl
theorem Sk {o w i q:Nat} (ho:o % q=0) (hw:w % q=0):eR (o / q) (fY i (w / q)) * q=o+i * w:=by
 rw [mL,wL,ax8,Nat.mul_assoc]
 congr 1
 ·rw [axT]; exact ax4 (ax5 ho)
 ·congr 1
  rw [axT]; exact ax4 (ax5 hw)
theorem dy {p:Prop} [Decidable p] (h:bT [decide p]):p:=by simpa [bT] using h
theorem jC:∀ {l:List bq} {o w i c n:Nat} {agg:Bool} {cs:List Bool} {v:NV},aK l->mA l o w i c n agg=some (cs,v)->bT cs->eM (ay l) (o+i * w+c) n agg v
 | [],_,_,_,_,_,_,_,_,_,h,_=>by simp [mA] at h
 | s::l,o,w,i,c,n,agg,cs,v,hl,h,hc=>by
   simp only [mA] at h
   have hlen:=bq.fe hl.head
   split at h
   ·rename_i hle
    have:=eM.skip (a:=s.flat) (jC hl.tail h hc)
    rw [<- ak,hlen] at this
    have e:s.size+(o - s.size+i * w+c)=o+i * w+c:=by omega
    rw [e] at this
    exact this
   ·rename_i hgt
    cases s with
    | cells xs=>
      simp only at h
      split at h
      ·rename_i v' hv
       cases h
       exact ji hl hv
      ·cases h
    | ints k m xs=>
      have hs:xs.length=m:=hl.head
      simp only at h
      have er:eR o (fY i w)=o+i * w:=by rw [mL,wL]
      rw [er] at h
      split at h
      ·cases h
       have hle:=dy hc
       rw [ax9]
       refine eM.Cm (aK.mk ?_ aK.none) ?_ (.inr ?_)
       ·show ((xs.drop (o+i * w)).take n).length=n
        simp; omega
       ·rw [ak _ l,mK _ _ _ _ (by rw [hlen]; exact hle)]
        simp only [ay,bq.flat,dm,ax2,ax3]
       ·rw [ak,axG,hlen]; simp only [bq.size]; omega
      ·cases h
       have ff:=dy hc
       rw [ax9]
       refine eM.IB ?_
       have ho:o+i * w<xs.length:=by omega
       rw [ak,ax6 (by rw [hlen]; exact ff)]
       simp only [bq.flat,dm,List.getElem?_map,axP ho,Option.map_some,axF,Option.getD_some]
      ·cases h
    | aA ks m xs=>
      obtain ⟨hs,h0⟩:xs.length=m∧0<ks.length:=hl.head
      simp only at h
      split at h
      case isFalse=>cases h
      rename_i hal
      have er:=Sk (i:=i) hal.2.1 hal.2.2
      generalize eR (o / ks.length) (fY i (w / ks.length))=row at h er
      cases agg with
      | true=>
        simp only at h
        split at h
        case h_2=>cases h
        split at h
        case isFalse=>cases h
        rename_i hn
        rw [ax9,<- er]
        have mM:∀ q,row+q<=m->row * ks.length+q * ks.length<=(bq.aA ks m xs).flat.length:=fun q hq=>by
         show _<=(bJ ks xs).length
         rw [dc,<- ax8,hs]
         exact ax' _ hq
        split at h
        ·rename_i hnk
         cases h
         have ff:=dy hc
         have h1:=mM 1 ff
         rw [Nat.one_mul] at h1
         refine eM.Cm (aK.mk trivial aK.none) ?_ (.inr ?_)
         ·rw [ak _ l,hnk,mK _ _ _ _ h1]
          simp only [ay,bq.flat]
          rw [xw ks xs row (by omega)]
         ·rw [ak,axG,hnk]
          omega
        ·cases h
         have hle:=dy hc
         have en:n / ks.length * ks.length=n:=by rw [axT]; exact ax4 (ax5 hn)
         have h1:=mM _ hle
         rw [en] at h1
         refine eM.Cm (aK.mk ⟨?_,h0⟩ aK.none) ?_ (.inr ?_)
         ·simp; omega
         ·rw [ak _ l,mK _ _ _ _ h1]
          simp only [ay,bq.flat]
          rw [<- mI,en]
         ·rw [ak,axG]
          omega
      | false=>
        simp only at h
        split at h
        case h_2=>cases h
        rename_i k hk
        cases h
        have ff:=dy hc
        have hcc:c<ks.length:=(List.getElem?_eq_some_iff.1 hk).1
        refine eM.IB ?_
        rw [<- er,ak,ax6]
        ·exact mJ ks xs row c k (by omega) hk
        ·rw [hlen]
         simp only [bq.size]
         have:(row+1) * ks.length<=m * ks.length:=ax' _ ff
         rw [axH] at this
         omega
theorem kF {α:Type} (a b:List α) (o:Nat) (ys:List α) (h:a.length<=o):aw (a++b) o ys=a++aw b (o - a.length) ys:=by
 simp only [aw,axL,axI]
 rw [axN h,axX (by omega),axY,axC,axC,axC]
 congr 3
 congr 1
 omega
theorem Cn {α:Type} (a b:List α) (o:Nat) (p q:List α) (h:o+p.length=a.length):aw (a++b) o (p++q)=aw a o p++aw b 0 q:=by
 simp only [aw,axL,axI,axG]
 rw [axX (l:=a) (i:=o+(p.length+q.length)) (by omega),axX (l:=a) (i:=o+p.length) (by omega),show o - a.length=0 by omega,show o+(p.length+q.length) - a.length=0+q.length by omega]
 simp
theorem eA {α:Type} (a b:List α) (o:Nat) (p:List α) (h:o+p.length<=a.length):aw (a++b) o p=aw a o p++b:=by
 simp only [aw]
 rw [axW (by omega),ax0 h]
 simp
theorem qQ {α:Type} (a:List α) (o:Nat):aw a o []=a:=by simp [aw]
theorem cY {α:Type} (xs:List α) (o:Nat) (ys:List α) (h:o+ys.length<=xs.length):(aw xs o ys).length=xs.length:=by
 simp only [aw,axG,ax7,ax1]; omega
theorem mN {α:Type} (xs ys:List α) (h:ys.length=xs.length):aw xs 0 ys=ys:=by simp [aw,h]
theorem kG {α:Type} (xs:List α) (o:Nat) (y:α) (h:o<xs.length):aw xs o [y]=xs.set o y:=by
 simp only [aw,aya]
 rw [List.set_eq_take_append_cons_drop,if_pos h]; simp
theorem Co {α:Type} {xs:List α} {o n:Nat} {ys:List α} (h:ys.length=n) (hb:o+n<=xs.length):qk xs o n ys=aw xs o ys:=by
 unfold qk
 split
 ·rw [kG _ _ _ (by simp at h; omega)]
 ·rw [aw,h]
theorem u5 (k:IntKind) (xs ys:List Int) (o:Nat):dm k (aw xs o ys)=aw (dm k xs) o (dm k ys):=by
 simp [dm,aw,ax2,ax3]
theorem u6 (ks:List CK) (xs ys:List (List Sc)) (o:Nat):bJ ks (aw xs o ys)=aw (bJ ks xs) (o * ks.length) (bJ ks ys):=by
 simp only [aw,zX,dc,<- ax8,u3,u0]
theorem u7 {k:IntKind} {p:List bq} {ys:List Int} (h:xj k p=some ys):ay p=dm k ys:=by
 unfold xj at h
 split at h
 ·exact tV h
 ·split at h
  ·rename_i e; cases h; subst e; rfl
  ·cases h
 ·cases h
theorem u9 {ks:List CK} {q:Nat} {p:List bq} {ys:List (List Sc)} (hp:aK p) (h:BY ks q p=some ys):ay p=bJ ks ys∧ys.length=q:=by
 unfold BY at h
 split at h
 ·exact tU h
 ·split at h
  ·rename_i e
   cases h
   obtain ⟨rfl,rfl⟩:=e
   exact ⟨rfl,hp.head.1⟩
  ·cases h
 ·cases h
theorem bq.Sl {s t:bq} {o n:Nat} {p:List bq} (hs:s.ok) (hp:aK p) (hn:(ay p).length=n) (hb:o+n<=s.size) (h:s.put o n p=some t):t.ok∧t.flat=aw s.flat o (ay p):=by
 cases s with
 | cells xs=>simp only [bq.put,Option.some.injEq] at h; subst h; exact ⟨trivial,rfl⟩
 | ints k m xs=>
   have hs:xs.length=m:=hs
   simp only [bq.put] at h
   split at h
   case h_2=>cases h
   rename_i ys hy
   have e:=u7 hy
   have O1:ys.length=n:=by rw [e] at hn; simpa [dm] using hn
   simp only [bq.size] at hb
   split at h
   ·rename_i enm
    cases h
    have o0:o=0:=by omega
    subst o0
    refine ⟨by show ys.length=m; omega,?_⟩
    rw [mN _ _ (by rw [hn,bq.flat,dm,List.length_map]; omega),e]; rfl
   ·cases h
    rw [Co O1 (by omega)]
    refine ⟨?_,?_⟩
    ·show (aw xs o ys).length=m
     rw [cY _ _ _ (by omega)]; exact hs
    ·simp only [bq.flat]
     rw [u5,e]
 | aA ks m xs=>
   obtain ⟨hs,h0⟩:xs.length=m∧0<ks.length:=hs
   simp only [bq.put] at h
   simp only [bq.size] at hb
   split at h
   ·rename_i hal
    split at h
    case h_2=>cases h
    rename_i ys hy
    obtain ⟨e,O1⟩:=u9 hp hy
    have en:n / ks.length * ks.length=n:=by rw [axT]; exact ax4 (ax5 hal.2.2)
    have eo:o / ks.length * ks.length=o:=by rw [axT]; exact ax4 (ax5 hal.2.1)
    have hle:o / ks.length+n / ks.length<=m:=by
     have:(o / ks.length+n / ks.length) * ks.length<=m * ks.length:=by rw [ax8,eo,en]; exact hb
     exact Nat.le_of_mul_le_mul_right this h0
    split at h
    ·rename_i enm
     cases h
     have o0:o=0:=by
      have:n=m * ks.length:=by rw [<- enm]; exact en.symm
      omega
     subst o0
     refine ⟨⟨by omega,h0⟩,?_⟩
     rw [mN _ _ (by rw [hn,bq.flat,dc,hs,<- enm,en]),e]; rfl
    ·cases h
     rw [Co O1 (by omega)]
     refine ⟨⟨?_,h0⟩,?_⟩
     ·rw [cY _ _ _ (by omega)]; exact hs
     ·simp only [bq.flat]
      rw [u6,eo,e]
   ·split at h
    case h_2=>cases h
    rename_i y
    split at h
    case h_2=>cases h
    rename_i k hk
    split at h
    case h_2=>cases h
    rename_i z hz
    cases h
    have n1:n=1:=by rw [<- hn]; rfl
    have ff:o<m * ks.length:=by omega
    have hi:o / ks.length<xs.length:=by rw [axS h0,hs]; exact ff
    refine ⟨⟨by simpa using hs,h0⟩,?_⟩
    simp only [bq.flat]
    have em:o / ks.length * ks.length+o % ks.length=o:=by rw [axT]; exact axU o ks.length
    rw [qq ks xs (o / ks.length) (o % ks.length) k z hi hk,em]
    have:ay [bq.cells [y]]=[y]:=rfl
    rw [this,kG _ _ _ (by rw [dc,hs]; exact ff),Cj hz]
theorem fh:∀ {l l' : List bq} {o n:Nat} {v:List bq},aK l->aK v->(ay v).length=n->o+n<=(ay l).length->k8 l o n v=some l'->aK l'∧ay l'=aw (ay l) o (ay v)
 | [],l',o,n,v,hl,hv,hn,hb,h=>by
   simp only [k8] at h
   split at h
   ·rename_i e
    cases h
    have:ay v=[]:=ayb (by omega)
    exact ⟨aK.none,by rw [this,qQ]⟩
   ·cases h
 | s::l,l',o,n,v,hl,hv,hn,hb,h=>by
   have hlen:=bq.fe hl.head
   rw [ak,axG,hlen] at hb
   simp only [k8] at h
   split at h
   ·rename_i e
    cases h
    have:ay v=[]:=ayb (by omega)
    exact ⟨hl,by rw [this,qQ]⟩
   ·rename_i hn0
    split at h
    ·rename_i hle
     split at h
     case h_2=>cases h
     rename_i r hr
     cases h
     obtain ⟨h1,h2⟩:=fh hl.tail hv hn (by omega) hr
     refine ⟨aK.mk hl.head h1,?_⟩
     rw [ak,ak,kF _ _ _ _ (by omega),hlen,h2]
    ·rename_i hgt
     split at h
     case h_2=>cases h
     rename_i p q hp hq
     split at h
     case h_2=>cases h
     rename_i a r ha hr
     cases h
     obtain ⟨p1,p2,-⟩:=gF hv hp
     obtain ⟨q1,q2,-⟩:=gF hv hq
     have pl:(ay p).length=min n (s.size - o):=by rw [p2]; simp; omega
     have ql:(ay q).length=n - min n (s.size - o):=by rw [q2]; simp; omega
     have ev:ay v=ay p++ay q:=by
      rw [p2,q2,axZ,axN (l:=(ay v).drop _) (by simp; omega),axE]
     obtain ⟨a1,a2⟩:=bq.Sl hl.head p1 pl (by omega) ha
     obtain ⟨r1,r2⟩:=fh hl.tail q1 ql (by omega) hr
     refine ⟨aK.mk a1 r1,?_⟩
     rw [ak,ak,a2,r2,ev]
     by_cases hc:n<=s.size - o
     ·have hq0:ay q=[]:=ayb (by omega)
      rw [hq0,qQ,List.append_nil,eA _ _ _ _ (by omega)]
     ·rw [Cn _ _ _ _ _ (by omega)]
theorem mO:∀ {l l' : List bq} {o w i c:Nat} {v:NV} {cs:List Bool},aK l->aK v.my->pJ l o w i c v=some (cs,l')->bT cs->
  aK l'∧o+i * w+c+v.size<=(ay l).length∧ay l'=aw (ay l) (o+i * w+c) v.cells
 | [],_,_,_,_,_,_,_,_,_,h,_=>by simp [pJ] at h
 | s::l,l',o,w,i,c,v,cs,hl,hv,h,hc=>by
   simp only [pJ] at h
   have hlen:=bq.fe hl.head
   have xy:v.cells.length=v.size:=by
    rw [<- NV.dU,aZ hv]
    cases v <;> rfl
   split at h
   ·rename_i hle
    split at h
    case h_2=>cases h
    rename_i r hr
    cases h
    obtain ⟨h1,h2,h3⟩:=mO hl.tail hv hr hc
    refine ⟨aK.mk hl.head h1,?_,?_⟩
    ·rw [ak,axG,hlen]; omega
    ·rw [ak,ak,kF _ _ _ _ (by omega),hlen,h3]
     congr 2
     omega
   ·rename_i hgt
    cases s with
    | cells xs=>
      simp only at h
      split at h
      case isFalse=>cases h
      rename_i hle
      split at h
      case h_2=>cases h
      rename_i r hr
      cases h
      have hb:o+i * w+c+v.size<=(ay (.cells xs::l)).length:=by rw [aZ hl]; exact hle
      obtain ⟨h1,h2⟩:=fh hl hv (by rw [NV.dU]; exact xy) hb hr
      refine ⟨h1,hb,?_⟩
      rw [h2,NV.dU]
    | ints k m xs=>
      have hs:xs.length=m:=hl.head
      simp only at h
      have er:eR o (fY i w)=o+i * w:=by rw [mL,wL]
      rw [er] at h
      generalize o+i * w=row at h er ⊢
      have gen:∀ {ys:List Int},xj k v.my=some ys->(if v.size=m then some ([decide (row=0)],bq.ints k m ys::l) else some ([decide (row+v.size<=m)],bq.ints k m (qk xs row v.size ys)::l))=some (cs,l')->
        aK l'∧row+0+v.size<=(ay (.ints k m xs::l)).length∧ay l'=aw (ay (.ints k m xs::l)) (row+0) v.cells:=by
       intro ys hy h
       have e:=u7 hy
       rw [NV.dU] at e
       have O1:ys.length=v.size:=by rw [<- xy,e]; simp [dm]
       rw [ax9,ak]
       split at h
       ·rename_i em
        cases h
        have r0:=dy hc
        subst r0
        refine ⟨aK.mk (by show ys.length=m; omega) hl.tail,by rw [axG,hlen]; simp only [bq.size]; omega,?_⟩
        rw [eA _ _ _ _ (by rw [xy,hlen]; simp only [bq.size]; omega),mN _ _ (by rw [xy,hlen]; simp only [bq.size]; omega),ak,e]
        rfl
       ·cases h
        have hle:=dy hc
        rw [Co O1 (by omega)]
        refine ⟨aK.mk (by show (aw xs row ys).length=m; rw [cY _ _ _ (by omega)]; exact hs) hl.tail,by rw [axG,hlen]; simp only [bq.size]; omega,?_⟩
        rw [eA _ _ _ _ (by rw [xy,hlen]; simp only [bq.size]; omega),ak,e]
        simp only [bq.flat]
        rw [u5]
      split at h
      case h_2=>cases h
      split at h
      ·rename_i k' z
       split at h
       case isFalse=>cases h
       rename_i ek
       cases h
       subst ek
       have ff:=dy hc
       rw [ax9,ak,ak]
       refine ⟨aK.mk (by show (xs.set row z).length=m; simpa using hs) hl.tail,by rw [axG,hlen]; simp only [bq.size,NV.size]; omega,?_⟩
       simp only [NV.cells]
       rw [eA _ _ _ _ (by rw [hlen]; simp only [bq.size,aya]; omega),kG _ _ _ (by rw [hlen]; exact ff)]
       simp only [bq.flat,dm,List.map_set]
      ·cases h
      ·split at h
       case h_2=>cases h
       rename_i ys hy
       exact gen hy h
    | aA ks m xs=>
      obtain ⟨hs,h0⟩:xs.length=m∧0<ks.length:=hl.head
      simp only at h
      split at h
      case isFalse=>cases h
      rename_i hal
      have er:=Sk (i:=i) hal.2.1 hal.2.2
      generalize eR (o / ks.length) (fY i (w / ks.length))=row at h er
      rw [<- er]
      split at h
      ·rename_i y
       split at h
       case h_2=>cases h
       rename_i k hk
       split at h
       case h_2=>cases h
       rename_i z hz
       cases h
       have ff:=dy hc
       have hcc:c<ks.length:=(List.getElem?_eq_some_iff.1 hk).1
       have hb:row * ks.length+c<m * ks.length:=by
        have:(row+1) * ks.length<=m * ks.length:=ax' _ ff
        rw [axH] at this
        omega
       rw [ak,ak]
       refine ⟨aK.mk ⟨by simpa using hs,h0⟩ hl.tail,by rw [axG,hlen]; simp only [bq.size,NV.size]; omega,?_⟩
       simp only [NV.cells]
       rw [eA _ _ _ _ (by rw [hlen]; simp only [bq.size,aya]; omega),kG _ _ _ (by rw [hlen]; exact hb)]
       simp only [bq.flat]
       rw [qq ks xs row c k z (by omega) hk,Cj hz]
      ·split at h
       case h_2=>cases h
       split at h
       case isFalse=>cases h
       rename_i hvm
       split at h
       case h_2=>cases h
       rename_i ys hy
       obtain ⟨e,O1⟩:=u9 hv hy
       rw [NV.dU] at e
       have en:v.size / ks.length * ks.length=v.size:=by rw [axT]; exact ax4 (ax5 hvm)
       rw [ax9,ak]
       split at h
       ·rename_i em
        cases h
        have r0:=dy hc
        subst r0
        have cS:v.size=m * ks.length:=by rw [<- en,em]
        rw [ayc]
        refine ⟨aK.mk ⟨by omega,h0⟩ hl.tail,by rw [axG,hlen]; simp only [bq.size]; omega,?_⟩
        rw [eA _ _ _ _ (by rw [xy,hlen]; simp only [bq.size]; omega),mN _ _ (by rw [xy,hlen]; simp only [bq.size]; omega),ak,e]
        rfl
       ·cases h
        have hle:=dy hc
        have hb:row * ks.length+v.size<=m * ks.length:=by
         rw [<- en,<- ax8]
         exact ax' _ hle
        rw [Co O1 (by omega)]
        refine ⟨aK.mk ⟨by rw [cY _ _ _ (by omega)]; exact hs,h0⟩ hl.tail,by rw [axG,hlen]; simp only [bq.size]; omega,?_⟩
        rw [eA _ _ _ _ (by rw [xy,hlen]; simp only [bq.size]; omega),ak,e]
        simp only [bq.flat]
        rw [u6]
theorem mQ:∀ {sh:List Shp} {z:List NC} {l:List bq},rO sh z=some l->aK l∧ay l=z
 | [],[],l,h=>by simp [rO] at h; subst h; exact ⟨aK.none,rfl⟩
 | [],_::_,l,h=>by simp [rO] at h
 | .c n::sh,z,l,h=>by
   simp only [rO] at h
   split at h
   case isFalse=>cases h
   split at h
   case h_2=>cases h
   rename_i r hr
   cases h
   obtain ⟨h1,h2⟩:=mQ hr
   refine ⟨aK.mk trivial h1,?_⟩
   rw [ak,h2]
   exact axE n z
 | .r ks n::sh,z,l,h=>by
   simp only [rO] at h
   split at h
   ·rename_i k
    split at h
    case h_2=>cases h
    rename_i xs r hx hr
    split at h
    case isFalse=>cases h
    rename_i hl
    cases h
    obtain ⟨h1,h2⟩:=mQ hr
    refine ⟨aK.mk hl h1,?_⟩
    rw [ak,h2]
    simp only [bq.flat]
    rw [<- tV hx]
    exact axE n z
   ·split at h
    case isFalse=>cases h
    rename_i h0
    split at h
    case h_2=>cases h
    rename_i xs r hx hr
    cases h
    obtain ⟨h1,h2⟩:=mQ hr
    obtain ⟨h3,h4⟩:=tU hx
    refine ⟨aK.mk ⟨h4,h0⟩ h1,?_⟩
    rw [ak,h2]
    simp only [bq.flat]
    rw [<- h3]
    exact axE _ z
theorem Sm {a b:Value} (h:eqV a b=true):a=b:=by
 unfold eqV at h
 split at h
 ·simp only [Bool.and_eq_true,beq_iff_eq] at h; rw [h.1,h.2]
 ·rw [beq_iff_eq] at h; rw [h]
 ·cases h
theorem xA:∀ {r z z' : List Value},Av r z=some z'->z=r++z'
 | [],z,z',h=>by simp only [Av,Option.some.injEq] at h; subst h; rfl
 | _::_,[],z',h=>by simp [Av] at h
 | a::r,b::z,z',h=>by
   simp only [Av] at h
   split at h
   ·rename_i he
    rw [Sm he,xA h]; rfl
   ·cases h
theorem xC {row:List Value}:∀ {n:Nat} {z z' : List Value},EG row n z=some z'->z=(axx n row).flatten++z'
 | 0,z,z',h=>by simp only [EG,Option.some.injEq] at h; subst h; rfl
 | n+1,z,z',h=>by
   simp only [EG] at h
   split at h
   ·rename_i z1 h1
    rw [xA h1,xC h,axz,List.flatten_cons,axC]
   ·cases h
theorem ES {Γ:Env} {ks:List CK} {n:Nat} {row:List Sc} (h0:0<ks.length):(BX ks n row).ok∧R2 (CR Γ) (BX ks n row).flat (axx n (bN ks row)).flatten:=by
 unfold BX
 split
 ·rename_i k x
  refine ⟨by simp [bq.ok],?_⟩
  have:(axx n (bN [CK.i k] [Sc.i x])).flatten=(axx n x).map (Value.int k):=by
   induction n with
   | zero=>rfl
   | succ n ih=>rw [axz,List.flatten_cons,ih,axz,List.map_cons]; rfl
  rw [this]
  exact R2.jh _ _ _ fun _=>⟨rfl,rfl⟩
 ·refine ⟨⟨by simp,h0⟩,?_⟩
  simp only [bq.flat]
  induction n with
  | zero=>exact .nil
  | succ n ih=>
    have e:bJ ks (axx (n+1) row)=bV ks row++bJ ks (axx n row):=by rw [axz]; simp [bJ]
    rw [e,axz,List.flatten_cons]
    exact (eE Γ ks row).append ih
theorem mR {Γ:Env}:∀ {sh:List Shp} {z:List Value} {l:List bq},uV sh z=some l->aK l∧R2 (CR Γ) (ay l) z
 | [],[],l,h=>by simp [uV] at h; subst h; exact ⟨aK.none,.nil⟩
 | [],_::_,l,h=>by simp [uV] at h
 | .c n::sh,z,l,h=>by
   simp only [uV] at h
   split at h
   case h_2=>cases h
   rename_i xs r hx hr
   cases h
   obtain ⟨h1,h2⟩:=mR hr
   refine ⟨aK.mk trivial h1,?_⟩
   rw [ak,<- axE n z]
   exact (cQ hx).append h2
 | .r ks n::sh,z,l,h=>by
   simp only [uV] at h
   split at h
   case isFalse=>cases h
   rename_i h0
   split at h
   case h_2=>cases h
   rename_i r0 hr0
   split at h
   case h_2=>cases h
   rename_i row mM
   split at h
   case h_2=>cases h
   rename_i z' hz
   split at h
   case h_2=>cases h
   rename_i r hr
   cases h
   obtain ⟨h1,h2⟩:=mR hr
   obtain ⟨h3,h4⟩:=ES (Γ:=Γ) (n:=n) (row:=row) h0
   refine ⟨aK.mk h3 h1,?_⟩
   rw [ak,xC hz]
   exact h4.append h2
theorem iX {P:Program} {t:TypeId} {l:List bq} (h:n9 P t=some l):∃ i v,P.info? t=some i∧i.zero=some v∧aK l∧∀ Γ,R2 (CR Γ) (ay l) v.cells.toList:=by
 unfold n9 at h
 split at h
 case h_2=>cases h
 rename_i i hi
 split at h
 case h_2=>cases h
 rename_i v hv
 split at h
 case h_2=>cases h
 rename_i l' hl
 split at h
 case isFalse=>cases h
 cases h
 exact ⟨i,v,hi,hv,(mR (Γ:=⟨fun _=>none,fun _=>none,fun _=>false,fun _=>none⟩) hl).1,fun Γ=>(mR hl).2⟩
theorem kH:∀ {l:List bq} {o w i len:Nat} {cs:List Bool} {ys:cK},aK l->xl l o w i len=some (cs,ys)->bT cs->
  (∃ k xs,ys=.ints k xs∧w=1∧xs.length=len∧((ay l).drop (o+i * w)).take (len * w)=dm k xs)∨(∃ ks xs,ys=.aA ks xs∧w=ks.length∧0<ks.length∧xs.length=len∧((ay l).drop (o+i * w)).take (len * w)=bJ ks xs)
 | [],_,_,_,_,_,_,_,h,_=>by simp [xl] at h
 | s::l,o,w,i,len,cs,ys,hl,h,hc=>by
   simp only [xl] at h
   have hlen:=bq.fe hl.head
   split at h
   ·rename_i hle
    have:=kH hl.tail h hc
    rw [ak,Ck _ _ _ _ (by omega),hlen,show o+i * w - s.size=o - s.size+i * w by omega]
    exact this
   ·rename_i hgt
    cases s with
    | cells xs=>cases h
    | ints k m xs=>
      have hs:xs.length=m:=hl.head
      simp only at h
      split at h
      case isFalse=>cases h
      rename_i hw
      cases h
      subst hw
      have hle:=dy hc
      rw [mL] at hle ⊢
      left
      refine ⟨k,_,rfl,rfl,by simp; omega,?_⟩
      rw [Nat.mul_one,Nat.mul_one,ak,mK _ _ _ _ (by rw [hlen]; exact hle)]
      simp only [bq.flat,dm,ax2,ax3]
    | aA ks m xs=>
      obtain ⟨hs,h0⟩:xs.length=m∧0<ks.length:=hl.head
      simp only at h
      split at h
      case isFalse=>cases h
      rename_i hal
      cases h
      have hle:=dy hc
      obtain ⟨-,ho,rfl⟩:=hal
      rw [mL] at hle ⊢
      right
      refine ⟨ks,_,rfl,rfl,h0,by simp; omega,?_⟩
      have eo:o / ks.length * ks.length=o:=by rw [axT]; exact ax4 (ax5 ho)
      have ea:o+i * ks.length=(o / ks.length+i) * ks.length:=by rw [ax8,eo]
      rw [ea,ak,mK]
      ·simp only [bq.flat]
       rw [mI]
      ·rw [hlen,<- ax8]
       exact ax' _ hle
theorem iY (x:NC) (l:List bq):ay (jO x l)=x::ay l:=by
 unfold jO
 split
 ·rw [ak,ak]; rfl
 ·rw [ak]; rfl
theorem va {x:NC} {l:List bq}:aK (jO x l)↔aK l:=by
 unfold jO
 split
 ·exact ⟨fun h=>aK.mk trivial h.tail,fun h=>aK.mk trivial h.tail⟩
 ·exact ⟨fun h=>h.tail,fun h=>aK.mk trivial h⟩
theorem zZ (x:NC) (l:List bq):b6 (jO x l)=1+b6 l:=by
 unfold jO
 split
 ·simp [b6,bq.size]; omega
 ·simp [b6,bq.size]
theorem fS:∀ (sch:List Part) (a:FC) (row:List FC) (j:Nat),bj sch (a::row) (j+1)=bj sch row j
 | [],_,_,_=>rfl
 | p::sch,a,row,j=>by
   simp only [bj,fS sch a row (j+1)]
   simp
theorem sd:∀ (sch:List Part) (row:List FC) (j:Nat),b6 (bj sch row j)=aO sch
 | [],_,_=>rfl
 | p::sch,row,j=>by
   have ih:=sd sch row (j+1)
   cases p <;> simp only [bj,Part.put,zZ,aO,Part.size,ih] <;> simp [b6,bq.size,ih]
theorem gG {sch:List Part} {row:List FC} {j:Nat} (h:aK (bj sch row j)):(ay (bj sch row j)).length=aO sch:=by
 rw [aZ h,sd]
theorem iF (sch:List Part) (r:List FC) (xs:List (List FC)):cL sch (r::xs)=ay (bj sch r 0)++cL sch xs:=by simp [cL]
theorem mS (sch:List Part) (xs ys:List (List FC)):cL sch (xs++ys)=cL sch xs++cL sch ys:=by simp [cL]
theorem dD.cons {sch:List Part} {r:List FC} {xs:List (List FC)} (h:dD sch (r::xs)):aK (bj sch r 0)∧dD sch xs:=⟨h r (by simp),fun x hx=>h x (by simp [hx])⟩
theorem dD.append {sch:List Part} {xs ys:List (List FC)} (h:dD sch xs) (k:dD sch ys):dD sch (xs++ys):=fun x hx=>by
 rcases List.mem_append.1 hx with hx | hx
 ·exact h x hx
 ·exact k x hx
theorem dD.take {sch:List Part} {xs:List (List FC)} (h:dD sch xs) (n:Nat):dD sch (xs.take n):=fun x hx=>h x (List.mem_of_mem_take hx)
theorem dD.drop {sch:List Part} {xs:List (List FC)} (h:dD sch xs) (n:Nat):dD sch (xs.drop n):=fun x hx=>h x (List.mem_of_mem_drop hx)
theorem mT {sch:List Part}:∀ {xs:List (List FC)},dD sch xs->(cL sch xs).length=xs.length * aO sch
 | [],_=>by simp [cL]
 | r::xs,h=>by
   obtain ⟨h1,h2⟩:=h.cons
   rw [iF,axG,gG h1,mT h2,List.length_cons,axH]; omega
theorem mU {sch:List Part}:∀ {xs:List (List FC)},dD sch xs->∀ i,(cL sch xs).drop (i * aO sch)=cL sch (xs.drop i)
 | [],_,i=>by simp [cL]
 | r::xs,h,0=>by simp
 | r::xs,h,i+1=>by
   obtain ⟨h1,h2⟩:=h.cons
   rw [iF,List.drop_succ_cons,<- mU h2 i,axH,axI,gG h1,axX (by rw [gG h1]; omega),axY]
   congr 1; omega
theorem gn {sch:List Part}:∀ {xs:List (List FC)},dD sch xs->∀ i,(cL sch xs).take (i * aO sch)=cL sch (xs.take i)
 | [],_,i=>by simp [cL]
 | r::xs,h,0=>by simp [cL]
 | r::xs,h,i+1=>by
   obtain ⟨h1,h2⟩:=h.cons
   rw [iF,axK,iF,<- gn h2 i,axH,axL,gG h1,axN (by rw [gG h1]; omega)]
   congr 2; omega
theorem dD.row {sch:List Part} {xs:List (List FC)} (h:dD sch xs) {i:Nat} (hi:i<xs.length):aK (bj sch (xs.getD i []) 0):=h _ (by simp [axF,hi])
theorem eM.row {sch:List Part} {xs:List (List FC)} (h:dD sch xs) {i c n:Nat} {agg:Bool} {v:NV} (hi:i<xs.length) (hg:eM (ay (bj sch (xs.getD i []) 0)) c n agg v):eM (cL sch xs) (i * aO sch+c) n agg v:=by
 have e:cL sch xs=cL sch (xs.take i)++(ay (bj sch (xs.getD i []) 0)++cL sch (xs.drop (i+1))):=by
  rw [<- iF,<- mS]
  congr 1
  conv=>lhs; rw [<- axE i xs]
  rw [axO hi]; simp [axF,hi]
 have hl:(cL sch (xs.take i)).length=i * aO sch:=by rw [mT (h.take i),ax7,Nat.min_eq_left (by omega)]
 rw [e,<- hl]
 refine eM.skip ⟨fun ha=>?_,fun ha=>?_⟩
 ·obtain ⟨h1,h2,h3,h4⟩:=hg.all ha
  refine ⟨?_,h2,h3,h4⟩
  have hb:((ay (bj sch (xs.getD i []) 0)).drop c).length >= n:=by
   have:=congrArg List.length h1
   rw [h2,ax7] at this
   omega
  rw [ax1] at hb
  rw [h1]
  by_cases hn:n=0
  ·subst hn; simp
  ·rw [mK _ _ _ _ (by omega)]
 ·obtain ⟨x,h1,h2⟩:=hg.one ha
  exact ⟨x,h1,by rw [ax6 (List.getElem?_eq_some_iff.1 h2).1]; exact h2⟩
theorem Sn {Γ:Env} {p:Part} {x:NC} {a:FC} {v:Value} (h:R8 p x=some a) (r:CR Γ x v):(∀ l,∃ y,p.put a l=jO y l∧FR Γ y v):=by
 unfold R8 at h
 split at h
 ·split at h
  ·rename_i e; cases h; subst e; exact fun l=>⟨_,rfl,r⟩
  ·cases h
 ·cases h; exact fun l=>⟨_,rfl,r⟩
 ·cases h; exact fun l=>⟨_,rfl,r⟩
 ·split at h
  ·rename_i e; cases h; subst e; exact fun l=>⟨_,rfl,r⟩
  ·cases h
 ·cases h
  refine fun l=>⟨_,rfl,?_,r.2⟩
  have h1:v=.slice none 0 0:=r.1
  exact ⟨none,0,h1,axB _,.inl rfl⟩
 ·split at h
  ·rename_i e; cases h; subst e; exact fun l=>⟨_,rfl,r⟩
  ·cases h
 ·split at h
  ·rename_i hk
   cases h
   refine fun l=>⟨_,rfl,?_,r.2⟩
   have h1:v=.slice none 0 0:=r.1
   exact ⟨none,0,h1,axB _,hk,.inl rfl⟩
  ·cases h
 ·cases h
theorem O2 {Γ:Env} {k:IntKind} {xs:List Int} {vs:List Value} (r:R2 (CR Γ) (dm k xs) vs):R2 (FR Γ) (dm k xs) vs:=by
 rw [kC r]
 exact R2.jh _ _ _ fun _=>⟨rfl,rfl⟩
theorem aoA (Γ:Env) (k:CK) (s:Sc):FR Γ (rM k s) (n8 k s):=by cases k <;> exact ⟨rfl,rfl⟩
theorem ET (Γ:Env) (ks:List CK) (row:List Sc):R2 (FR Γ) (bV ks row) (bN ks row):=by
 unfold bV bN
 generalize 0=j
 induction ks generalizing j with
 | nil=>exact .nil
 | cons k ks ih=>exact .cons (aoA Γ k _) (ih (j+1))
theorem O3 {Γ:Env} {ks:List CK} {xs:List (List Sc)} {vs:List Value} (r:R2 (CR Γ) (bJ ks xs) vs):R2 (FR Γ) (bJ ks xs) vs:=by
 rw [kB r]
 clear r vs
 induction xs with
 | nil=>exact .nil
 | cons a xs ih=>
   have e1:bJ ks (a::xs)=bV ks a++bJ ks xs:=by simp [bJ]
   have e2:aL ks (a::xs)=bN ks a++aL ks xs:=by simp [aL]
   rw [e1,e2]
   exact (ET Γ ks a).append ih
theorem R2.AB {α β:Type} {R:α->β->Prop} {a b:List α} {m:List β} (h:R2 R (a++b) m):∃ m1 m2,m=m1++m2∧R2 R a m1∧R2 R b m2:=by
 induction a generalizing m with
 | nil=>exact ⟨[],m,rfl,.nil,h⟩
 | cons x a ih=>
   cases h with
   | cons r h=>
     obtain ⟨m1,m2,h1,h2,h3⟩:=ih h
     exact ⟨_::m1,m2,by rw [h1]; rfl,.cons r h2,h3⟩
theorem vb {Γ:Env}:∀ {sch:List Part} {xs:List NC} {l:List bq} {row:List FC} {vs:List Value},lF sch xs l=some row->aK l->R2 (CR Γ) (xs++ay l) vs->
  R2 (FR Γ) (ay (bj sch row 0)) vs∧aK (bj sch row 0):=by
 intro sch
 induction sch with
 | nil=>
   intro xs l row vs h hl hr
   cases xs with
   | cons x xs=>cases h
   | nil=>
     cases l with
     | cons s l=>cases h
     | nil=>
       cases h
       cases hr
       exact ⟨.nil,aK.none⟩
 | cons p sch ih=>
   intro xs l row vs h hl hr
   have step:∀ {a:FC} {r:List FC} {x:NC} {ys:List NC} {rest:List bq} {ws:List Value},R8 p x=some a->lF sch ys rest=some r->aK rest->R2 (CR Γ) (x::(ys++ay rest)) ws->
     R2 (FR Γ) (ay (bj (p::sch) (a::r) 0)) ws∧aK (bj (p::sch) (a::r) 0):=by
    intro a r x ys rest ws h1 h2 h3 h4
    cases h4 with
    | cons h5 h6=>
      obtain ⟨i1,i2⟩:=ih h2 h3 h6
      obtain ⟨y,hy,hf⟩:=Sn h1 h5 (bj sch r 0)
      have e:bj (p::sch) (a::r) 0=jO y (bj sch r 0):=by
       simp only [bj,fS,ayd]
       exact hy
      rw [e,iY]
      exact ⟨.cons hf i1,va.2 i2⟩
   unfold lF at h
   split at h
   ·exact absurd (by assumption:p::sch=[]) (by simp)
   ·exact absurd (by assumption:p::sch=[]) (by simp)
   ·rename_i k n rV k' n' zs rest e
    cases e
    split at h
    case isFalse=>cases h
    rename_i hk
    obtain ⟨rfl,rfl⟩:=hk
    split at h
    case h_2=>cases h
    rename_i r lz
    cases h
    rw [axY,ak] at hr
    obtain ⟨m1,m2,rfl,h1,h2⟩:=hr.AB
    obtain ⟨i1,i2⟩:=ih lz hl.tail h2
    have e:bj (.ai k n::sch) (.is zs::r) 0=.ints k n zs::bj sch r 0:=by simp only [bj,fS,ayd]; rfl
    rw [e,ak]
    exact ⟨(O2 h1).append i1,aK.mk hl.head i2⟩
   ·rename_i ks n rV nT n' zs rest e
    cases e
    split at h
    case isFalse=>cases h
    rename_i hk
    obtain ⟨rfl,rfl⟩:=hk
    split at h
    case h_2=>cases h
    rename_i r lz
    cases h
    rw [axY,ak] at hr
    obtain ⟨m1,m2,rfl,h1,h2⟩:=hr.AB
    obtain ⟨i1,i2⟩:=ih lz hl.tail h2
    have e:bj (.ar ks n::sch) (.rs zs::r) 0=.aA ks n zs::bj sch r 0:=by simp only [bj,fS,ayd]; rfl
    rw [e,ak]
    exact ⟨(O3 h1).append i1,aK.mk hl.head i2⟩
   ·rename_i p' rV x ys rest e
    cases e
    split at h
    case h_2=>cases h
    rename_i a r h1 h2
    cases h
    exact step h1 h2 hl hr
   ·rename_i p' rV x ys rest e
    cases e
    split at h
    case h_2=>cases h
    rename_i a r h1 h2
    cases h
    rw [axY,ak] at hr
    exact step h1 h2 hl.tail hr
   ·cases h
theorem jj {Γ:Env} {sch:List Part} {y:NV} {row:List FC} {v:Value} (h:Lz sch y=some row) (r:cM Γ y v):gR Γ sch row v:=by
 cases y with
 | c x=>cases h
 | ag xs=>
   obtain ⟨vs,rfl,hr⟩:=r
   obtain ⟨h1,h2⟩:=vb (Γ:=Γ) (sch:=sch) (xs:=xs) (l:=[]) h aK.none (by simpa [ay] using hr)
   exact ⟨vs,rfl,h1,h2⟩
 | sg l=>
   obtain ⟨vs,rfl,hr,fI⟩:=r
   obtain ⟨h1,h2⟩:=vb (Γ:=Γ) (sch:=sch) (xs:=[]) (l:=l) h fI (by simpa using hr)
   exact ⟨vs,rfl,h1,h2⟩
theorem R2.c {Γ:Env} {xs:List NC} {vs:List Value} (h:R2 (FR Γ) xs vs):R2 (CR Γ) xs vs:=h.imp fun _ _ r=>r.c
theorem gR.rel {Γ:Env} {sch:List Part} {row:List FC} {v:Value} (h:gR Γ sch row v) (n:Nat):cM Γ (mkSub n (bj sch row 0)) v:=by
 obtain ⟨vs,rfl,h1,h2⟩:=h
 unfold mkSub
 split
 ·exact ⟨vs,rfl,h1.c⟩
 ·exact ⟨vs,rfl,h1.c,h2⟩
theorem bB (ks:List CK) (xs:List (List Sc)):(aL ks xs).length=xs.length * ks.length:=by
 induction xs with
 | nil=>simp [aL]
 | cons a xs ih=>
   have e:aL ks (a::xs)=bN ks a++aL ks xs:=by simp [aL]
   rw [e,axG,ih,fb,List.length_cons,axH]; omega
theorem gu (ks:List CK) (xs:List (List Sc)) (i:Nat):(aL ks xs).drop (i * ks.length)=aL ks (xs.drop i):=by
 induction i generalizing xs with
 | zero=>simp
 | succ i ih=>
   cases xs with
   | nil=>simp [aL]
   | cons a xs=>
     have e:aL ks (a::xs)=bN ks a++aL ks xs:=by simp [aL]
     rw [e,axH,axJ,<- List.drop_drop]
     have:(bN ks a++aL ks xs).drop ks.length=aL ks xs:=by
      rw [axI]
      simp
     rw [this,ih]
     simp
theorem eF (ks:List CK) (xs:List (List Sc)) (i:Nat):(aL ks xs).take (i * ks.length)=aL ks (xs.take i):=by
 induction i generalizing xs with
 | zero=>simp [aL]
 | succ i ih=>
   cases xs with
   | nil=>simp [aL]
   | cons a xs=>
     have e:aL ks (a::xs)=bN ks a++aL ks xs:=by simp [aL]
     have e2:aL ks ((a::xs).take (i+1))=bN ks a++aL ks (xs.take i):=by simp [aL]
     rw [e,e2,axH,axJ,axL]
     simp only [fb,axM]
     rw [ih,axN (by simp)]
theorem tW (ks:List CK) (xs:List (List Sc)) (i:Nat) (h:i<xs.length):((aL ks xs).drop (i * ks.length)).take ks.length=bN ks (xs.getD i []):=by
 rw [gu]
 have e:xs.drop i=xs[i]::xs.drop (i+1):=axO h
 have e2:aL ks (xs[i]::xs.drop (i+1))=bN ks xs[i]++aL ks (xs.drop (i+1)):=by unfold aL; rw [axA]
 have e3:xs.getD i []=xs[i]:=by simp [axF,h]
 rw [e,e2,axW (by simp),e3,axN (by simp)]
theorem pM (ks:List CK) (xs:List (List Sc)) (i c:Nat) (k:CK) (h:i<xs.length) (hk:ks[c]? = some k) :
  (aL ks xs)[i * ks.length+c]? = some (n8 k ((xs.getD i []).getD c (.i 0))):=by
 have hc:c<ks.length:=(List.getElem?_eq_some_iff.1 hk).1
 have h1:=tW ks xs i h
 have h2:(bN ks (xs.getD i []))[c]? = some (n8 k ((xs.getD i []).getD c (.i 0))):=by
  have:=oq n8 ks (xs.getD i []) 0 c k hk
  simpa [bN] using this
 rw [<- h1,axQ,if_pos hc,axR] at h2
 exact h2
theorem O4 (ks:List CK) (xs:List (List Sc)) (i:Nat) (row:List Sc) (h:i<xs.length):aL ks (xs.set i row)=aw (aL ks xs) (i * ks.length) (bN ks row):=by
 have e:xs.set i row=xs.take i++row::xs.drop (i+1):=List.set_eq_take_append_cons_drop.trans (by simp [h])
 have e2:aL ks (xs.take i++row::xs.drop (i+1))=aL ks (xs.take i)++bN ks row++aL ks (xs.drop (i+1)):=by simp [aL]
 rw [e,e2,aw,eF,fb]
 have:i * ks.length+ks.length=(i+1) * ks.length:=by rw [axH]
 rw [this,gu]
theorem qR (Γ:Env) (ks:List CK) (xs:List (List Sc)):R2 (CR Γ) (bJ ks xs) (aL ks xs):=by
 induction xs with
 | nil=>exact .nil
 | cons a xs ih=>
   have e1:bJ ks (a::xs)=bV ks a++bJ ks xs:=by simp [bJ]
   have e2:aL ks (a::xs)=bN ks a++aL ks xs:=by simp [aL]
   rw [e1,e2]
   exact (eE Γ ks a).append ih
theorem xD (Γ:Env) (k:IntKind) (xs:List Int):R2 (CR Γ) (dm k xs) (xs.map (.int k)):=R2.jh _ _ _ fun _=>⟨rfl,rfl⟩
section
variable {P:Program} {w:World} {t:TypeId} {d:TypeDesc}
theorem dd {a:Addr} {v:Value} (hu:P.underlying t=some d) (ha:b4 P t=false) (hc:w.cell? a=some v):(Instr.loadAt t (.pointer (some a))).run P w=.ok v w:=by
 simp [Instr.loadAt,Instr.sureAddr,loadVar,dI hu,ha,hc]
theorem dA {b o:Nat} {vs:List Value} (hu:P.underlying t=some d) (ha:b4 P t=true) (hn:vs.length=al P t)
  (hc:∀ j v,vs[j]? = some v->w.cell? ⟨b,o+j,none⟩=some v):(Instr.loadAt t (.pointer (some ⟨b,o,none⟩))).run P w=.ok (.agg vs.toArray) w:=by
 obtain ⟨i,hi⟩:=info_of_underlying hu
 have hl:=run_loadCells_list (P:=P) w ⟨b,o,none⟩ vs (fun j v hj=>by rw [Addr.add_lit]; exact hc j v hj)
 rw [hn] at hl
 simp [Instr.loadAt,Instr.sureAddr,loadVar,dI hu,ha,run_sizeOf hi,hl]
end
theorem aV {pre l2:List Value} {j:Nat} {v:Value} (h:pre[j]? = some v):(pre++l2)[j]? = some v:=by
 rw [ax6 (List.getElem?_eq_some_iff.1 h).1]; exact h
theorem dV {w:World} {b o:Nat} {c:Array Value} {e:TypeId} {fz:Nat × Nat} {v:Value} (h:w.heap[b]? = some (.cells c e fz)) (hv:c.toList[o]? = some v):w.cell? ⟨b,o,none⟩=some v:=by
 rw [cell_of_row w b o c e fz h]; simpa using hv
theorem dE.cell {Γ:Env} {rg:List (Option aG)} {w:World} (hw:aQ Γ rg w) {b o:Nat} {vs:List Value} (h:dE Γ b o vs) {j:Nat} {v:Value} (hj:vs[j]? = some v):w.cell? ⟨b,o+j,none⟩=some v:=by
 obtain ⟨_,c,e,fz,h1,h2⟩:=h
 exact dV (hw.kp _ _ h1) (by simpa using h2 j v hj)
theorem bU {α:Type} {l:List α} {o n j:Nat} {v:α} (h:((l.drop o).take n)[j]? = some v):l[o+j]? = some v:=by
 rw [axQ] at h
 split at h
 ·rwa [axR] at h
 ·cases h
theorem LA {k:IntKind} {xs:List Int} {i:Nat} (h:i<xs.length):(xs.map (Value.int k))[i]? = some (.int k (xs.getD i 0)):=by
 simp [axF,h]
theorem bG.lK {Γ:Env} {st:Nat} {l:List bq} {vs:List Value} (h:bG Γ st (.sg l) vs):aK l:=by
 obtain ⟨_,_,_,_,h⟩:=h
 exact h
theorem iZ {Γ:Env} {y:NV} {vs:List Value} (h1:R2 (CR Γ) y.cells vs) (h2:aK y.my) (h3:∀ x,y≠.c x):cM Γ y (.agg vs.toArray):=by
 cases y with
 | c x=>exact (h3 x rfl).elim
 | ag xs=>exact ⟨vs,rfl,h1⟩
 | sg l=>exact ⟨vs,rfl,h1,h2⟩
theorem nM.cell {Γ:Env} {g:aG} {B:cR} {w:World} {c:Array Value} (h:nM Γ g B w c) {k:Nat} {v:Value} (hk:(c.toList.drop B.o)[k]? = some v):w.cell? ⟨B.ax,B.o+k,none⟩=some v:=
 dV h.heap (by rwa [axR] at hk)
theorem EU {P:Program} {Γ:Env} {w:World} {t:TypeId} {d:TypeDesc} {b a o:Nat} {L:List Value} {st:Nat} {l:List bq} {y:NV} (hcs:∀ {k:Nat} {v:Value},L[k]? = some v->w.cell? ⟨b,a+k,none⟩=some v) (aH:bG Γ st (.sg l) L) (hu:P.underlying t=some d)
  (hg:eM (ay l) o (al P t) (b4 P t) y):∃ u,(Instr.loadAt t (.pointer (some ⟨b,a+o,none⟩))).run P w=.ok u w∧b5 Γ (.v y) u:=by
 obtain ⟨l1,l2,hl,hr,-⟩:=aH
 cases ha:b4 P t with
 | true=>
   obtain ⟨h1,h2,h3,h4⟩:=hg.all ha
   have lz : R2 (CR Γ) y.cells ((l1.drop o).take (al P t)):=h1 ▸ (hr.drop _).take _
   refine ⟨_,dA (vs:=(l1.drop o).take (al P t)) hu ha (by rw [<- lz.length]; exact h2) (fun j v hj=>?_),iZ lz h3 h4⟩
   rw [aye]
   exact hcs (by rw [hl]; exact aV (bU hj))
 | false=>
   obtain ⟨x,rfl,hx⟩:=hg.one ha
   obtain ⟨u,RI,EV⟩:=hr.get hx
   exact ⟨u,dd hu ha (hcs (by rw [hl]; exact aV RI)),EV⟩
theorem LC {P:Program} {Γ:Env} {w:World} {t:TypeId} {d:TypeDesc} {b a o:Nat} {L:List Value} {fl:List NC} {y:NV} (hcs:∀ {k:Nat} {v:Value},L[k]? = some v->w.cell? ⟨b,a+k,none⟩=some v) (hr:∃ l1 l2,L=l1++l2∧R2 (FR Γ) fl l1) (hu:P.underlying t=some d)
  (hg:eM fl o (al P t) (b4 P t) y):∃ u,(Instr.loadAt t (.pointer (some ⟨b,a+o,none⟩))).run P w=.ok u w∧b5 Γ (.v y) u:=by
 obtain ⟨l1,l2,hl,hr⟩:=hr
 replace hr:=hr.c
 cases ha:b4 P t with
 | true=>
   obtain ⟨h1,h2,h3,h4⟩:=hg.all ha
   have lz : R2 (CR Γ) y.cells ((l1.drop o).take (al P t)):=h1 ▸ (hr.drop _).take _
   refine ⟨_,dA (vs:=(l1.drop o).take (al P t)) hu ha (by rw [<- lz.length]; exact h2) (fun j v hj=>?_),iZ lz h3 h4⟩
   rw [aye]
   exact hcs (by rw [hl]; exact aV (bU hj))
 | false=>
   obtain ⟨x,rfl,hx⟩:=hg.one ha
   obtain ⟨u,RI,EV⟩:=hr.get hx
   exact ⟨u,dd hu ha (hcs (by rw [hl]; exact aV RI)),EV⟩
theorem vd {P:Program} {s:St} {Γ:Env} {w:World} {t:TypeId} {x:NC} {v:Value} {c:List Bool} {nv:NS} {glob:List Nat} (hw:aQ Γ s.rg w) (hG:GlobOk glob Γ)
  (hu:(P.underlying t).isSome=true) (hx:CR Γ x v) (h:uW P glob s t x=some (c,nv)) (hc:bT c) :
  ∃ u,(Instr.loadAt t v).run P w=.ok u w∧b5 Γ nv u:=by
 obtain ⟨d,hu⟩:=Option.isSome_iff_exists.1 hu
 unfold uW at h
 split at h
 ·rename_i r i cc
  obtain ⟨⟨B,hB,rfl⟩,_⟩:=hx
  split at h
  ·rename_i g hg
   obtain ⟨cs,hA⟩:=hw.at hB ((bS s r g).1 hg) (by cases hb:g.body <;> first | rfl | (rw [hb] at h; cases h))
   have aH:=hA.body
   have hcs:∀ {k:Nat} {v:Value},(cs.toList.drop B.o)[k]? = some v->w.cell? ⟨B.ax,B.o+k,none⟩=some v:=hA.cell
   rw [hA.st]
   generalize cs.toList.drop B.o=L at aH hcs
   split at h
   ·rename_i xs hb ha
    rw [hb] at aH
    obtain ⟨l1,l2,hl,hr⟩:=aH
    split at h
    ·rename_i l lg
     cases h
     have AG : l=(xs.drop (i * g.st+cc)).take (al P t)∧l.length=al P t:=by
      unfold sub at lg
      simp only at lg
      split at lg
      ·rename_i e; cases lg; exact ⟨rfl,e⟩
      ·cases lg
     have lz : R2 (CR Γ) l ((l1.drop (i * g.st+cc)).take (al P t)):=AG.1 ▸ (hr.drop _).take _
     refine ⟨_,dA (vs:=(l1.drop (i * g.st+cc)).take (al P t)) hu ha (by rw [<- lz.length]; exact AG.2) (fun j v hj=>?_),⟨_,rfl,lz⟩⟩
     rw [aye]
     exact hcs (by rw [hl]; exact aV (bU hj))
    ·cases h
   ·rename_i xs hb ha
    rw [hb] at aH
    obtain ⟨l1,l2,hl,hr⟩:=aH
    split at h
    ·rename_i y hy
     cases h
     obtain ⟨u,RI,EV⟩:=hr.get hy
     exact ⟨u,dd hu ha (hcs (by rw [hl]; exact aV RI)),EV⟩
    ·cases h
   ·rename_i k xs hb ha
    rw [hb] at aH
    obtain ⟨h1,l2,hl⟩:=aH
    split at h
    ·cases h
     have hi:i<xs.length:=by simpa [bT] using hc
     exact ⟨_,dd hu ha (hcs (by rw [hl,h1]; simpa using aV (LA hi))),⟨rfl,rfl⟩⟩
    ·cases h
   ·rename_i k xs hb ha
    rw [hb] at aH
    obtain ⟨h1,l2,hl⟩:=aH
    split at h
    ·split at h
     ·rename_i hn
      cases h
      refine ⟨_,dA (vs:=xs.map (.int k)) hu ha (by simpa using hn) (fun j v hj=>?_),⟨_,rfl,xD Γ k xs⟩⟩
      rw [aye]
      exact hcs (by rw [hl]; exact aV (by simpa using hj))
     ·cases h
    ·cases h
   ·rename_i ks xs hb ha
    rw [hb] at aH
    obtain ⟨h1,h0,l2,hl⟩:=aH
    split at h
    ·rename_i k hk
     cases h
     have hi:i<xs.length:=by simpa [bT] using hc
     refine ⟨_,dd hu ha (hcs (by rw [hl,h1]; exact aV (pM ks xs i cc k hi hk))),Iw Γ k _⟩
    ·cases h
   ·rename_i ks xs hb ha
    rw [hb] at aH
    obtain ⟨h1,h0,l2,hl⟩:=aH
    split at h
    ·split at h
     ·rename_i hn
      cases h
      have hi:i<xs.length:=by simpa [bT] using hc
      refine ⟨_,dA (vs:=bN ks (xs.getD i [])) hu ha (by simp [hn]) (fun j v hj=>?_),⟨_,rfl,eE Γ ks _⟩⟩
      rw [<- tW ks xs i hi] at hj
      rw [aye]
      exact hcs (by rw [hl,h1]; exact aV (bU hj))
     ·split at h
      ·rename_i So
       split at h
       ·rename_i hn
        cases h
        refine ⟨_,dA (vs:=aL ks xs) hu ha (by rw [bB,hn]) (fun j v hj=>?_),⟨_,rfl,qR Γ ks xs⟩⟩
        rw [aye]
        exact hcs (by rw [hl,So]; exact aV (by simpa using hj))
       ·cases h
      ·cases h
    ·cases h
   ·rename_i l hb
    rw [hb] at aH
    split at h
    case h_2=>cases h
    split at h
    case h_2=>cases h
    rename_i y hy
    cases h
    obtain ⟨u,RI,EV⟩:=EU hcs aH hu (ji aH.lK hy)
    rw [ayc,ayf]
    exact ⟨u,RI,EV⟩
   ·rename_i sch xs hb
    rw [hb] at aH
    obtain ⟨h1,h0,l1,l2,hl,hr,hk⟩:=aH
    split at h
    case h_2=>cases h
    rename_i y hy
    cases h
    have hi:i<xs.length:=by simpa [bT] using hc
    rw [h1]
    exact LC hcs ⟨l1,l2,hl,hr⟩ hu (eM.row hk hi (ji (hk.row hi) hy))
   ·cases h
  ·cases h
 ·rename_i sch xs i cc
  obtain ⟨⟨ax,off,vs,rfl,h0,hk,dK,hr⟩,_⟩:=hx
  split at h
  case h_2=>cases h
  rename_i y hy
  cases h
  have hi:i<xs.length:=by simpa [bT] using hc
  exact LC (L:=vs) (fun hk=>dK.cell hw hk) ⟨vs,[],by simp,hr⟩ hu (eM.row hk hi (ji (hk.row hi) hy))
 ·rename_i r o ww i cc
  obtain ⟨⟨B,hB,rfl⟩,_⟩:=hx
  split at h
  case h_2=>cases h
  rename_i g hg
  obtain ⟨cs,hA⟩:=hw.at hB ((bS s r g).1 hg) (by cases hb:g.body <;> first | rfl | (rw [hb] at h; cases h))
  have aH:=hA.body
  have hcs:∀ {k:Nat} {v:Value},(cs.toList.drop B.o)[k]? = some v->w.cell? ⟨B.ax,B.o+k,none⟩=some v:=hA.cell
  generalize cs.toList.drop B.o=L at aH hcs
  split at h
  case h_2=>cases h
  rename_i l hb
  rw [hb] at aH
  split at h
  case h_2=>cases h
  rename_i y hy
  cases h
  exact EU hcs aH hu (jC aH.lK hy hc)
 ·rename_i k xs i
  obtain ⟨⟨ax,off,rfl,dK⟩,_⟩:=hx
  split at h
  ·cases h
  ·rename_i ha
   cases h
   have hi:i<xs.length:=by simpa [bT] using hc
   exact ⟨_,dd hu (by simpa using ha) (dK.cell hw (LA hi)),⟨rfl,rfl⟩⟩
 ·rename_i ks xs i cc
  obtain ⟨⟨ax,off,rfl,dK⟩,_⟩:=hx
  split at h
  ·rename_i ha
   split at h
   ·split at h
    ·rename_i hn
     cases h
     have hi:i<xs.length:=by simpa [bT] using hc
     refine ⟨_,dA (vs:=bN ks (xs.getD i [])) hu ha (by simp [hn]) (fun j v hj=>?_),⟨_,rfl,eE Γ ks _⟩⟩
     rw [<- tW ks xs i hi] at hj
     have:=dK.cell hw (bU hj)
     simpa [aye] using this
    ·cases h
   ·cases h
  ·rename_i ha
   split at h
   ·rename_i k hk
    cases h
    have hi:i<xs.length:=by simpa [bT] using hc
    have:=dK.cell hw (pM ks xs i cc k hi hk)
    exact ⟨_,dd hu (by simpa using ha) (by simpa [aye] using this),Iw Γ k _⟩
   ·cases h
 ·rename_i g
  obtain ⟨rfl,_⟩:=hx
  split at h
  ·cases h
  ·rename_i ha
   split at h
   case isFalse=>cases h
   rename_i hg
   cases h
   obtain ⟨ad,c,e,fz,ca,ta,h1,h2,h3,-⟩:=hG.1 g (List.contains_iff_mem.1 hg)
   exact ⟨_,dd hu (by simpa using ha) (dV (hw.kp _ _ h2) (by simpa using h3)),⟨h1,rfl⟩⟩
 ·cases h
theorem fT {α:Type} (xs:List α) (o:Nat) (ys:List α) (h:o+ys.length<=xs.length):(aw xs o ys).length=xs.length:=by
 simp only [aw,axG,ax7,ax1]; omega
theorem ct {α:Type} (xs zs:List α) (o:Nat) (ys:List α) (h:o+ys.length<=xs.length):aw (xs++zs) o ys=aw xs o ys++zs:=by
 simp only [aw]
 rw [axW (by omega),ax0 h]
 simp
theorem xE {α:Type} (xs:List α) (o:Nat) (y:α) (h:o<xs.length):aw xs o [y]=xs.set o y:=by
 simp only [aw,aya]
 rw [List.set_eq_take_append_cons_drop,if_pos h]; simp
theorem R2.aw {α β:Type} {R:α->β->Prop} {l:List α} {m:List β} (h:R2 R l m) (o:Nat) {a:List α} {b:List β} (r:R2 R a b):R2 R (Nx.aw l o a) (Nx.aw m o b):=by
 unfold Nx.aw
 rw [r.length]
 exact ((h.take _).append r).append (h.drop _)
theorem abh (xs:List Int) (i:Nat) (v:Int):∀ j,mB xs (j+i) v j=xs.set i v:=by
 induction xs generalizing i with
 | nil=>intro j; simp [mB]
 | cons x xs ih=>
   intro j
   cases i with
   | zero=>
     have:∀ (l:List Int) (a b:Nat),a<b->mB l a v b=l:=by
      intro l
      induction l with
      | nil=>intro a b _; rfl
      | cons y l ihl=>
        intro a b Sq
        have b9:(a==b)=false:=by simp; omega
        rw [mB,b9,ihl a (b+1) (by omega)]
        rfl
     rw [mB,this xs (j+0) (j+1) (by omega)]
     simp
   | succ i=>
     have b9:(j+(i+1)==j)=false:=by simp
     have e:j+(i+1)=(j+1)+i:=by omega
     rw [mB,b9,e,ih i (j+1)]
     rfl
theorem gZ (xs:List Int) (i:Nat) (v:Int):mB xs i v 0=xs.set i v:=by simpa using abh xs i v 0
theorem ve (ks:List CK) (row:List Sc) (c:Nat) (z:Sc) (j:Nat) (hj:j<ks.length):(setRow ks row c z).getD j (.i 0)=if j=c then z else row.getD j (.i 0):=by
 simp [setRow,axF,hj]
theorem Cp (ks:List CK) (xs:List (List Sc)) (i c:Nat) (k:CK) (z:Sc) (h:i<xs.length) (hk:ks[c]? = some k) :
  aL ks (xs.set i (setRow ks (xs.getD i []) c z))=(aL ks xs).set (i * ks.length+c) (n8 k z):=by
 have hc:c<ks.length:=(List.getElem?_eq_some_iff.1 hk).1
 apply List.ext_getElem?
 intro m
 by_cases hm:m<xs.length * ks.length
 ·have hw:0<ks.length:=by omega
  have hi' : m / ks.length<xs.length:=(axS hw).2 hm
  have lJ : m % ks.length<ks.length:=Nat.mod_lt _ hw
  have em:m / ks.length * ks.length+m % ks.length=m:=by rw [axT]; exact axU m ks.length
  have Ie : ks[m % ks.length]? = some ks[m % ks.length]:=axP lJ
  have g1:=pM ks xs (m / ks.length) (m % ks.length) _ hi' Ie
  have g2:=pM ks (xs.set i (setRow ks (xs.getD i []) c z)) (m / ks.length) (m % ks.length) _ (by simpa using hi') Ie
  rw [em] at g1 g2
  rw [g2,List.getElem?_set]
  by_cases e:i * ks.length+c=m
  ·have ei:m / ks.length=i:=by
    rw [<- e,axJ,Nat.add_mul_div_right _ _ hw,Nat.div_eq_of_lt hc]; simp
   have ec:m % ks.length=c:=by rw [<- e,axJ,Nat.add_mul_mod_self_right,Nat.mod_eq_of_lt hc]
   rw [if_pos e,if_pos (by rw [bB]; omega)]
   have hkk:ks[m % ks.length]=k:=by
    have:ks[m % ks.length]? = some k:=by rw [ec]; exact hk
    rw [Ie] at this; exact Option.some.inj this
   rw [hkk]
   have:(xs.set i (setRow ks (xs.getD i []) c z)).getD (m / ks.length) []=setRow ks (xs.getD i []) c z:=by
    simp [axF,ei,h]
   rw [this,ve ks _ c z _ lJ,if_pos ec]
  ·rw [if_neg e,g1]
   congr 2
   by_cases ei:m / ks.length=i
   ·have ec:m % ks.length≠c:=by intro ec; exact e (by rw [<- ei,<- ec]; exact em)
    have:(xs.set i (setRow ks (xs.getD i []) c z)).getD (m / ks.length) []=setRow ks (xs.getD i []) c z:=by
     simp [axF,ei,h]
    rw [this,ve ks _ c z _ lJ,if_neg ec,ei]
   ·have:(xs.set i (setRow ks (xs.getD i []) c z)).getD (m / ks.length) []=xs.getD (m / ks.length) []:=by
     simp [axF,Ne.symm ei]
    rw [this]
 ·rw [axD (by rw [bB,axV]; omega),axD (by rw [axV,bB]; omega)]
theorem R2.one {Γ:Env} {x:NC} {l:List Value} (h:R2 (CR Γ) [x] l):∃ v,l=[v]∧CR Γ x v:=by
 cases h with
 | cons a b=>cases b; exact ⟨_,rfl,a⟩
theorem vg {α:Type} (l:List α) (o off:Nat) (ys:List α) (h:o<=l.length):(aw l (o+off) ys).drop o=aw (l.drop o) off ys:=by
 have e:l=l.take o++l.drop o:=(axE o l).symm
 have hl:(l.take o).length=o:=by rw [ax7]; omega
 have:=kF (l.take o) (l.drop o) (o+off) ys (by omega)
 rw [<- e,hl,axM] at this
 rw [this,ax0 (by omega),axX (by omega),axY]
theorem ou {α:Type} (l:List α) (o off:Nat) (ys:List α) (h:o<=l.length):(aw l (o+off) ys).take o=l.take o:=by
 have e:l=l.take o++l.drop o:=(axE o l).symm
 have hl:(l.take o).length=o:=by rw [ax7]; omega
 have:=kF (l.take o) (l.drop o) (o+off) ys (by omega)
 rw [<- e] at this
 rw [this,axW (by omega),axN (by omega)]
theorem z6 {α:Type} (l:List α) (o k:Nat) (ys:List α) (h:o+ys.length<=k) (hk:k<=l.length):(aw l o ys).drop k=l.drop k:=by
 have e:l=l.take k++l.drop k:=(axE k l).symm
 have hl:(l.take k).length=k:=by rw [ax7]; omega
 have:=eA (l.take k) (l.drop k) o ys (by omega)
 rw [<- e] at this
 have h2:(aw (l.take k) o ys).length=k:=by rw [cY _ _ _ (by omega),hl]
 rw [this,ax0 (by omega),axX (by omega),axY]
theorem lf.le {B:cR} {g:aG} {l:List Value} (h:lf B g l):B.o<=l.length:=by
 have:=congrArg List.length h.1
 rw [ax7] at this
 unfold cR.o at this ⊢
 omega
theorem lf.aw {B:cR} {g g' : aG} {l ys:List Value} {off:Nat} (h:lf B g l) (he:g'.e=g.e) (hln:∀ n,g.body.len=some n->g'.body.len=some n∧off+ys.length<=n) (eS:B.o+off+ys.length<=l.length):lf B g' (Nx.aw l (B.o+off) ys):=by
 have hle:=h.le
 refine ⟨(ou _ _ _ _ hle).trans h.1,?_⟩
 have h2:=h.2
 cases hp:B.post with
 | none=>
   rw [hp] at h2
   exact ⟨h2.1,h2.2.trans he.symm⟩
 | some post=>
   rw [hp] at h2
   obtain ⟨n,h3,h4,h5⟩:=h2
   obtain ⟨h6,h7⟩:=hln n h3
   exact ⟨n,h6,(z6 _ _ _ _ (by omega) h5).trans h4,by rw [cY _ _ _ eS]; exact h5⟩
theorem EW {P:Program} {s:St} {Γ:Env} {w:World} {t:TypeId} {u:Value} {r off:Nat} {g g' : aG} {B:cR} {i:TypeInfo} {cs:Array Value} {xs:List NC} (hw:aQ Γ s.rg w) (hi:P.info? t=some i) (gS:s.rg[r]? = some (some g)) (hB:Γ.pt r=some B)
  (hA:nM Γ g B w cs) (O5:R2 (CR Γ) xs u.cells.toList) (cS:u.cells.toList.length=al P t)
  (eS:off+u.cells.toList.length<=(cs.toList.drop B.o).length) (EX : g'.st=g.st) (he' : g'.e=g.e) (hln:∀ n,g.body.len=some n->g'.body.len=some n∧off+u.cells.toList.length<=n) (hH : bG Γ g.st g'.body (aw (cs.toList.drop B.o) off u.cells.toList)) :
  ∃ w',(Instr.storeAt t (.pointer (some ⟨B.ax,B.o+off,none⟩)) u).run P w=.ok () w'∧aQ Γ (putAt s.rg r (some g')) w'∧Wd w w':=by
 have hle:=hA.part.le
 rw [ax1] at eS
 have eS:B.o+off+u.cells.toList.length<=cs.toList.length:=by omega
 have hcs:=hA.heap
 have bE:=run_storeCells_at P B.ax (B.o+off) B.e u.cells.toList 0 cs w hcs (by simpa using eS) O5.sa
 simp only [ax9] at bE
 have hgr:cN Γ g' B (w.setRow B.ax (aw cs.toList (B.o+off) u.cells.toList).toArray):=by
  refine .inr (.inl ⟨(Env.bt.1 hB).2,_,setRow_heap w _ _ _ _ _ hcs,by rw [EX]; exact hA.st,?_,?_,?_⟩)
  ·simp only [List.size_toArray]
   rw [fT _ _ _ (by simpa using eS)]
   simpa using hA.sz
  ·simp only [EX]
   rw [vg _ _ _ _ hle]
   exact hH
  ·exact hA.part.aw he' hln eS
 refine ⟨w.setRow B.ax (aw cs.toList (B.o+off) u.cells.toList).toArray,?_,hw.change ⟨g,gS⟩ hB (fun b hb=>setRow_other w _ _ _ hb) hgr,⟨rfl,rfl,rfl,by simp⟩⟩
 have h1:u.cells.size=al P t:=by rw [<- cS]; simp
 simp only [Instr.storeAt,Instr.sureAddr,storeVar,Sem.run_bind,Sem.run_pure,Result.andThen_ok,run_sizeOf hi,h1,ne_eq,not_true,if_false]
 exact bE
theorem Cq {P:Program} {s:St} {Γ:Env} {w:World} {t:TypeId} {x:NC} {y:NV} {v u:Value} {c:List Bool} {n:Nat} {g' : aG} {i:TypeInfo} (hw:aQ Γ s.rg w) (hi:P.info? t=some i)
  (hx:CR Γ x v) (hy:cM Γ y u) (h:oa P s t x y=some (c,n,g')) (hc:bT c) :
  ∃ w',(Instr.storeAt t v u).run P w=.ok () w'∧aQ Γ (putAt s.rg n (some g')) w'∧Wd w w':=by
 have O5:=hy.cells
 have hlen:=O5.length
 obtain ⟨hyo,Ey⟩:=hy.my
 unfold oa at h
 split at h
 case isFalse=>cases h
 rename_i auk
 have cS:y.cells.length=al P t:=by rw [Ey]; exact auk
 split at h
 case h_3=>cases h
 case h_1=>
  rename_i r o ww ii cc
  obtain ⟨⟨B,hB,rfl⟩,-⟩:=hx
  split at h
  case h_2=>cases h
  rename_i g hg
  have gS:=(bS s r g).1 hg
  obtain ⟨cs,hA⟩:=hw.at hB gS (by cases hb:g.body <;> first | rfl | (rw [hb] at h; cases h))
  have aH:=hA.body
  split at h
  case h_2=>cases h
  rename_i l hb
  rw [hb] at aH
  split at h
  case h_2=>cases h
  rename_i v hv
  cases h
  have fI:=aH.lK
  obtain ⟨h1,h2,h3⟩:=mO fI hyo hv hc
  obtain ⟨l1,l2,hl,hr,-⟩:=aH
  have Ez:=hr.length
  have EY:(cs.toList.drop B.o).length=l1.length+l2.length:=by rw [hl]; simp
  have Sr:=aZ fI
  have hfv:=aZ h1
  have Ss:=congrArg List.length h3
  rw [cY _ _ _ (by omega)] at Ss
  refine EW hw hi gS hB hA O5 (by rw [<- hlen]; exact cS) (by omega) rfl rfl (fun n hn=>?_) ⟨aw l1 (o+ii * ww+cc) u.cells.toList,l2,by rw [hl,ct _ _ _ _ (by omega)],by rw [h3]; exact hr.aw _ O5,h1⟩
  rw [hb] at hn
  cases hn
  exact ⟨congrArg some (by omega),by omega⟩
 rename_i r ii cc
 obtain ⟨⟨B,hB,rfl⟩,-⟩:=hx
 split at h
 case h_2=>cases h
 rename_i g hg
 have gS:=(bS s r g).1 hg
 obtain ⟨cs,hA⟩:=hw.at hB gS (by cases hb:g.body <;> first | rfl | (rw [hb] at h; cases h))
 have aH:=hA.body
 -- what is wanted of the place and the new body
 suffices H:ii * g.st+cc+u.cells.toList.length<=(cs.toList.drop B.o).length∧n=r∧g'.st=g.st∧g'.e=g.e∧(∀ n,g.body.len=some n->g'.body.len=some n∧ii * g.st+cc+u.cells.toList.length<=n)∧bG Γ g.st g'.body (aw (cs.toList.drop B.o) (ii * g.st+cc) u.cells.toList) by
  obtain ⟨eS,rfl,EX,he',hln,hH⟩:=H
  rw [hA.st]
  exact EW hw hi gS hB hA O5 (by rw [<- hlen]; exact cS) eS EX he' hln hH
 generalize cs.toList.drop B.o=L at aH ⊢
 have ln0:∀ {b:Body} {m:Nat},g.body.len=none->∀ n,g.body.len=some n->b.len=some n∧m<=n:=fun h n hn=>by rw [h] at hn; cases hn
 split at h
 ·rename_i xs hb
  rw [hb] at aH
  obtain ⟨l1,l2,hl,hr⟩:=aH
  split at h
  case isFalse=>cases h
  rename_i eS
  cases h
  have Ez:=hr.length
  have EY:L.length=l1.length+l2.length:=by rw [hl]; simp
  refine ⟨by omega,rfl,rfl,rfl,fun n hn=>?_,aw l1 (ii * g.st+cc) u.cells.toList,l2,?_,hr.aw _ O5⟩
  ·rw [hb] at hn
   cases hn
   exact ⟨congrArg some (cY _ _ _ (by omega)),by omega⟩
  rw [hl,ct _ _ _ _ (by omega)]
 ·rename_i l hb
  rw [hb] at aH
  have fI:=aH.lK
  obtain ⟨l1,l2,hl,hr,-⟩:=aH
  split at h
  case h_2=>cases h
  split at h
  case isFalse=>cases h
  rename_i eS
  split at h
  case h_2=>cases h
  rename_i l' Cr
  cases h
  have Ez:=hr.length
  have EY:L.length=l1.length+l2.length:=by rw [hl]; simp
  have Sr:=aZ fI
  obtain ⟨h1,h2⟩:=fh fI hyo (by rw [NV.dU]; exact Ey) (by omega) Cr
  have hfv:=aZ h1
  have Ss:=congrArg List.length h2
  rw [cY _ _ _ (by rw [NV.dU]; omega)] at Ss
  rw [ayc,ayf]
  refine ⟨by omega,rfl,rfl,rfl,fun n hn=>?_,aw l1 cc u.cells.toList,l2,?_,?_,h1⟩
  ·rw [hb] at hn
   cases hn
   exact ⟨congrArg some (by omega),by omega⟩
  ·rw [hl,ct _ _ _ _ (by omega)]
  ·rw [h2,NV.dU]; exact hr.aw _ O5
 ·rename_i k xs hb
  rw [hb] at aH
  obtain ⟨h1,l2,hl⟩:=aH
  have EY:L.length=xs.length+l2.length:=by rw [hl]; simp
  have hlb:g.body.len=none:=by rw [hb]; rfl
  split at h
  case h_2=>cases h
  split at h
  ·rename_i k' m
   split at h
   case isFalse=>cases h
   rename_i hk
   cases h
   subst hk
   have hii:ii<xs.length:=by simpa [bT] using hc
   obtain ⟨z,hz,hz1⟩:=R2.one O5
   have hz2:z=.int k m:=hz1.1
   rw [hz,hz2,h1]
   simp only [aya]
   refine ⟨by omega,trivial,trivial,trivial,ln0 hlb,rfl,l2,?_⟩
   rw [hl,ct _ _ _ _ (by simp; omega),xE _ _ _ (by simp; omega),gZ]
   simp
  ·cases h
  ·cases h
  ·rename_i ys
   split at h
   case h_2=>cases h
   rename_i l Sv
   split at h
   case isFalse=>cases h
   rename_i hll
   cases h
   have hv:=kA Sv O5
   rw [hv]
   simp only [List.length_map,ayc,ax9]
   refine ⟨by omega,trivial,trivial,trivial,ln0 hlb,h1,l2,?_⟩
   rw [hl]
   simp [aw,hll]
 ·rename_i ks xs hb
  rw [hb] at aH
  obtain ⟨h1,h0,l2,hl⟩:=aH
  have EY:L.length=xs.length * ks.length+l2.length:=by rw [hl]; simp [bB]
  have hlb:g.body.len=none:=by rw [hb]; rfl
  split at h
  ·rename_i y'
   split at h
   case h_2=>cases h
   rename_i k hk
   split at h
   case h_2=>cases h
   rename_i z hz
   cases h
   have hii:ii<xs.length:=by simpa [bT] using hc
   have hcc:cc<ks.length:=(List.getElem?_eq_some_iff.1 hk).1
   obtain ⟨z',hz',hz1⟩:=R2.one O5
   have hz2:=EP hz hz1
   have ff:ii * ks.length+cc<xs.length * ks.length:=by
    have:(ii+1) * ks.length<=xs.length * ks.length:=ax' _ hii
    rw [axH] at this; omega
   rw [hz',hz2,h1]
   simp only [aya]
   refine ⟨by omega,trivial,trivial,trivial,ln0 hlb,rfl,h0,l2,?_⟩
   rw [hl,ct _ _ _ _ (by rw [bB]; simp; omega),xE _ _ _ (by rw [bB]; omega),Cp ks xs ii cc k z hii hk]
  ·cases h
  ·rename_i ys
   split at h
   case h_2=>cases h
   split at h
   ·rename_i O1
    split at h
    case h_2=>cases h
    rename_i row mM
    cases h
    have hii:ii<xs.length:=by simpa [bT] using hc
    have hv:=jV mM O5
    have hle:(ii+1) * ks.length<=xs.length * ks.length:=ax' _ hii
    rw [axH] at hle
    rw [hv,h1]
    simp only [fb,ax9]
    refine ⟨by omega,trivial,trivial,trivial,ln0 hlb,rfl,h0,l2,?_⟩
    rw [hl,ct _ _ _ _ (by rw [bB,fb]; omega),O4 ks xs ii row hii]
   ·split at h
    case h_2=>cases h
    rename_i rows LD
    cases h
    obtain ⟨hv,hn⟩:=ot LD O5
    rw [hv]
    simp only [ayc,ax9]
    have hll:(aL ks rows).length=(aL ks xs).length:=by rw [bB,bB,hn]
    refine ⟨by rw [hll,bB]; omega,trivial,trivial,trivial,ln0 hlb,h1,h0,l2,?_⟩
    rw [hl]
    simp [aw,hll]
 ·cases h
 ·cases h
theorem bQ {a b:Prop} [Decidable a] [Decidable b] (h:bT [decide a,decide b]):a∧b:=by simpa [bT] using h
theorem EZ {P:Program} {op:BinOp} {t:TypeId} {k:IntKind} {x y:Int} {c:List Bool} {r:NC} (w:World) (Γ:Env) (h:R5 op k x y=some (c,r)) (hc:bT c) :
  ∃ u,(binOp op t (.int k x) (.int k y)).run P w=.ok u w∧CR Γ r u:=by
 cases op <;> simp only [R5,Option.some.injEq,Prod.mk.injEq,reduceCtorEq] at h <;> obtain ⟨rfl,rfl⟩:=h <;> refine ⟨_,?_,⟨rfl,rfl⟩⟩
 case quo=>
  have hy:y≠0:=by simpa [bT] using hc
  rw [binOp_quo]; simp [Op.intDiv,hy]
 case rem=>
  have hy:y≠0:=by simpa [bT] using hc
  rw [binOp_rem]; simp [Op.intDiv,hy]
 case and=>rw [binOp_and,intBits_and]; rfl
 case or=>rw [binOp_or,intBits_or]; rfl
 case xor=>rw [binOp_xor,intBits_xor]; rfl
 case andNot=>rw [binOp_andNot,intBits_andNot]; rfl
 all_goals simp [binOp,Op.intArith,Op.intCmp]
theorem cZ {P:Program} (w:World) (t e:TypeId) (a:Option Addr) (n c n' c' : Nat) (h:P.underlying t=some (.slice e)) :
  (binOp .eql t (.slice a n c) (.slice none n' c')).run P w=.ok (.bool a.isNone) w:=by
 simp only [binOp]
 simp [Op.equal,Op.maxDepth,Lib.run_equalIn_slice_nil w 9999 t e a n c n' c' h]
theorem eqGuard_at_slice {op:BinOp} {t:TypeId} {x y:Operand} {v:Value} (a:Option Addr) (n c:Nat):eqGuard op t x y (.slice a n c) v=pure ():=by cases op <;> rfl
theorem lL {P:Program} (w:World) (t e:TypeId) (a:Option Addr) (h:P.underlying t=some (.pointer e)):(binOp .eql t (.pointer a) (.pointer none)).run P w=.ok (.bool a.isNone) w:=by
 have q:∀ d:Nat,(Op.equalIn (d+1) t (.pointer a) (.pointer none)).run P w=.ok a.isNone w:=fun d=>by cases a <;> simp [Op.equalIn,run_underlying h]
 have e' : (Op.equal t (.pointer a) (.pointer none)).run P w=.ok a.isNone w:=q 9999
 simp only [binOp]
 simp [e']
theorem lM {P:Program} (w:World) (t e:TypeId) (a:Option Addr) (h:P.underlying t=some (.pointer e)):(binOp .neq t (.pointer a) (.pointer none)).run P w=.ok (.bool (!a.isNone)) w:=by
 have q:∀ d:Nat,(Op.equalIn (d+1) t (.pointer a) (.pointer none)).run P w=.ok a.isNone w:=fun d=>by cases a <;> simp [Op.equalIn,run_underlying h]
 have e' : (Op.equal t (.pointer a) (.pointer none)).run P w=.ok a.isNone w:=q 9999
 simp only [binOp]
 simp [e']
theorem ov {op:BinOp} {t:TypeId} {x y:Operand} {v:Value} (a:Option Addr):eqGuard op t x y (.pointer a) v=pure ():=by cases op <;> rfl
theorem IC {P:Program} {op:BinOp} {t:TypeId} {a b:NC} {u v:Value} {c:List Bool} {r:NC} {Γ:Env} (w:World) (x y:Operand) (ha:CR Γ a u) (hb:CR Γ b v)
  (h:aiC P op t a b=some (c,r)) (hc:bT c) :
  ∃ z,(do eqGuard op t x y u v; binOp op t u v:Sem Value).run P w=.ok z w∧CR Γ r z:=by
 unfold aiC at h
 split at h
 ·rename_i k m k' n
  obtain ⟨rfl,-⟩:=ha
  obtain ⟨rfl,-⟩:=hb
  rw [eqGuard_at_int]
  simp only [pure_bind]
  split at h
  ·cases h
   have hn:0<=n:=by simpa [bT] using hc
   refine ⟨.int k (bH k m n),?_,rfl,rfl⟩
   have:¬ n<0:=by omega
   simp [binOp,Op.shift,this,bH]
  ·cases h
   have hn:0<=n:=by simpa [bT] using hc
   refine ⟨.int k (aX k m n),?_,rfl,rfl⟩
   have:¬ n<0:=by omega
   simp [binOp,Op.shift,this,aX]
  ·split at h
   ·rename_i e; subst e
    exact EZ w Γ h hc
   ·cases h
 ·rename_i m n
  obtain ⟨rfl,-⟩:=ha
  obtain ⟨rfl,-⟩:=hb
  rw [eqGuard_at_bool]
  simp only [pure_bind]
  split at h
  ·rename_i hu
   split at h <;> first
    | (cases h; done)
    | (cases h; exact ⟨_,run_eql_bool w t m n hu,⟨rfl,rfl⟩⟩)
    | (cases h; exact ⟨_,run_neq_bool w t m n hu,⟨rfl,rfl⟩⟩)
  ·cases h
 ·rename_i m n
  obtain ⟨rfl,-⟩:=ha
  obtain ⟨rfl,-⟩:=hb
  rw [eqGuard_at_string]
  simp only [pure_bind]
  split at h
  ·cases h
   have hn:((m.size+n.size:Nat):Int)<=9223372036854775807:=of_decide_eq_true (hc _ (List.mem_singleton.2 rfl))
   have hm:¬ ((m.size+n.size:Nat):Int) > IntKind.i64.max:=by
    show ¬ ((m.size+n.size:Nat):Int) > 9223372036854775807
    omega
   exact ⟨.string (m++n),by simp only [binOp,Op.stringOp,if_neg hm,Sem.run_pure],⟨rfl,rfl⟩⟩
  ·cases h
   exact ⟨_,by simp only [binOp,Op.stringOp,Sem.run_pure],⟨rfl,rfl⟩⟩
  ·cases h
   exact ⟨_,by simp only [binOp,Op.stringOp,Sem.run_pure],⟨rfl,rfl⟩⟩
  ·cases h
 ·obtain ⟨⟨B,-,rfl⟩,-⟩:=ha
  obtain ⟨rfl,-⟩:=hb
  rw [ov]
  simp only [pure_bind]
  split at h
  ·rename_i e hu
   split at h <;> first
    | (cases h; done)
    | (cases h; exact ⟨_,lL w t e _ hu,⟨rfl,rfl⟩⟩)
    | (cases h; exact ⟨_,lM w t e _ hu,⟨rfl,rfl⟩⟩)
  ·cases h
 ·obtain ⟨rfl,-⟩:=ha
  obtain ⟨rfl,-⟩:=hb
  rw [ov]
  simp only [pure_bind]
  split at h
  ·rename_i e hu
   split at h <;> first
    | (cases h; done)
    | (cases h; exact ⟨_,lL w t e _ hu,⟨rfl,rfl⟩⟩)
    | (cases h; exact ⟨_,lM w t e _ hu,⟨rfl,rfl⟩⟩)
  ·cases h
 ·obtain ⟨⟨B,oo,cap,-,rfl,-⟩,-⟩:=ha
  obtain ⟨rfl,-⟩:=hb
  rw [eqGuard_at_slice]
  simp only [pure_bind]
  split at h
  ·rename_i e hu
   split at h <;> first
    | (cases h; done)
    | (cases h; exact ⟨_,cZ w t e _ _ _ _ _ hu,⟨rfl,rfl⟩⟩)
    | (cases h; exact ⟨_,run_neq_slice_nil_any w t e _ _ _ _ _ hu,⟨rfl,rfl⟩⟩)
  ·cases h
 ·obtain ⟨⟨B,aa,cap,-,rfl,-⟩,-⟩:=ha
  obtain ⟨rfl,-⟩:=hb
  rw [eqGuard_at_slice]
  simp only [pure_bind]
  split at h
  ·rename_i e hu
   split at h <;> first
    | (cases h; done)
    | (cases h; exact ⟨_,cZ w t e _ _ _ _ _ hu,⟨rfl,rfl⟩⟩)
    | (cases h; exact ⟨_,run_neq_slice_nil_any w t e _ _ _ _ _ hu,⟨rfl,rfl⟩⟩)
  ·cases h
 ·obtain ⟨⟨aa,cap,rfl,-,hx⟩,-⟩:=ha
  obtain ⟨rfl,-⟩:=hb
  rw [eqGuard_at_slice]
  simp only [pure_bind]
  split at h
  ·rename_i e hu
   split at h <;> first
    | (cases h; done)
    | skip
   all_goals
    cases h
    have b9:=hc _ (List.mem_singleton.2 rfl)
    rcases hx with rfl | ⟨ax,off,rfl,-⟩
    ·simp at b9
    ·first
      | exact ⟨_,cZ w t e _ _ _ _ _ hu,⟨rfl,rfl⟩⟩
      | exact ⟨_,run_neq_slice_nil_any w t e _ _ _ _ _ hu,⟨rfl,rfl⟩⟩
  ·cases h
 ·obtain ⟨⟨aa,cap,rfl,-,-,hx⟩,-⟩:=ha
  obtain ⟨rfl,-⟩:=hb
  rw [eqGuard_at_slice]
  simp only [pure_bind]
  split at h
  ·rename_i e hu
   split at h <;> first
    | (cases h; done)
    | skip
   all_goals
    cases h
    have b9:=hc _ (List.mem_singleton.2 rfl)
    rcases hx with rfl | ⟨ax,off,rfl,-⟩
    ·simp at b9
    ·first
      | exact ⟨_,cZ w t e _ _ _ _ _ hu,⟨rfl,rfl⟩⟩
      | exact ⟨_,run_neq_slice_nil_any w t e _ _ _ _ _ hu,⟨rfl,rfl⟩⟩
  ·cases h
 ·obtain ⟨rfl,-⟩:=ha
  obtain ⟨rfl,-⟩:=hb
  rw [eqGuard_at_slice]
  simp only [pure_bind]
  split at h
  ·rename_i e hu
   split at h <;> first
    | (cases h; done)
    | (cases h; exact ⟨_,cZ w t e _ _ _ _ _ hu,⟨rfl,rfl⟩⟩)
    | (cases h; exact ⟨_,run_neq_slice_nil_any w t e _ _ _ _ _ hu,⟨rfl,rfl⟩⟩)
  ·cases h
 ·cases h
theorem eqGuard_at_iface {op:BinOp} {t:TypeId} {x y:Operand} {v:Value} (tx:TypeId) (vx:Value):eqGuard op t x y (.iface tx vx) v=pure ():=by cases op <;> rfl
theorem eqGuard_nil_iface {op:BinOp} {t:TypeId} {x y:Operand} (tx:TypeId) (vx:Value):eqGuard op t x y .nilIface (.iface tx vx)=pure ():=by cases op <;> rfl
theorem vU {op:BinOp} {t:TypeId} {x y:Operand} (h:(isConst x||isConst y)=true):eqGuard op t x y .nilIface .nilIface=pure ():=by
 unfold eqGuard
 cases x <;> cases y <;> first | (simp [isConst] at h; done) | (cases op <;> rfl)
theorem Cs {P:Program} {t:TypeId} (h:isIface P t=true):∃ ms,P.underlying t=some (.interface ms):=by
 unfold isIface at h
 split at h
 ·rename_i ms hu; exact ⟨ms,hu⟩
 ·cases h
theorem E0 {P:Program} {gl:List Nat} {t:TypeId} {x y:Operand} {a b:NC} {u v:Value} {r:Bool} {Γ:Env} {rg:List (Option aG)} {w:World} (hw:aQ Γ rg w) (hG:GlobOk gl Γ) (ht:isIface P t=true) (ha:CR Γ a u) (hb:CR Γ b v)
  (h:Lx P gl x y a b=some r):(∀ op,eqGuard op t x y u v=pure ())∧(Op.equal t u v).run P w=.ok r w∧((∃ tx vx,u=.iface tx vx)∨u=.nilIface)∧((∃ tx vx,v=.iface tx vx)∨v=.nilIface):=by
 obtain ⟨ms,hms⟩:=Cs ht
 have er:∀ {k:Nat} {z:Value},gl.tail.contains k=true->CR Γ (.e k) z->∃ ad ca ta,z=.iface (gl.headD 0) (.pointer (some ad))∧Γ.er k=some z∧w.heap[ad.block]? = some (.cells ca ta (0,0)):=by
  intro k z hk hz
  obtain ⟨ad,c,e,fz,ca,ta,h1,h2,h3,h4⟩:=hG.1 k (List.contains_iff_mem.1 hk)
  have hz1:Γ.er k=some z:=hz.1
  rw [h1] at hz1
  cases hz1
  exact ⟨ad,ca,ta,rfl,h1,hw.kp _ _ h4⟩
 unfold Lx at h
 split at h
 ·rename_i k
  split at h
  ·rename_i hk
   cases h
   obtain ⟨ad,ca,ta,rfl,-,-⟩:=er hk ha
   obtain ⟨rfl,-⟩:=hb
   have q:∀ (d:Nat) (tx:TypeId) (vx:Value),(Op.equalIn (d+1) t (.iface tx vx) .nilIface).run P w=.ok false w:=fun d tx vx=>by simp [Op.equalIn,run_underlying hms]
   exact ⟨fun op=>eqGuard_at_iface _ _,q 9999 _ _,.inl ⟨_,_,rfl⟩,.inr rfl⟩
  ·cases h
 ·rename_i k
  split at h
  ·rename_i hk
   cases h
   obtain ⟨ad,ca,ta,rfl,-,-⟩:=er hk hb
   obtain ⟨rfl,-⟩:=ha
   have q:∀ (d:Nat) (tx:TypeId) (vx:Value),(Op.equalIn (d+1) t .nilIface (.iface tx vx)).run P w=.ok false w:=fun d tx vx=>by simp [Op.equalIn,run_underlying hms]
   exact ⟨fun op=>eqGuard_nil_iface _ _,q 9999 _ _,.inr rfl,.inl ⟨_,_,rfl⟩⟩
  ·cases h
 ·split at h
  ·rename_i hc
   cases h
   obtain ⟨rfl,-⟩:=ha
   obtain ⟨rfl,-⟩:=hb
   have q:∀ (d:Nat),(Op.equalIn (d+1) t .nilIface .nilIface).run P w=.ok true w:=fun d=>by simp [Op.equalIn,run_underlying hms]
   exact ⟨fun op=>vU hc,q 9999,.inr rfl,.inr rfl⟩
  ·cases h
 ·rename_i k l
  split at h
  ·rename_i hk
   simp only [Bool.and_eq_true] at hk
   obtain ⟨⟨hty,hk⟩,hl⟩:=hk
   obtain ⟨ad,ca,ta,rfl,e1,c1⟩:=er hk ha
   obtain ⟨bd,cb,tb,rfl,e2,c2⟩:=er hl hb
   unfold agc at hty
   split at hty
   case h_2=>cases hty
   rename_i te hte
   split at hty
   case h_2=>cases hty
   rename_i i j hi hj
   simp only [Bool.and_eq_true,bne_iff_ne] at hty
   refine ⟨fun op=>eqGuard_at_iface _ _,?_,.inl ⟨_,_,rfl⟩,.inl ⟨_,_,rfl⟩⟩
   by_cases O6:k=l
   ·subst O6
    rw [e1] at e2
    cases e2
    cases h
    rw [beq_self_eq_true]
    exact run_equalIn_iface_ptr_same w 9998 ad hms hte hi hty.1 hj
   ·have b9:=hG.2 k (List.contains_iff_mem.1 hk) l (List.contains_iff_mem.1 hl) O6
    have Sq:ad≠bd:=by
     rintro rfl
     exact b9 (e1.trans e2.symm)
    have hr:r=false:=by
     have:(k==l)=false:=by simpa using O6
     rw [this] at h
     cases h
     rfl
    subst hr
    exact run_equalIn_iface_ptr_other w 9998 hms hte hi hty.1 hj hty.2 Sq c1 c2
  ·cases h
 ·cases h
theorem E1 {P:Program} {gl:List Nat} {op:BinOp} {t:TypeId} {x y:Operand} {a b:NC} {u v:Value} {c:List Bool} {r:NC} {Γ:Env} {rg:List (Option aG)} {w:World} (hw:aQ Γ rg w) (hG:GlobOk gl Γ) (ha:CR Γ a u) (hb:CR Γ b v)
  (h:R6 P gl op t x y a b=some (c,r)) (hc:bT c) :
  ∃ z,(do eqGuard op t x y u v; binOp op t u v:Sem Value).run P w=.ok z w∧CR Γ r z:=by
 unfold R6 at h
 split at h
 ·rename_i ht
  have fin:∀ {q:Bool},Lx P gl x y a b=some q->(op=.eql∧r=.b q∨op=.neq∧r=.b (!q))->∃ z,(do eqGuard op t x y u v; binOp op t u v:Sem Value).run P w=.ok z w∧CR Γ r z:=by
   intro q hq hr
   obtain ⟨h1,h2,h3,h4⟩:=E0 hw hG ht ha hb hq
   rw [h1 op]
   simp only [pure_bind]
   rcases hr with ⟨rfl,rfl⟩ | ⟨rfl,rfl⟩
   ·refine ⟨.bool q,?_,rfl,rfl⟩
    rcases h3 with ⟨tx,vx,rfl⟩ | rfl <;> rcases h4 with ⟨ty,vy,rfl⟩ | rfl <;> (simp only [binOp]; simp [h2])
   ·refine ⟨.bool (!q),?_,rfl,rfl⟩
    rcases h3 with ⟨tx,vx,rfl⟩ | rfl <;> rcases h4 with ⟨ty,vy,rfl⟩ | rfl <;> (simp only [binOp]; simp [h2])
  split at h
  ·rename_i q hq; cases h; exact fin hq (.inl ⟨rfl,rfl⟩)
  ·rename_i q hq; cases h; exact fin hq (.inr ⟨rfl,rfl⟩)
  ·cases h
 ·exact IC w x y ha hb h hc
theorem O7 {P:Program} {op:UnOp} {a r:NC} {u:Value} {Γ:Env} (w:World) (ha:CR Γ a u) (h:nun op a=some r):∃ z,(Op.unary op u).run P w=.ok z w∧CR Γ r z:=by
 unfold nun at h
 split at h <;> first
  | (cases h; done)
  | (cases h; obtain ⟨rfl,-⟩:=ha; exact ⟨_,by simp [Op.unary,Op.intArith,Op.intBits]; try rfl,⟨rfl,rfl⟩⟩)
theorem E2 {r o w i c es n:Nat}:(OT r o w i c es n).1=r∧(OT r o w i c es n).2.1+(OT r o w i c es n).2.2.2 * (OT r o w i c es n).2.2.1=o+i * w+c+n * es:=by
 unfold OT
 split
 ·split
  ·rename_i h
   refine ⟨rfl,?_⟩
   simp only [wL,ax8,Nat.mul_assoc]
   rw [axT (w / es) es,ax4 (ax5 h.2)]
   omega
  ·exact ⟨rfl,rfl⟩
 ·exact ⟨rfl,rfl⟩
theorem tX {P:Program} {s:St} {Γ:Env} {w:World} {t:TypeId} {x ix:NC} {v u:Value} {c:List Bool} {r:NS} (hw:aQ Γ s.rg w)
  (hx:CR Γ x v) (hix:CR Γ ix u) (h:iz P s t x ix=some (c,r)) (hc:bT c):∃ z,(Instr.indexAt t v u).run P w=.ok z w∧b5 Γ r z:=by
 unfold iz at h
 split at h
 case h_2=>cases h
 rename_i k n
 obtain ⟨rfl,-⟩:=hix
 split at h
 ·rename_i len e r' o ww i cc hu
  obtain ⟨⟨B,hB,rfl⟩,-⟩:=hx
  split at h
  case isFalse=>cases h
  rename_i hl
  cases h
  obtain ⟨ei,jn,-⟩:=aT hl.2
  have h0:0<=n:=(bQ hc).1
  have h1:n<len:=(bQ hc).2
  obtain ⟨q1,q2⟩:=E2 (r:=r') (o:=o) (w:=ww) (i:=i) (c:=cc) (es:=al P e) (n:=n.toNat)
  refine ⟨.pointer (some ⟨B.ax,B.o+(o+i * ww+cc+n.toNat * al P e),none⟩),?_,⟨⟨B,by rw [q1]; exact hB,by rw [ax9,q2]⟩,rfl⟩⟩
  simp [Instr.indexAt,asIntOf,run_underlying hu,Instr.sureAddr,h0,h1,run_sizeOf jn,Addr.add_lit,aye]
 ·rename_i e r' o ww i len hu
  obtain ⟨⟨B,ad,cap,hB,rfl,eQ,nV,eL⟩,-⟩:=hx
  split at h
  case isFalse=>cases h
  rename_i hl
  cases h
  have h0:0<=n:=(bQ hc).1
  have h1:n<len:=(bQ hc).2
  obtain ⟨ei,jn,-⟩:=aT (P:=P) (t:=e) (by omega)
  rcases eL with rfl | hc0
  ·refine ⟨.pointer (some ⟨B.ax,B.o+(o+(eR i n.toNat) * ww+0),none⟩),?_,⟨⟨B,hB,rfl⟩,rfl⟩⟩
   simp [Instr.indexAt,asIntOf,run_underlying hu,h0,h1,run_sizeOf jn,Addr.add_lit,hl.1,mL,ax8,aye]
  ·omega
 ·rename_i len e r' i cc hu
  obtain ⟨⟨B,hB,rfl⟩,-⟩:=hx
  split at h
  case h_2=>cases h
  rename_i g hg
  have fv:=hw.st hB ((bS s r' g).1 hg)
  split at h
  case isFalse=>cases h
  rename_i hl
  obtain ⟨ei,jn,-⟩:=aT hl.2
  have key:∀ {r0:NS},c=[decide (0<=n),decide (n<len)]->r0=.v (.c (.p r' i (cc+n.toNat * al P e)))->∃ z,(Instr.indexAt t (.pointer (some ⟨B.ax,B.o+(i * B.st+cc),none⟩)) (.int k n)).run P w=.ok z w∧b5 Γ r0 z:=by
   rintro r0 rfl rfl
   have h0:0<=n:=(bQ hc).1
   have h1:n<len:=(bQ hc).2
   refine ⟨.pointer (some ⟨B.ax,B.o+(i * B.st+(cc+n.toNat * al P e)),none⟩),?_,⟨⟨B,hB,rfl⟩,rfl⟩⟩
   simp [Instr.indexAt,asIntOf,run_underlying hu,Instr.sureAddr,h0,h1,run_sizeOf jn,Addr.add_lit,aye]
  split at h
  ·simp only [Option.some.injEq,Prod.mk.injEq] at h
   obtain ⟨z,hz,hr⟩:=key h.1.symm rfl
   refine ⟨z,hz,?_⟩
   rw [<- h.2]
   obtain ⟨⟨B2,hB2,hz2⟩,h1⟩:=hr
   exact ⟨⟨B2,hB2,by rw [hz2,ayc,ayf,ax9]⟩,h1⟩
  ·cases h
  split at h
  ·rename_i cS
   split at h
   ·simp only [Option.some.injEq,Prod.mk.injEq] at h
    obtain ⟨z,hz,hr⟩:=key h.1.symm rfl
    refine ⟨z,hz,?_⟩
    rw [<- h.2]
    obtain ⟨⟨B2,hB2,hz2⟩,h1⟩:=hr
    refine ⟨⟨B2,hB2,?_⟩,h1⟩
    rw [hB] at hB2; cases hB2
    rw [hz2,cS,<- fv,ax8]; simp
   ·simp only [Option.some.injEq,Prod.mk.injEq] at h
    exact key h.1.symm h.2.symm
  ·simp only [Option.some.injEq,Prod.mk.injEq] at h
   exact key h.1.symm h.2.symm
 ·rename_i e r' off len hu
  obtain ⟨⟨B,o,cap,hB,rfl,eQ,nV,dh⟩,-⟩:=hx
  split at h
  case h_2=>cases h
  rename_i g hg
  obtain ⟨cs,hcs,fv,-⟩:=hw.Cg hB ((bS s r' g).1 hg)
  have ho0:=hw.o0 hB ((bS s r' g).1 hg)
  split at h
  case isFalse=>cases h
  rename_i hl
  cases h
  have h0:0<=n:=(bQ hc).1
  have h1:n<len:=(bQ hc).2
  obtain ⟨ei,jn,-⟩:=aT (P:=P) (t:=e) (by omega)
  rcases dh with ⟨rfl,-⟩ | hc0
  ·refine ⟨.pointer (some ⟨B.ax,(off+n.toNat) * B.st+0,none⟩),?_,⟨⟨B,Env.gY hB,by rw [ho0,ayf]⟩,rfl⟩⟩
   simp [Instr.indexAt,asIntOf,run_underlying hu,h0,h1,run_sizeOf jn,Addr.add_lit,hl.1,<- fv,ax8]
  ·omega
 ·rename_i e r' len hu
  obtain ⟨hx,-⟩:=hx
  split at h
  case h_2=>cases h
  rename_i g hg
  split at h
  case isFalse=>cases h
  rename_i hl
  cases h
  have h0:0<=n:=(bQ hc).1
  have h1:n<len:=(bQ hc).2
  rcases hx with ⟨hlen,-⟩ | ⟨B,o,cap,hB,rfl,eQ,nV,dh⟩
  ·omega
  obtain ⟨cs,hcs,fv,-⟩:=hw.Cg hB ((bS s r' g).1 hg)
  have ho0:=hw.o0 hB ((bS s r' g).1 hg)
  obtain ⟨ei,jn,-⟩:=aT (P:=P) (t:=e) (by omega)
  rcases dh with ⟨rfl,-⟩ | hc0
  ·refine ⟨.pointer (some ⟨B.ax,n.toNat * B.st+0,none⟩),?_,⟨⟨B,Env.gY hB,by rw [ho0,ayf]⟩,rfl⟩⟩
   simp [Instr.indexAt,asIntOf,run_underlying hu,h0,h1,run_sizeOf jn,Addr.add_lit,hl.1,<- fv]
  ·omega
 ·rename_i e k' xs hu
  obtain ⟨⟨a,cap,rfl,eQ,dK⟩,-⟩:=hx
  split at h
  case isFalse=>cases h
  rename_i hl
  cases h
  have h0:0<=n:=(bQ hc).1
  have h1:n<xs.length:=(bQ hc).2
  obtain ⟨ei,jn,-⟩:=aT (P:=P) (t:=e) (by omega)
  rcases dK with rfl | ⟨ax,off,rfl,dK⟩
  ·simp at h1; omega
  ·refine ⟨.pointer (some ⟨ax,off+n.toNat,none⟩),?_,⟨⟨ax,off,rfl,dK⟩,rfl⟩⟩
   simp [Instr.indexAt,asIntOf,run_underlying hu,h0,h1,run_sizeOf jn,Addr.add_lit,hl]
 ·rename_i e ks xs hu
  obtain ⟨⟨a,cap,rfl,eQ,jc,dK⟩,-⟩:=hx
  split at h
  case isFalse=>cases h
  rename_i hl
  cases h
  have h0:0<=n:=(bQ hc).1
  have h1:n<xs.length:=(bQ hc).2
  obtain ⟨ei,jn,-⟩:=aT (P:=P) (t:=e) (by omega)
  rcases dK with rfl | ⟨ax,off,rfl,dK⟩
  ·simp at h1; omega
  ·refine ⟨.pointer (some ⟨ax,off+n.toNat * ks.length+0,none⟩),?_,⟨⟨ax,off,rfl,dK⟩,rfl⟩⟩
   simp [Instr.indexAt,asIntOf,run_underlying hu,h0,h1,run_sizeOf jn,Addr.add_lit,hl]
 ·rename_i e sch xs hu
  obtain ⟨⟨a,cap,rfl,eQ,jc,hk,dK⟩,-⟩:=hx
  split at h
  case isFalse=>cases h
  rename_i hl
  cases h
  have h0:0<=n:=(bQ hc).1
  have h1:n<xs.length:=(bQ hc).2
  obtain ⟨ei,jn,-⟩:=aT (P:=P) (t:=e) (by omega)
  rcases dK with rfl | ⟨ax,off,vs,rfl,dK,hr⟩
  ·simp at h1; omega
  ·refine ⟨.pointer (some ⟨ax,off+(n.toNat * aO sch+0),none⟩),?_,⟨⟨ax,off,vs,rfl,jc,hk,dK,hr⟩,rfl⟩⟩
   simp [Instr.indexAt,asIntOf,run_underlying hu,h0,h1,run_sizeOf jn,Addr.add_lit,hl]
 ·cases h
theorem lh {P:Program} {t:TypeId} {f o:Nat} {ft:TypeId} (h:lD P t f=some (o,ft)) :
  ∃ fs x i,P.underlying t=some (.struct fs)∧fs[f]? = some x∧x.offset=o∧x.type=ft∧P.info? ft=some i∧al P ft≠0:=by
 unfold lD at h
 split at h
 ·rename_i fs hu
  split at h
  ·rename_i x hx
   split at h
   ·cases h
   ·rename_i hs
    cases h
    obtain ⟨i,hi,-⟩:=aT (P:=P) (t:=x.type) (by omega)
    exact ⟨fs,x,i,hu,hx,rfl,rfl,hi,hs⟩
  ·cases h
 ·cases h
theorem kI {P:Program} {w:World} {t:TypeId} {f o:Nat} {ft:TypeId} {b q:Nat} (h:lD P t f=some (o,ft)) :
  (Instr.fieldAt t (.pointer (some ⟨b,q,none⟩)) f).run P w=.ok (.pointer (some ⟨b,q+o,none⟩)) w:=by
 obtain ⟨fs,x,i,hu,hx,rfl,rfl,hi,hs⟩:=lh h
 simp [Instr.fieldAt,run_underlying hu,hx,Instr.sureAddr,fieldPlace,run_sizeOf hi,hs,Addr.add_lit]
theorem abi {Γ:Env} {xs l:List NC} {vs:List Value} {o n:Nat} (h:sub xs o n=some l) (r:R2 (CR Γ) xs vs):R2 (CR Γ) l ((vs.drop o).take n)∧l.length=n:=by
 unfold sub at h
 simp only at h
 split at h
 ·rename_i e; cases h; exact ⟨(r.drop _).take _,e⟩
 ·cases h
theorem O8 {P:Program} {w:World} {Γ:Env} {t:TypeId} {f o:Nat} {ft:TypeId} {xs:List NC} {vs:List Value} (h:lD P t f=some (o,ft)) (r:R2 (CR Γ) xs vs) :
  (∀ l,b4 P ft=true->(P.underlying ft).isSome=true->sub xs o (al P ft)=some l->∃ z,(Instr.field t (.agg vs.toArray) f).run P w=.ok z w∧b5 Γ (.v (.ag l)) z)∧
  (∀ y,b4 P ft=false->(P.underlying ft).isSome=true->xs[o]? = some y->∃ z,(Instr.field t (.agg vs.toArray) f).run P w=.ok z w∧b5 Γ (.v (.c y)) z):=by
 obtain ⟨fs,x,i,hu,hx,rfl,rfl,hi,hs⟩:=lh h
 constructor
 ·intro l ha hd lg
  obtain ⟨d,hd⟩:=Option.isSome_iff_exists.1 hd
  obtain ⟨hr,hl⟩:=abi lg r
  refine ⟨.agg ((vs.drop x.offset).take (al P x.type)).toArray,?_,⟨_,rfl,hr⟩⟩
  simp [Instr.field,run_underlying hu,hx,part,dI hd,ha,asAgg,run_sizeOf hi]
 ·intro y ha hd hy
  obtain ⟨d,hd⟩:=Option.isSome_iff_exists.1 hd
  obtain ⟨z,hz,hr⟩:=r.get hy
  exact ⟨z,by simp [Instr.field,run_underlying hu,hx,part,dI hd,ha,asAgg,hz],hr⟩
def Sw (Γ:Env):Option NC->Option Value->Prop
 | none,v=>v=none
 | some x,v=>∃ u,v=some u∧CR Γ x u
theorem du {P:Program} {w:World} {Γ:Env} {isS:Bool} {len cap:Nat} {lo hi:Option NC} {vl vh:Option Value} {c:List Bool} {a b:Nat} (hl:Sw Γ lo vl) (hh:Sw Γ hi vh)
  (eQ:len<=cap) (h:sliceB len lo hi=some (c,a,b)) (hc:bT c) :
  (Instr.sliceBounds isS len cap vl vh none).run P w=.ok (a,b,cap) w∧a<=b∧b<=len:=by
 unfold sliceB at h
 split at h <;> try (cases h; done)
 ·cases h
  cases hl; cases hh
  exact ⟨by simp [Instr.sliceBounds],by omega,by omega⟩
 ·rename_i k n
  cases h
  cases hl
  obtain ⟨u,rfl,rfl,-⟩:=hh
  obtain ⟨h0,h1⟩:=bQ hc
  refine ⟨?_,by omega,by omega⟩
  have h2:n<=cap:=by omega
  simp [Instr.sliceBounds,Instr.sliceBound,asIntOf,h0,h2]
 ·rename_i k n
  cases h
  cases hh
  obtain ⟨u,rfl,rfl,-⟩:=hl
  obtain ⟨h0,h1⟩:=bQ hc
  refine ⟨?_,by omega,by omega⟩
  simp [Instr.sliceBounds,Instr.sliceBound,asIntOf,h0,h1]
 ·rename_i k m k' n
  cases h
  obtain ⟨u,rfl,rfl,-⟩:=hl
  obtain ⟨u,rfl,rfl,-⟩:=hh
  have lJ : 0<=m∧m<=n∧n<=len:=by simpa [bT] using hc
  obtain ⟨h0,h1,h2⟩:=lJ
  refine ⟨?_,by omega,by omega⟩
  have h3:0<=n:=by omega
  have h4:n<=cap:=by omega
  have h5:(n.toNat:Int)=n:=Int.toNat_of_nonneg h3
  simp [Instr.sliceBounds,Instr.sliceBound,asIntOf,h0,h3,h4,h1,h5]
theorem dQ {P:Program} {w:World} {t e:TypeId} {i:TypeInfo} {a:Option Addr} {len cap l h:Nat} {vl vh:Option Value} (hu:P.underlying t=some (.slice e)) (hi:P.info? e=some i)
  (hb:(Instr.sliceBounds true len cap vl vh none).run P w=.ok (l,h,cap) w) :
  (Instr.sliceAt t (.slice a len cap) vl vh none).run P w=.ok (.slice (if cap=l then a else a.map (·.add (l * al P e))) (h - l) (cap - l)) w:=by
 simp [Instr.sliceAt,run_underlying hu,Instr.slice,hb,run_sizeOf hi]
theorem Sy {xs:List Int} {k:IntKind} {a b j:Nat} {v:Value} (h:(((xs.take b).drop a).map (Value.int k))[j]? = some v):(xs.map (Value.int k))[a+j]? = some v:=by
 rw [ax3,ax2,axR,axQ] at h
 split at h
 ·exact h
 ·cases h
theorem O9 {ks:List CK} {xs:List (List Sc)} {a b j:Nat} {v:Value} (h:(aL ks ((xs.take b).drop a))[j]? = some v):(aL ks xs)[a * ks.length+j]? = some v:=by
 rw [<- gu,<- eF,axR,axQ] at h
 split at h
 ·exact h
 ·cases h
theorem dE.shift {Γ:Env} {b o d:Nat} {vs vs' : List Value} (h:dE Γ b o vs) (hs:∀ (j:Nat) (v:Value),vs'[j]? = some v->vs[d+j]? = some v):dE Γ b (o+d) vs':=by
 obtain ⟨h1,c,e,fz,h2,h3⟩:=h
 exact ⟨h1,c,e,fz,h2,fun j x hj=>by rw [aye]; exact h3 _ _ (hs j x hj)⟩
theorem Ct {P:Program} {s:St} {Γ:Env} {w:World} {t:TypeId} {x:NC} {v:Value} {lo hi:Option NC} {vl vh:Option Value} {c:List Bool} {r:NS} (hw:aQ Γ s.rg w)
  (hx:CR Γ x v) (hl:Sw Γ lo vl) (hh:Sw Γ hi vh) (h:tN P s t x lo hi=some (c,r)) (hc:bT c) :
  ∃ z,(Instr.sliceAt t v vl vh none).run P w=.ok z w∧b5 Γ r z:=by
 unfold tN at h
 have arr:∀ {n:Nat} {e:TypeId} {B:cR} {ad a b:Nat} {cs:List Bool},P.underlying t=some (.array n e)->0<al P e->n<=1000000->sliceB n lo hi=some (cs,a,b)->bT cs->
   (Instr.sliceAt t (.pointer (some ⟨B.ax,ad,none⟩)) vl vh none).run P w=.ok (.slice (some ⟨B.ax,if n=a then ad else ad+a * al P e,none⟩) (b - a) (n - a)) w∧b - a<=n - a∧n - a<=maxLen:=by
  intro n e B ad a b cs hu h0 hn z7 hcs
  obtain ⟨ei,jn,-⟩:=aT h0
  obtain ⟨hb,Sq,Sz⟩:=du (P:=P) (w:=w) (isS:=false) hl hh (axB _) z7 hcs
  refine ⟨?_,by omega,by simp only [maxLen]; omega⟩
  have bE:(Instr.sliceAt t (.pointer (some ⟨B.ax,ad,none⟩)) vl vh none).run P w=.ok (.slice (some (if n=a then ⟨B.ax,ad,none⟩ else (⟨B.ax,ad,none⟩:Addr).add (a * al P e))) (b - a) (n - a)) w:=by
   simp [Instr.sliceAt,run_underlying hu,Instr.sureAddr,hb,run_sizeOf jn]
  rw [bE]
  split <;> simp [Addr.add_lit]
 split at h
 ·rename_i n e r' o ww i cc hu
  obtain ⟨⟨B,hB,rfl⟩,-⟩:=hx
  split at h
  case h_2=>cases h
  rename_i cs a b z7
  split at h
  case isFalse=>cases h
  rename_i cS
  cases h
  obtain ⟨bE,hle,SA⟩:=arr (B:=B) (ad:=B.o+(o+i * ww+cc)) hu cS.1 cS.2 z7 hc
  obtain ⟨q1,q2⟩:=E2 (r:=r') (o:=o) (w:=ww) (i:=i) (c:=cc) (es:=al P e) (n:=a)
  refine ⟨_,bE,⟨⟨B,_,n - a,by rw [q1]; exact hB,rfl,hle,SA,?_⟩,rfl⟩⟩
  by_cases e1:n=a
  ·right; omega
  ·left; rw [if_neg e1,q2]; omega
 ·rename_i n e r' cc hu
  obtain ⟨⟨B,hB,rfl⟩,-⟩:=hx
  split at h
  case h_2=>cases h
  rename_i g cs a b hg z7
  split at h
  case isFalse=>cases h
  rename_i cS
  cases h
  obtain ⟨bE,hle,SA⟩:=arr (B:=B) (ad:=B.o+(0 * B.st+cc)) hu cS.2.1 cS.2.2 z7 hc
  refine ⟨_,bE,⟨⟨B,_,n - a,hB,rfl,hle,SA,?_⟩,rfl⟩⟩
  by_cases e1:n=a
  ·right; omega
  ·left; rw [if_neg e1,ayc,ayf]; omega
 ·rename_i e r' o ww i len hu
  obtain ⟨⟨B,ad,cap,hB,rfl,eQ,nV,eL⟩,-⟩:=hx
  split at h
  case h_2=>cases h
  rename_i c' a b z7
  split at h
  case isFalse=>cases h
  rename_i cS
  cases h
  obtain ⟨ei,jn,-⟩:=aT (P:=P) (t:=e) (by omega)
  obtain ⟨hb,Sq,Sz⟩:=du (P:=P) (w:=w) (isS:=true) hl hh eQ z7 hc
  refine ⟨_,dQ hu jn hb,⟨⟨B,if cap=a then ad else ad+a * al P e,cap - a,hB,?_,by omega,by omega,?_⟩,rfl⟩⟩
  ·split <;> simp [Addr.add_lit]
  ·rcases eL with rfl | h0
   ·by_cases vV:cap=a
    ·right; omega
    ·left
     rw [if_neg vV,cS.1,mL,ax8]; omega
   ·right; omega
 ·rename_i e r' off len hu
  obtain ⟨⟨B,o,cap,hB,rfl,eQ,nV,dh⟩,-⟩:=hx
  split at h
  case h_2=>cases h
  rename_i g c' a b hg z7
  split at h
  case isFalse=>cases h
  rename_i cS
  cases h
  obtain ⟨cs,hcs,fv,-⟩:=hw.Cg hB ((bS s r' g).1 hg)
  obtain ⟨ei,jn,-⟩:=aT (P:=P) (t:=e) (by omega)
  obtain ⟨hb,Sq,Sz⟩:=du (P:=P) (w:=w) (isS:=true) hl hh eQ z7 hc
  refine ⟨_,dQ hu jn hb,⟨⟨B,if cap=a then o else o+a * al P e,cap - a,hB,?_,by omega,by omega,?_⟩,rfl⟩⟩
  ·split <;> simp [Addr.add_lit]
  ·rcases dh with ⟨rfl,h2⟩ | h0
   ·by_cases vV:cap=a
    ·right; omega
    ·left
     rw [if_neg vV,cS.1,<- fv]
     refine ⟨by rw [ax8],?_⟩
     rw [show off+a+(cap - a)=off+cap by omega]; exact h2
   ·right; omega
 ·rename_i e r' len hu
  obtain ⟨hx,-⟩:=hx
  split at h
  case h_2=>cases h
  rename_i g c' a b hg z7
  split at h
  case isFalse=>cases h
  rename_i cS
  cases h
  have Ch:0<len:=of_decide_eq_true (hc _ List.mem_cons_self)
  have hc:bT c':=fun b hb=>hc b (List.mem_cons_of_mem _ hb)
  rcases hx with ⟨hlen,-⟩ | ⟨B,o,cap,hB,rfl,eQ,nV,dh⟩
  ·omega
  obtain ⟨cs,hcs,fv,-⟩:=hw.Cg hB ((bS s r' g).1 hg)
  obtain ⟨ei,jn,-⟩:=aT (P:=P) (t:=e) (by omega)
  obtain ⟨hb,Sq,Sz⟩:=du (P:=P) (w:=w) (isS:=true) hl hh eQ z7 hc
  refine ⟨_,dQ hu jn hb,⟨⟨B,if cap=a then o else o+a * al P e,cap - a,hB,?_,by omega,by omega,?_⟩,rfl⟩⟩
  ·split <;> simp [Addr.add_lit]
  ·rcases dh with ⟨rfl,h2⟩ | h0
   ·by_cases vV:cap=a
    ·right; omega
    ·left
     rw [if_neg vV,cS.1,<- fv,ayc,ayf]
     refine ⟨rfl,?_⟩
     rw [show a+(cap - a)=0+cap by omega]; exact h2
   ·right; omega
 ·rename_i e k xs hu
  obtain ⟨⟨a',cap,rfl,eQ,dK⟩,-⟩:=hx
  split at h
  case h_2=>cases h
  rename_i c' a b z7
  split at h
  case isFalse=>cases h
  rename_i cS
  cases h
  obtain ⟨ei,jn,-⟩:=aT (P:=P) (t:=e) (by omega)
  obtain ⟨hb,Sq,Sz⟩:=du (P:=P) (w:=w) (isS:=true) hl hh eQ z7 hc
  have hlen:((xs.take b).drop a).length=b - a:=by simp; omega
  refine ⟨_,dQ hu jn hb,⟨⟨if cap=a then a' else a'.map (·.add (a * al P e)),cap - a,by rw [hlen],by rw [hlen]; omega,?_⟩,rfl⟩⟩
  by_cases he:b - a=0
  ·left; exact ayb (by rw [hlen]; exact he)
  ·right
   rcases dK with rfl | ⟨ax,off,rfl,dK⟩
   ·simp at Sz; omega
   ·refine ⟨ax,off+a,?_,dK.shift fun j v hj=>Sy hj⟩
    rw [if_neg (by omega),cS]; simp [Addr.add_lit]
 ·rename_i e ks xs hu
  obtain ⟨⟨a',cap,rfl,eQ,jc,dK⟩,-⟩:=hx
  split at h
  case h_2=>cases h
  rename_i c' a b z7
  split at h
  case isFalse=>cases h
  rename_i cS
  cases h
  obtain ⟨ei,jn,-⟩:=aT (P:=P) (t:=e) (by omega)
  obtain ⟨hb,Sq,Sz⟩:=du (P:=P) (w:=w) (isS:=true) hl hh eQ z7 hc
  have hlen:((xs.take b).drop a).length=b - a:=by simp; omega
  refine ⟨_,dQ hu jn hb,⟨⟨if cap=a then a' else a'.map (·.add (a * al P e)),cap - a,by rw [hlen],by rw [hlen]; omega,jc,?_⟩,rfl⟩⟩
  by_cases he:b - a=0
  ·left; exact ayb (by rw [hlen]; exact he)
  ·right
   rcases dK with rfl | ⟨ax,off,rfl,dK⟩
   ·simp at Sz; omega
   ·refine ⟨ax,off+a * ks.length,?_,dK.shift fun j v hj=>O9 hj⟩
    rw [if_neg (by omega),cS]; simp [Addr.add_lit]
 ·rename_i e sch xs hu
  obtain ⟨⟨a',cap,rfl,eQ,jc,hk,dK⟩,-⟩:=hx
  split at h
  case h_2=>cases h
  rename_i c' a b z7
  split at h
  case isFalse=>cases h
  rename_i cS
  cases h
  obtain ⟨ei,jn,-⟩:=aT (P:=P) (t:=e) (by omega)
  obtain ⟨hb,Sq,Sz⟩:=du (P:=P) (w:=w) (isS:=true) hl hh eQ z7 hc
  have hlen:((xs.take b).drop a).length=b - a:=by simp; omega
  refine ⟨_,dQ hu jn hb,⟨⟨if cap=a then a' else a'.map (·.add (a * al P e)),cap - a,by rw [hlen],by rw [hlen]; omega,jc,(hk.take b).drop a,?_⟩,rfl⟩⟩
  by_cases he:b - a=0
  ·left; exact ayb (by rw [hlen]; exact he)
  ·right
   rcases dK with rfl | ⟨ax,off,vs,rfl,dK,hr⟩
   ·simp at Sz; omega
   ·refine ⟨ax,off+a * aO sch,(vs.take (b * aO sch)).drop (a * aO sch),?_,dK.shift fun j v hj=>?_,?_⟩
    ·rw [if_neg (by omega),cS]; simp [Addr.add_lit]
    ·rw [axR,axQ] at hj
     split at hj
     ·exact hj
     ·cases hj
    ·rw [<- mU (hk.take b),<- gn hk]
     exact (hr.take _).drop _
 ·rename_i z hu
  obtain ⟨rfl,-⟩:=hx
  split at h
  case h_2=>cases h
  rename_i c' a b z7
  cases h
  obtain ⟨hb,Sq,Sz⟩:=du (P:=P) (w:=w) (isS:=false) hl hh (axB _) z7 hc
  exact ⟨.string (z.extract a b),by simp [Instr.sliceAt,run_underlying hu,Instr.slice,hb],⟨rfl,rfl⟩⟩
 ·rename_i e hu
  obtain ⟨rfl,-⟩:=hx
  split at h
  case h_2=>cases h
  rename_i c' a b z7
  split at h
  case isFalse=>cases h
  rename_i cS
  cases h
  obtain ⟨ei,jn,-⟩:=aT cS
  obtain ⟨hb,Sq,Sz⟩:=du (P:=P) (w:=w) (isS:=true) hl hh (axB _) z7 hc
  have ha0:a=0:=by omega
  have hb0:b=0:=by omega
  subst ha0 hb0
  have:=dQ (a:=none) hu jn hb
  exact ⟨_,this,by simp; exact ⟨rfl,rfl⟩⟩
 ·cases h
theorem E3 {Γ:Env} {xs:List NC} {k:IntKind} {l:List Int} {vs:List Value} (h:BZ xs=some (k,l)) (r:R2 (CR Γ) xs vs):vs=l.map (.int k):=by
 cases xs with
 | nil=>simp [BZ] at h
 | cons x xs=>
   cases x <;> simp only [BZ,reduceCtorEq] at h
   split at h
   ·rename_i l' hl
    cases h
    cases r with
    | cons r1 r2=>rw [kA hl r2,show _=_ from r1.1]; rfl
   ·cases h
theorem se {Γ:Env}:∀ {xs:List NC} {l:List Bool} {vs:List Value},wG xs=some l->R2 (CR Γ) xs vs->vs=l.map .bool
 | [],l,vs,h,r=>by
   cases h
   cases r
   rfl
 | x::xs,l,vs,h,r=>by
   cases x <;> simp only [wG,reduceCtorEq] at h
   split at h
   ·rename_i l' hl
    cases h
    cases r with
    | cons r1 r2=>rw [se hl r2,show _=_ from r1.1]; rfl
   ·cases h
theorem Cu {P:Program} {Γ:Env} {w:World} {t:TypeId} {x:NS} {ix:NC} {v u:Value} {c:List Bool} {r:NS}
  (hx:b5 Γ x v) (hix:CR Γ ix u) (h:It P t x ix=some (c,r)) (hc:bT c):∃ z,(Instr.index t v u).run P w=.ok z w∧b5 Γ r z:=by
 unfold It at h
 split at h
 case h_2=>cases h
 rename_i k n
 obtain ⟨rfl,-⟩:=hix
 split at h
 ·rename_i z hu
  obtain ⟨rfl,-⟩:=hx
  cases h
  obtain ⟨h0,h1⟩:=bQ hc
  have h2:n.toNat<z.size:=by omega
  refine ⟨.int .u8 (cA z n.toNat),?_,⟨rfl,rfl⟩⟩
  have h3:z[n.toNat]? = some z[n.toNat]:=getElem?_pos z n.toNat h2
  have h4:z.data.getD n.toNat 0=z[n.toNat]:=by
   have h5:n.toNat<z.data.size:=h2
   rw [Array.getD_eq_getD_getElem?,Array.getElem?_eq_getElem h5]; rfl
  simp [Instr.index,asIntOf,run_underlying hu,h0,h3,cA,h4]
 ·rename_i len e l hu
  obtain ⟨vs,rfl,hr,fI⟩:=hx
  split at h
  case isFalse=>cases h
  rename_i cS
  split at h
  case h_2=>cases h
  rename_i d v hd hv
  split at h
  case isFalse=>cases h
  rename_i ID
  simp only [Option.some.injEq,Prod.mk.injEq] at h
  obtain ⟨rfl,rfl⟩:=h
  have h0:0<=n:=by simpa using hc (decide (0<=n)) (by simp)
  have h1:n<len:=by simpa using hc (decide (n<len)) (by simp)
  have hg:=jC fI hv (fun b hb=>hc b (by simp [hb]))
  rw [ayf,ax9] at hg
  obtain ⟨ei,jn,-⟩:=aT cS
  cases ha:b4 P e with
  | true=>
    obtain ⟨g1,g2,g3,g4⟩:=hg.all ha
    have lz : R2 (CR Γ) v.2.cells ((vs.drop (n.toNat * al P e)).take (al P e)):=g1 ▸ (hr.drop _).take _
    refine ⟨.agg ((vs.drop (n.toNat * al P e)).take (al P e)).toArray,?_,iZ lz g3 g4⟩
    simp [Instr.index,asIntOf,run_underlying hu,h0,h1,run_sizeOf jn,part,dI hd,ha]
  | false=>
    rw [ha,Bool.false_or,beq_iff_eq] at ID
    obtain ⟨x,gx,g1⟩:=hg.one ha
    rw [ID,Nat.mul_one] at g1
    obtain ⟨z,hz,lz⟩:=hr.get g1
    refine ⟨z,?_,by rw [gx]; exact lz⟩
    simp [Instr.index,asIntOf,run_underlying hu,h0,h1,run_sizeOf jn,part,dI hd,ha,ID,hz]
 ·rename_i len e xs hu
  obtain ⟨vs,rfl,hr⟩:=hx
  split at h
  ·rename_i ha
   split at h
   case isFalse=>cases h
   rename_i cS
   cases h
   obtain ⟨h0,h1⟩:=bQ hc
   obtain ⟨ei,jn,-⟩:=aT cS
   obtain ⟨d,hd⟩:∃ d,P.underlying e=some d:=by
    cases hd:P.underlying e with
    | none=>simp [b4,hd] at ha
    | some d=>exact ⟨d,rfl⟩
   refine ⟨.agg ((vs.drop (n.toNat * al P e)).take (al P e)).toArray,?_,⟨_,rfl,(hr.drop _).take _⟩⟩
   simp [Instr.index,asIntOf,run_underlying hu,h0,h1,run_sizeOf jn,part,dI hd,ha]
  ·rename_i ha
   split at h
   case isFalse=>cases h
   rename_i cS
   split at h
   ·rename_i k' l O'
    split at h
    case isFalse=>cases h
    rename_i hlen
    split at h
    case h_2=>cases h
    rename_i de hde
    cases h
    obtain ⟨h0,h1⟩:=bQ hc
    obtain ⟨ei,jn,-⟩:=aT (P:=P) (t:=e) (by omega)
    have hv:=E3 O' hr
    subst hv
    refine ⟨.int k' (l.getD n.toNat 0),?_,⟨rfl,rfl⟩⟩
    have h2:n.toNat<l.length:=by omega
    simp [Instr.index,asIntOf,run_underlying hu,h0,h1,run_sizeOf jn,part,dI hde,ha,cS,axF,h2]
   ·split at h
    case h_2=>cases h
    rename_i l O'
    split at h
    case isFalse=>cases h
    rename_i hlen
    split at h
    case h_2=>cases h
    rename_i de hde
    cases h
    obtain ⟨h0,h1⟩:=bQ hc
    obtain ⟨ei,jn,-⟩:=aT (P:=P) (t:=e) (by omega)
    have hv:=se O' hr
    subst hv
    refine ⟨.bool (l.getD n.toNat false),?_,⟨rfl,rfl⟩⟩
    have h2:n.toNat<l.length:=by omega
    simp [Instr.index,asIntOf,run_underlying hu,h0,h1,run_sizeOf jn,part,dI hde,ha,cS,axF,h2]
 ·cases h
end Go.Nx
