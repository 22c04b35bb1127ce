/-
  Joined: EngC, Pbits, Pbv, Eng25, Num, PkA, PkB, PkC, PkD, PkE, AcA, Eng32, Eng33, Eng34, Eng35, AqA, AqB, AqC, AqD, AqE, AqF, MapF, AqG, AqH, AqI.
-/
import Derived.Test.YtbmpbafemefepaaGreatDoorWs3
import Derived.RowKit3
import Derived.Below
import Derived.ChangeArms
import Derived.ProofKit
import Derived.OpenShut
import Derived.ShutString
import Derived.ChangeOld
import Derived.Carry
import Derived.OrdersIn
import Derived.Laws.Bits128
import Derived.LaidLaws
import Derived.LaidMore
import Derived.Test.YtbmpbafemefepaaGreatDoorRows
set_option maxRecDepth 100000
set_option linter.unusedVariables false
namespace Go.Nx
open Go Go.RowKit
def topEnv (w:World) (er:Nat→Option Value):Env:={μ:=fun _=>none,kp:=fun b=>w.heap[b]?,ro:=fun b=>decide (b<w.heap.size),er:=er}
theorem topEnv_w (w:World) (er:Nat→Option Value):WRel (topEnv w er) [] w:=by
 refine ⟨fun n g h=>by simp at h,fun n m B B' _ h=>?_,fun b o h=>h,fun n B h=>?_,fun b h=>?_⟩
 ·obtain ⟨g,h⟩:=h; simp at h
 ·obtain ⟨g,h⟩:=h; simp at h
 ·have hb:b<w.heap.size:=by simpa [topEnv] using h
  exact ⟨w.heap[b],Array.getElem?_eq_getElem hb⟩
structure Holds {α:Type} (t:Tr α) (R:α→Prop):Prop where
 run:t.run R
theorem known_inl {P:Program} {gl:List Nat} {f:FuncId} {fn:Func} {c:Code} {con:FuncId→Option Con} (hf:P.funcs[f]? = some fn) (hb:fn.body=some c) (hname:(fn.name=="runtime.NumGoroutine")=false) (hm:P.follows .mixedOrders=true)
  (hcon:∀ f T,con f=some T→Known P gl f T) (hl:loopsIn c=[]):Known P gl f (fun args regs=>nfun P gl con [] fn args regs):=
 known_of hf hb hname hm fun _ _ _ h=>⟨con,[],hcon,⟨fun id body hi=>(by rw [hl] at hi; cases hi),fun id body _ x hx=>(by cases hx)⟩,h⟩
theorem known_inlF {P:Program} {gl:List Nat} {f:FuncId} {fn:Func} {c:Code} {con:FuncId→Option Con} (hf:P.funcs[f]? = some fn) (hb:fn.body=some c) (hname:(fn.name=="runtime.NumGoroutine")=false) (hm:P.follows .mixedOrders=true)
  (hcon:∀ f T,con f=some T→Known P gl f T) (hl:loopsIn c=[]):KnownF P gl f (fun args regs=>nfun P gl con [] fn args regs):=
 known_ofF hf hb hname hm fun _ _ _ h=>⟨con,[],hcon,⟨fun id body hi=>(by rw [hl] at hi; cases hi),fun id body _ x hx=>(by cases hx)⟩,h⟩
theorem LAll.list {X:Cx} {c:Code} {ls:List (Nat × Code)} (hl:loopsIn c=ls) (h:∀ p∈ls,∀ x,X.loops.find? (·.1==p.1)=some x→LOk X.P X.glob X.m p.1 p.2 x.2.2) (hr:rangesIn c=[]:=by kernel_rfl):LAll X c:=by
 refine ⟨fun id body hb x hx=>?_,fun id body hb=>by rw [hr] at hb; cases hb⟩
 rw [hl] at hb
 exact h (id,body) hb x hx
theorem LAll.none {X:Cx} {c:Code} (hl:loopsIn c=[]) (hr:rangesIn c=[]:=by kernel_rfl):LAll X c:=LAll.list hl (fun p hp=>by cases hp) hr
theorem LAll.one {X:Cx} {c:Code} {id:Nat} {body:Code} {live:List Nat} {L:St→Tr (NExit × St)} (hl:loopsIn c=[(id,body)]) (hx:X.loops=[(id,live,L)]) (h:LOk X.P X.glob X.m id body L) (hr:rangesIn c=[]:=by kernel_rfl):LAll X c:=
 LAll.list hl (hr:=hr) fun p hp x hf=>by
  rw [List.mem_singleton] at hp
  subst hp
  rw [hx] at hf
  simp at hf
  subst hf
  exact h
theorem known_loops {P:Program} {gl:List Nat} {f:FuncId} {fn:Func} {c:Code} {con:FuncId→Option Con} {loops:List (Nat × List Nat × (St→Tr (NExit × St)))} (m:Nat) (hf:P.funcs[f]? = some fn) (hb:fn.body=some c) (hname:(fn.name=="runtime.NumGoroutine")=false) (hm:P.follows .mixedOrders=true)
  (hcon:∀ f T,con f=some T→Known P gl f T) (hl:LAll {P:=P,con:=con,glob:=gl,m:=m,loops:=loops} c):Known P gl f (fun args regs=>if regs.length=m then nfun P gl con loops fn args regs else .fail):=
 known_of hf hb hname hm fun args regs R h=>by
  by_cases e:regs.length=m
  ·rw [if_pos e] at h
   exact ⟨con,loops,hcon,e ▸ hl,h⟩
  ·rw [if_neg e] at h
   exact h.elim
theorem known_loopsF {P:Program} {gl:List Nat} {f:FuncId} {fn:Func} {c:Code} {con:FuncId→Option Con} {loops:List (Nat × List Nat × (St→Tr (NExit × St)))} (m:Nat) (hf:P.funcs[f]? = some fn) (hb:fn.body=some c) (hname:(fn.name=="runtime.NumGoroutine")=false) (hm:P.follows .mixedOrders=true)
  (hcon:∀ f T,con f=some T→Known P gl f T) (hl:LAll {P:=P,con:=con,glob:=gl,m:=m,loops:=loops} c):KnownF P gl f (fun args regs=>if regs.length=m then nfun P gl con loops fn args regs else .fail):=
 known_ofF hf hb hname hm fun args regs R h=>by
  by_cases e:regs.length=m
  ·rw [if_pos e] at h
   exact ⟨con,loops,hcon,e ▸ hl,h⟩
  ·rw [if_neg e] at h
   exact h.elim
theorem KnownF.less {P:Program} {gl:List Nat} {f:FuncId} {T T' : Con} (hk:KnownF P gl f T) (h:∀ args regs R,(T' args regs).run R→(T args regs).run R):KnownF P gl f T':=
 ⟨hk.goes,fun args regs R hr=>hk.sound args regs R (h args regs R hr)⟩
theorem Known.less {P:Program} {gl:List Nat} {f:FuncId} {T T' : Con} (hk:Known P gl f T) (h:∀ args regs R,(T' args regs).run R→(T args regs).run R):Known P gl f T':=
 ⟨hk.goes,fun args regs R hr=>hk.sound args regs R (h args regs R hr)⟩
theorem con_none {P:Program} {gl:List Nat}:∀ (f:FuncId) (T:Con),(fun _=>Option.none:FuncId→Option Con) f=some T→Known P gl f T:=fun _ _ h=>by cases h
end Go.Nx
namespace Go.Nx
open Go
inductive Leaf where
 | i (n:Int)
 | b (x:Bool)
 | s (z:ByteArray)
 | l (xs:List Int)
 | r (xs:List (List Sc))
 | n (k:Nat)
inductive Pat where
 | dead
 | i (k:IntKind)
 | b
 | s
 | l (k:IntKind)
 | lr (ks:List CK)
 | h (r off:Nat)
 | p (r i c:Nat)
 | sn
 | pn
 | en
 | rs (ks:List CK) (n:Nat)
 | is (k:IntKind) (n:Nat)
 | ag (ks:List CK)
inductive SPat where
 | cells (l:List Pat)
 | ints (k:IntKind) (n:Nat)
 | recs (ks:List CK) (n:Nat)
inductive RPat where
 | gone
 | ints (st:Nat) (e:TypeId) (k:IntKind)
 | recs (st:Nat) (e:TypeId) (ks:List CK)
 | cells (st:Nat) (e:TypeId) (l:List Pat)
 | sg (st:Nat) (e:TypeId) (l:List SPat)
def Pat.readC:Pat→NC→Option (List Leaf)
 | .i k,.i k' n=>if k=k' then some [.i n] else none
 | .b,.b x=>some [.b x]
 | .s,.s z=>some [.s z]
 | .l k,.l k' xs=>if k=k' then some [.l xs] else none
 | .lr ks,.lr ks' xs=>if ks=ks' then some [.r xs] else none
 | .h r o,.h r' o' n=>if r=r'∧o=o' then some [.n n] else none
 | .p r j c,.p r' j' c'=>if r=r'∧j=j'∧c=c' then some [] else none
 | .sn,.sn=>some []
 | .pn,.pn=>some []
 | .en,.en=>some []
 | _,_=>none
def Pat.makeC:Pat→List Leaf→NC
 | .i k,.i n::_=>.i k n
 | .b,.b x::_=>.b x
 | .s,.s z::_=>.s z
 | .l k,.l xs::_=>.l k xs
 | .lr ks,.r xs::_=>.lr ks xs
 | .h r o,.n n::_=>.h r o n
 | .p r j c,_=>.p r j c
 | .sn,_=>.sn
 | .pn,_=>.pn
 | _,_=>.en
def Pat.size:Pat→Nat
 | .i _ | .b | .s | .l _ | .lr _ | .h _ _ | .rs _ _ | .is _ _ | .ag _=>1
 | _=>0
theorem Pat.readC_spec {p:Pat} {x:NC} {l:List Leaf} (h:p.readC x=some l):l.length=p.size∧∀ m,p.makeC (l++m)=x:=by
 unfold Pat.readC at h
 split at h
 all_goals first
  | (cases h; done)
  | (cases h; exact ⟨rfl,fun _=>rfl⟩)
  | (split at h
     ·rename_i e
      cases h
      first
       | (subst e; exact ⟨rfl,fun _=>rfl⟩)
       | (obtain ⟨rfl,rfl⟩:=e; exact ⟨rfl,fun _=>rfl⟩)
       | (obtain ⟨rfl,rfl,rfl⟩:=e; exact ⟨rfl,fun _=>rfl⟩)
     ·cases h)
def Pat.readS:Pat→NS→Option (List Leaf)
 | .dead,.dead=>some []
 | q,.v (.c x)=>q.readC x
 | .rs ks n,.v (.sg [.recs ks' n' xs])=>if ks=ks'∧n=n' then some [.r xs] else none
 | .is k n,.v (.sg [.ints k' n' xs])=>if k=k'∧n=n' then some [.l xs] else none
 | .ag ks,.v (.ag xs)=>(match toRow ks xs with
   | some row=>some [.r [row]]
   | none=>none)
 | _,_=>none
def Pat.makeS:Pat→List Leaf→NS
 | .dead,_=>.dead
 | .rs ks n,.r xs::_=>.v (.sg [.recs ks n xs])
 | .is k n,.l xs::_=>.v (.sg [.ints k n xs])
 | .ag ks,.r [row]::_=>.v (.ag (rowCells ks row))
 | q,ls=>.v (.c (q.makeC ls))
theorem Pat.readS_spec {p:Pat} {x:NS} {l:List Leaf} (h:p.readS x=some l):l.length=p.size∧∀ m,p.makeS (l++m)=x:=by
 by_cases hd:p=.dead
 ·subst hd
  cases x with
  | dead=>cases h; exact ⟨rfl,fun _=>rfl⟩
  | tu l=>simp [Pat.readS] at h
  | v y=>
    cases y with
    | c y=>simp [Pat.readS,Pat.readC] at h
    | ag y=>simp [Pat.readS] at h
    | sg y=>simp [Pat.readS] at h
 ·cases x with
  | dead=>cases p <;> simp [Pat.readS] at h hd
  | tu l=>cases p <;> simp [Pat.readS] at h
  | v y=>
    cases y with
    | ag y=>
      cases p
      case ag ks=>
       simp only [Pat.readS] at h
       split at h
       ·rename_i row hr
        cases h
        exact ⟨rfl,fun m=>by rw [toRow_nc hr]; rfl⟩
       ·cases h
      all_goals simp [Pat.readS] at h
    | sg y=>
      unfold Pat.readS at h
      split at h
      case h_3 heq=>cases heq; split at h <;> first | (rename_i e; obtain ⟨rfl,rfl⟩:=e; cases h; exact ⟨rfl,fun _=>rfl⟩) | cases h
      case h_4 heq=>cases heq; split at h <;> first | (rename_i e; obtain ⟨rfl,rfl⟩:=e; cases h; exact ⟨rfl,fun _=>rfl⟩) | cases h
      all_goals first | (cases h; done) | (rename_i heq; cases heq; done) | (rename_i heq _; cases heq; done) | (simp_all; done)
    | c y=>
      have h' : p.readC y=some l:=by cases p <;> first | exact h | exact (hd rfl).elim
      obtain ⟨h1,h2⟩:=Pat.readC_spec h'
      refine ⟨h1,fun m=>?_⟩
      rw [← h2 m]
      cases p <;> first | rfl | exact (hd rfl).elim | (simp [Pat.readC] at h'; done)
def readL {α:Type} (rd:Pat→α→Option (List Leaf)):List Pat→List α→Option (List Leaf)
 | [],[]=>some []
 | p::ps,x::xs=>match rd p x,readL rd ps xs with
   | some a,some b=>some (a++b)
   | _,_=>none
 | _,_=>none
def makeL {α:Type} (mk:Pat→List Leaf→α):List Pat→List Leaf→List α
 | [],_=>[]
 | p::ps,l=>mk p l::makeL mk ps (l.drop p.size)
theorem readL_spec {α:Type} {rd:Pat→α→Option (List Leaf)} {mk:Pat→List Leaf→α} (hs:∀ p x l,rd p x=some l→l.length=p.size∧∀ m,mk p (l++m)=x) :
  ∀ {ps:List Pat} {xs:List α} {l:List Leaf},readL rd ps xs=some l→makeL mk ps l=xs
 | [],[],l,_=>rfl
 | [],_::_,_,h=>by simp [readL] at h
 | _::_,[],_,h=>by simp [readL] at h
 | p::ps,x::xs,l,h=>by
   simp only [readL] at h
   split at h
   ·rename_i a b h1 h2
    cases h
    obtain ⟨h3,h4⟩:=hs p x a h1
    have h5:=readL_spec hs h2
    simp only [makeL,h4 b,← h3,List.drop_left,h5]
   ·cases h
def SPat.read:SPat→Seg→Option (List Leaf)
 | .cells ps,.cells xs=>readL Pat.readC ps xs
 | .ints k n,.ints k' n' xs=>if k=k'∧n=n' then some [.l xs] else none
 | .recs ks n,.recs ks' n' xs=>if ks=ks'∧n=n' then some [.r xs] else none
 | _,_=>none
def SPat.size:SPat→Nat
 | .cells ps=>(ps.map Pat.size).sum
 | _=>1
def SPat.make:SPat→List Leaf→Seg
 | .cells ps,l=>.cells (makeL Pat.makeC ps l)
 | .ints k n,.l xs::_=>.ints k n xs
 | .recs ks n,.r xs::_=>.recs ks n xs
 | _,_=>.cells []
theorem makeL_app {α:Type} {rd:Pat→α→Option (List Leaf)} {mk:Pat→List Leaf→α} (hs:∀ p x l,rd p x=some l→l.length=p.size∧∀ m,mk p (l++m)=x) :
  ∀ {ps:List Pat} {xs:List α} {l:List Leaf},readL rd ps xs=some l→l.length=(ps.map Pat.size).sum∧∀ m,makeL mk ps (l++m)=xs
 | [],[],l,h=>by simp [readL] at h; subst h; exact ⟨rfl,fun _=>rfl⟩
 | [],_::_,_,h=>by simp [readL] at h
 | _::_,[],_,h=>by simp [readL] at h
 | p::ps,x::xs,l,h=>by
   simp only [readL] at h
   split at h
   ·rename_i a b h1 h2
    cases h
    obtain ⟨h3,h4⟩:=hs p x a h1
    obtain ⟨h5,h6⟩:=makeL_app hs h2
    refine ⟨by simp [h3,h5],fun m=>?_⟩
    simp only [makeL,List.append_assoc,h4,← h3,List.drop_left,h6]
   ·cases h
theorem SPat.read_spec {p:SPat} {x:Seg} {l:List Leaf} (h:p.read x=some l):l.length=p.size∧∀ m,p.make (l++m)=x:=by
 unfold SPat.read at h
 split at h
 ·obtain ⟨h1,h2⟩:=makeL_app (fun p x l h=>Pat.readC_spec h) h
  exact ⟨h1,fun m=>by simp only [SPat.make,h2]⟩
 ·split at h
  ·rename_i e; obtain ⟨rfl,rfl⟩:=e; cases h; exact ⟨rfl,fun _=>rfl⟩
  ·cases h
 ·split at h
  ·rename_i e; obtain ⟨rfl,rfl⟩:=e; cases h; exact ⟨rfl,fun _=>rfl⟩
  ·cases h
 ·cases h
def readSegs:List SPat→List Seg→Option (List Leaf)
 | [],[]=>some []
 | p::ps,x::xs=>match p.read x,readSegs ps xs with
   | some a,some b=>some (a++b)
   | _,_=>none
 | _,_=>none
def makeSegs:List SPat→List Leaf→List Seg
 | [],_=>[]
 | p::ps,l=>p.make l::makeSegs ps (l.drop p.size)
theorem readSegs_spec:∀ {ps:List SPat} {xs:List Seg} {l:List Leaf},readSegs ps xs=some l→makeSegs ps l=xs
 | [],[],l,h=>by simp [readSegs] at h; subst h; rfl
 | [],_::_,_,h=>by simp [readSegs] at h
 | _::_,[],_,h=>by simp [readSegs] at h
 | p::ps,x::xs,l,h=>by
   simp only [readSegs] at h
   split at h
   ·rename_i a b h1 h2
    cases h
    obtain ⟨h3,h4⟩:=SPat.read_spec h1
    simp only [makeSegs,h4 b,← h3,List.drop_left,readSegs_spec h2]
   ·cases h
def RPat.read:RPat→Option Reg→Option (List Leaf)
 | .gone,none=>some []
 | .ints st e k,some {st:=st',e:=e',body:=.ints k' xs}=>if st=st'∧e=e'∧k=k' then some [.l xs] else none
 | .recs st e ks,some {st:=st',e:=e',body:=.recs ks' xs}=>if st=st'∧e=e'∧ks=ks' then some [.r xs] else none
 | .cells st e ps,some {st:=st',e:=e',body:=.cells xs}=>if st=st'∧e=e' then readL Pat.readC ps xs else none
 | .sg st e ps,some {st:=st',e:=e',body:=.sg l}=>if st=st'∧e=e' then readSegs ps l else none
 | _,_=>none
def RPat.make:RPat→List Leaf→Option Reg
 | .ints st e k,.l xs::_=>some {st:=st,e:=e,body:=.ints k xs}
 | .recs st e ks,.r xs::_=>some {st:=st,e:=e,body:=.recs ks xs}
 | .cells st e ps,l=>some {st:=st,e:=e,body:=.cells (makeL Pat.makeC ps l)}
 | .sg st e ps,l=>some {st:=st,e:=e,body:=.sg (makeSegs ps l)}
 | _,_=>none
theorem RPat.read_spec {p:RPat} {x:Option Reg} {l:List Leaf} (h:p.read x=some l):p.make l=x:=by
 unfold RPat.read at h
 split at h
 ·cases h; rfl
 ·split at h
  ·rename_i e; obtain ⟨rfl,rfl,rfl⟩:=e; cases h; rfl
  ·cases h
 ·split at h
  ·rename_i e; obtain ⟨rfl,rfl,rfl⟩:=e; cases h; rfl
  ·cases h
 ·split at h
  ·rename_i e
   obtain ⟨rfl,rfl⟩:=e
   simp only [RPat.make,readL_spec (fun p x l h=>Pat.readC_spec h) h]
  ·cases h
 ·split at h
  ·rename_i e
   obtain ⟨rfl,rfl⟩:=e
   simp only [RPat.make,readSegs_spec h]
  ·cases h
 ·cases h
def readRg:List RPat→List (Option Reg)→Option (List (List Leaf))
 | [],[]=>some []
 | p::ps,x::xs=>match p.read x,readRg ps xs with
   | some a,some b=>some (a::b)
   | _,_=>none
 | _,_=>none
def makeRg:List RPat→List (List Leaf)→List (Option Reg)
 | p::ps,l::ls=>p.make l::makeRg ps ls
 | _,_=>[]
theorem readRg_spec:∀ {ps:List RPat} {xs:List (Option Reg)} {l:List (List Leaf)},readRg ps xs=some l→makeRg ps l=xs
 | [],[],l,h=>by simp [readRg] at h; subst h; rfl
 | [],_::_,_,h=>by simp [readRg] at h
 | _::_,[],_,h=>by simp [readRg] at h
 | p::ps,x::xs,l,h=>by
   simp only [readRg] at h
   split at h
   ·rename_i a b h1 h2
    cases h
    simp only [makeRg,RPat.read_spec h1,readRg_spec h2]
   ·cases h
def pats (n:Nat) (l:List (Nat × Pat)):List Pat:=(List.range n).map fun j=>match l.find? (·.1==j) with
 | some x=>x.2
 | none=>.dead
def mkSt (fp:List Pat) (rp:List RPat) (x:List Leaf × List (List Leaf)):St:={fr:=makeL Pat.makeS fp x.1,rg:=makeRg rp x.2}
def sumP (fp:List Pat) (rp:List RPat) (f:List Leaf × List (List Leaf)→Tr (NExit × St)) (s:St):Tr (NExit × St):=
 match readL Pat.readS fp s.fr,readRg rp s.rg with
 | some a,some b=>f (a,b)
 | _,_=>.fail
theorem sumP_ok {X:Cx} (hcon:∀ f T,X.con f=some T→Known X.P X.glob f T) (hm:X.P.follows .mixedOrders=true) {id:Nat} {body:Code} (hl:LAll X body) (live out:List Nat) (fp:List Pat) (rp:List RPat) (f:List Leaf × List (List Leaf)→Tr (NExit × St)) (μ:List Leaf × List (List Leaf)→Nat)
  (round:∀ a R,(f a).run R→(roundT X id live out body (mkSt fp rp a)).run fun o=>match o with
    | .next s=>∃ b,s=mkSt fp rp b∧μ b<μ a∧(f b).run R
    | .done e s=>R (e,s)):LOk X.P X.glob X.m id body (sumP fp rp f):=by
 refine loop_ok hcon hm hl live out (mkSt fp rp) μ (fun a R=>(f a).run R) (fun s R h=>?_) round
 unfold sumP at h
 split at h
 ·rename_i a b h1 h2
  refine ⟨(a,b),?_,h⟩
  unfold mkSt
  rw [readL_spec (fun p x l h=>Pat.readS_spec h) h1,readRg_spec h2]
 ·exact h.elim
theorem LAll.two {X:Cx} {c:Code} {i1 i2:Nat} {b1 b2:Code} {l1 l2:List Nat} {L1 L2:St→Tr (NExit × St)} (hl:loopsIn c=[(i1,b1),(i2,b2)]) (hx:X.loops=[(i1,l1,L1),(i2,l2,L2)]) (hne:i1≠i2)
  (h1:LOk X.P X.glob X.m i1 b1 L1) (h2:LOk X.P X.glob X.m i2 b2 L2) (hr:rangesIn c=[]:=by kernel_rfl):LAll X c:=
 LAll.list hl (hr:=hr) fun p hp x hf=>by
  rw [hx] at hf
  rcases List.mem_cons.1 hp with e | hp
  ·subst e
   simp at hf
   subst hf
   exact h1
  ·rw [List.mem_singleton] at hp
   subst hp
   have:(i1==i2)=false:=by simpa using hne
   simp [this] at hf
   subst hf
   exact h2
def conOf:List (FuncId × Con)→FuncId→Option Con
 | [],_=>Option.none
 | x::l,f=>if x.1=f then some x.2 else conOf l f
inductive Knowns (P:Program) (gl:List Nat):List (FuncId × Con)→Prop where
 | nil:Knowns P gl []
 | cons {f:FuncId} {T:Con} {l:List (FuncId × Con)}:Known P gl f T→Knowns P gl l→Knowns P gl ((f,T)::l)
theorem Knowns.get {P:Program} {gl:List Nat} {l:List (FuncId × Con)} (h:Knowns P gl l):∀ f T,conOf l f=some T→Known P gl f T:=by
 induction h with
 | nil=>intro f T h; cases h
 | @cons g U l hk _ ih=>
   intro f T h
   simp only [conOf] at h
   by_cases e:g=f
   ·rw [if_pos e] at h
    injection h with h
    subst h e
    exact hk
   ·rw [if_neg e] at h
    exact ih f T h
end Go.Nx
namespace Go.Nx
open Go Go.RowKit
theorem below_of {w w' : World} {er:Nat→Option Value} {Γ' : Env} {rg:List (Option Reg)} (hE:Ext (topEnv w er) w Γ') (hw:WRel Γ' rg w') (hd:Wd w w'):Below w.heap.size w w':=by
 refine ⟨hd.os,hd.tape,hd.output,hd.size,fun i hi=>?_⟩
 have h1:w.heap[i]? = some w.heap[i]:=Array.getElem?_eq_getElem hi
 have h2:w'.heap[i]? = some w.heap[i]:=hw.kp i _ (hE.le.kp i _ h1)
 rw [h1,h2]
theorem Known.lawB {P:Program} {gl:List Nat} {f:FuncId} {T:Con} (hk:Known P gl f T) {args:List NV} {vs:List Value} {w:World} (er:Nat→Option Value) (hG:GlobOk gl (topEnv w er)) (hargs:R2 (VRel (topEnv w er)) args vs) (h:Holds (T args []) fun o=>o.res=.v (.c (.b true))) :
  Calls P f vs.toArray w fun e w'=>e=.returned (.bool true)∧Below w.heap.size w w':=by
 refine (hk.sound args [] _ h.run (topEnv w er) w vs (topEnv_w w er) hG hargs (fun _ _=>rfl)).mono ?_
 rintro e w' ⟨o,v,Γ',h1,rfl,h3,h4,h5,h6⟩
 rw [h1] at h4
 obtain ⟨h4,-⟩:=h4
 have h4' : v=.bool true:=h4
 exact ⟨by rw [h4'],below_of h3 h5 h6⟩
end Go.Nx
namespace Go.Nx
open Go Go.RowKit Go.ChangeShapes Go.WideShapes Go.ChangeAt
open Go.ChangeMaps (open_string)
def okSc:CK→Sc→Prop
 | .i k,.i n=>(Lit.int k n).wf=true
 | .b,.b _=>True
 | _,_=>False
def CV (k:CK) (v:Value):Prop:=∃ s,v=ckVal k s∧okSc k s
def rowOk (ks:List CK) (row:List Sc):Prop:=R2 okSc ks row
theorem CV.row {ks:List CK} {cs:List Value} (h:R2 CV ks cs):∃ row,cs=rowVals ks row∧rowOk ks row:=by
 induction h with
 | nil=>exact ⟨[],rfl,.nil⟩
 | @cons k v ks cs h _ ih=>
   obtain ⟨s,rfl,hs⟩:=h
   obtain ⟨row,rfl,hr⟩:=ih
   exact ⟨s::row,by simp [rowVals,rowFrom,rowFrom_shift],.cons hs hr⟩
def ksFs (rec:TypeId→Option (List CK)) (co:TypeId→Nat):Nat→List Field→Option (List CK)
 | _,[]=>some []
 | off,f::fs=>
   match rec f.type,ksFs rec co (off+co f.type) fs with
   | some a,some b=>if f.offset=off∧a.length=co f.type then some (a++b) else none
   | _,_=>none
def ksT (P:Program):Nat→TypeId→Option (List CK)
 | 0,_=>none
 | n+1,t=>
   match P.underlying t with
   | some (.int k)=>some [.i k]
   | some .bool=>some [.b]
   | some (.struct fs)=>(match ksFs (ksT P n) P.cellsOf 0 fs.toList with
     | some ks=>if ks.length=P.cellsOf t then some ks else none
     | none=>none)
   | some (.array m e)=>(match ksT P n e with
     | some ks=>if ks.length=P.cellsOf e∧m * ks.length=P.cellsOf t then some ((List.replicate m ks).flatten) else none
     | none=>none)
   | _=>none
section
variable {H:Type} {enc:TypeId × Value→H} {P:Program} {w:World} {base:Nat} {sp:Nat→Bool} {held:Bool}
theorem mapM_cons_some {α β:Type} {f:α→Option β} {a:α} {l:List α} {r:List β} (h:(a::l).mapM f=some r):∃ b r',f a=some b∧l.mapM f=some r'∧r=b::r':=by
 rw [List.mapM_cons] at h
 cases hb:f a with
 | none=>rw [hb] at h; cases h
 | some b=>
   cases hr:l.mapM f with
   | none=>rw [hb,hr] at h; cases h
   | some r'=>rw [hb,hr] at h; cases h; exact ⟨b,r',rfl,rfl,rfl⟩
theorem ksFs_cells {n m:Nat} (ih:∀ {t:TypeId} {ks:List CK} {cs:List Value} {x:DataW H × List MemPlace},ksT P n t=some ks→DataW.trod enc P w base sp held m t cs=some x→R2 CV ks cs) {cs:List Value} :
  ∀ {fs:List Field} {off:Nat} {ks:List CK} {xs:List (DataW H × List MemPlace)},ksFs (ksT P n) P.cellsOf off fs=some ks→
   (fs.mapM fun f=>DataW.trod enc P w base sp held m f.type ((cs.drop f.offset).take (P.cellsOf f.type)))=some xs→R2 CV ks ((cs.drop off).take ks.length)
 | [],off,ks,xs,h,_=>by simp [ksFs] at h; subst h; simp; exact .nil
 | f::fs,off,ks,xs,h,hx=>by
   simp only [ksFs] at h
   split at h
   ·rename_i a b ha hb
    split at h
    ·rename_i hc
     cases h
     obtain ⟨y,ys,h1,h2,-⟩:=mapM_cons_some hx
     have r1:=ih ha h1
     have r2:=ksFs_cells ih hb h2
     rw [hc.1,← hc.2] at r1
     rw [← hc.2] at r2
     have e:(cs.drop off).take (a++b).length=(cs.drop off).take a.length++(cs.drop (off+a.length)).take b.length:=by
      rw [List.length_append,List.take_add,List.drop_drop]
     rw [e]
     exact r1.append r2
    ·cases h
   ·cases h
theorem ksArr_cells {m e:Nat} {ks:List CK} (ih:∀ {cs:List Value} {x:DataW H × List MemPlace},DataW.trod enc P w base sp held m e cs=some x→R2 CV ks cs) (hc:ks.length=P.cellsOf e) {cs:List Value} :
  ∀ {k o:Nat} {xs:List (DataW H × List MemPlace)},((List.range' o k).mapM fun i=>DataW.trod enc P w base sp held m e ((cs.drop (i * P.cellsOf e)).take (P.cellsOf e)))=some xs→
   R2 CV ((List.replicate k ks).flatten) ((cs.drop (o * P.cellsOf e)).take (k * ks.length))
 | 0,o,xs,_=>by simp; exact .nil
 | k+1,o,xs,hx=>by
   rw [List.range'_succ] at hx
   obtain ⟨y,ys,h1,h2,-⟩:=mapM_cons_some hx
   have r1:=ih h1
   have r2:=ksArr_cells ih hc h2
   rw [← hc] at r1 r2 ⊢
   have e1:(cs.drop (o * ks.length)).take ((k+1) * ks.length)=(cs.drop (o * ks.length)).take ks.length++(cs.drop ((o+1) * ks.length)).take (k * ks.length):=by
    rw [show (k+1) * ks.length=ks.length+k * ks.length by rw [Nat.succ_mul]; omega,List.take_add,List.drop_drop,show o * ks.length+ks.length=(o+1) * ks.length by rw [Nat.succ_mul]]
   rw [e1,List.replicate_succ,List.flatten_cons]
   exact r1.append r2
theorem ksT_cells:∀ {n:Nat} {t:TypeId} {ks:List CK} {m:Nat} {cs:List Value} {x:DataW H × List MemPlace},ksT P n t=some ks→DataW.trod enc P w base sp held m t cs=some x→R2 CV ks cs
 | 0,t,ks,m,cs,x,h,_=>by simp [ksT] at h
 | n+1,t,ks,0,cs,x,_,hx=>by simp [DataW.trod] at hx
 | n+1,t,ks,m+1,cs,x,h,hx=>by
   simp only [ksT] at h
   split at h
   ·rename_i k hu
    cases h
    obtain ⟨z,rfl,-,hw⟩:=DataW.trod_int hu hx
    exact .cons ⟨.i z,rfl,hw⟩ .nil
   ·rename_i hu
    cases h
    obtain ⟨z,rfl,-⟩:=DataW.trod_bool hu hx
    exact .cons ⟨.b z,rfl,trivial⟩ .nil
   ·rename_i fs hu
    split at h
    ·rename_i ks' hks
     split at h
     ·rename_i hl
      cases h
      unfold DataW.trod at hx
      rw [hu] at hx
      simp only at hx
      split at hx
      ·rename_i hcs
       cases hm:(fs.toList.mapM fun f=>DataW.trod enc P w base sp held m f.type ((cs.drop f.offset).take (P.cellsOf f.type))) with
       | none=>rw [hm] at hx; cases hx
       | some xs=>
         have:=ksFs_cells (fun {_ _ _ _} a b=>ksT_cells a b) hks hm
         rwa [List.drop_zero,List.take_of_length_le (by omega)] at this
      ·cases hx
     ·cases h
    ·cases h
   ·rename_i q e hu
    split at h
    ·rename_i ks' hks
     split at h
     ·rename_i hl
      cases h
      unfold DataW.trod at hx
      rw [hu] at hx
      simp only at hx
      split at hx
      ·rename_i hcs
       cases hm:((List.range q).mapM fun i=>DataW.trod enc P w base sp held m e ((cs.drop (i * P.cellsOf e)).take (P.cellsOf e))) with
       | none=>rw [hm] at hx; cases hx
       | some xs=>
         rw [List.range_eq_range'] at hm
         have:=ksArr_cells (P:=P) (fun {_ _} b=>ksT_cells hks b) hl.1 hm
         rwa [Nat.zero_mul,List.drop_zero,List.take_of_length_le (by omega)] at this
      ·cases hx
     ·cases h
    ·cases h
   ·cases h
end
inductive MK where
 | i (k:IntKind)
 | b
 | s
inductive MkOk:MK→NC→Prop
 | i {k:IntKind} {n:Int}:(Lit.int k n).wf=true→MkOk (.i k) (.i k n)
 | b {x:Bool}:MkOk .b (.b x)
 | s {z:ByteArray}:z.size≤maxLen→MkOk .s (.s z)
def MV (k:MK) (v:Value):Prop:=∃ x,MkOk k x∧∀ Γ,CR Γ x v
theorem MV.row (Γ:Env) {ks:List MK} {cs:List Value} (h:R2 MV ks cs):∃ xs,R2 MkOk ks xs∧R2 (CR Γ) xs cs:=by
 induction h with
 | nil=>exact ⟨[],.nil,.nil⟩
 | @cons k v ks cs h _ ih=>
   obtain ⟨x,h1,h2⟩:=h
   obtain ⟨xs,h3,h4⟩:=ih
   exact ⟨x::xs,.cons h1 h3,.cons (h2 Γ) h4⟩
def msFs (rec:TypeId→Option (List MK)) (co:TypeId→Nat):Nat→List Field→Option (List MK)
 | _,[]=>some []
 | off,f::fs=>
   match rec f.type,msFs rec co (off+co f.type) fs with
   | some a,some b=>if f.offset=off∧a.length=co f.type then some (a++b) else none
   | _,_=>none
def msT (P:Program):Nat→TypeId→Option (List MK)
 | 0,_=>none
 | n+1,t=>
   match P.underlying t with
   | some (.int k)=>some [.i k]
   | some .bool=>some [.b]
   | some .string=>some [.s]
   | some (.struct fs)=>(match msFs (msT P n) P.cellsOf 0 fs.toList with
     | some ks=>if ks.length=P.cellsOf t then some ks else none
     | none=>none)
   | _=>none
section
variable {H:Type} {enc:TypeId × Value→H} {P:Program} {w:World} {base:Nat} {sp:Nat→Bool} {held:Bool}
theorem msFs_cells {n m:Nat} (ih:∀ {t:TypeId} {ks:List MK} {cs:List Value} {x:DataW H × List MemPlace},msT P n t=some ks→DataW.trod enc P w base sp held m t cs=some x→R2 MV ks cs) {cs:List Value} :
  ∀ {fs:List Field} {off:Nat} {ks:List MK} {xs:List (DataW H × List MemPlace)},msFs (msT P n) P.cellsOf off fs=some ks→
   (fs.mapM fun f=>DataW.trod enc P w base sp held m f.type ((cs.drop f.offset).take (P.cellsOf f.type)))=some xs→R2 MV ks ((cs.drop off).take ks.length)
 | [],off,ks,xs,h,_=>by simp [msFs] at h; subst h; simp; exact .nil
 | f::fs,off,ks,xs,h,hx=>by
   simp only [msFs] at h
   split at h
   ·rename_i a b ha hb
    split at h
    ·rename_i hc
     cases h
     obtain ⟨y,ys,h1,h2,-⟩:=mapM_cons_some hx
     have r1:=ih ha h1
     have r2:=msFs_cells ih hb h2
     rw [hc.1,← hc.2] at r1
     rw [← hc.2] at r2
     have e:(cs.drop off).take (a++b).length=(cs.drop off).take a.length++(cs.drop (off+a.length)).take b.length:=by
      rw [List.length_append,List.take_add,List.drop_drop]
     rw [e]
     exact r1.append r2
    ·cases h
   ·cases h
theorem msT_cells:∀ {n:Nat} {t:TypeId} {ks:List MK} {m:Nat} {cs:List Value} {x:DataW H × List MemPlace},msT P n t=some ks→DataW.trod enc P w base sp held m t cs=some x→R2 MV ks cs
 | 0,t,ks,m,cs,x,h,_=>by simp [msT] at h
 | n+1,t,ks,0,cs,x,_,hx=>by simp [DataW.trod] at hx
 | n+1,t,ks,m+1,cs,x,h,hx=>by
   simp only [msT] at h
   split at h
   ·rename_i k hu
    cases h
    obtain ⟨z,rfl,-,hw⟩:=DataW.trod_int hu hx
    exact .cons ⟨.i k z,.i hw,fun _=>⟨rfl,rfl⟩⟩ .nil
   ·rename_i hu
    cases h
    obtain ⟨z,rfl,-⟩:=DataW.trod_bool hu hx
    exact .cons ⟨.b z,.b,fun _=>⟨rfl,rfl⟩⟩ .nil
   ·rename_i hu
    cases h
    obtain ⟨z,rfl,-,hs⟩:=DataW.trod_string hu hx
    exact .cons ⟨.s z,.s hs,fun _=>⟨rfl,rfl⟩⟩ .nil
   ·rename_i fs hu
    split at h
    ·rename_i ks' hks
     split at h
     ·rename_i hl
      cases h
      unfold DataW.trod at hx
      rw [hu] at hx
      simp only at hx
      split at hx
      ·rename_i hcs
       cases hm:(fs.toList.mapM fun f=>DataW.trod enc P w base sp held m f.type ((cs.drop f.offset).take (P.cellsOf f.type))) with
       | none=>rw [hm] at hx; cases hx
       | some xs=>
         have:=msFs_cells (fun {_ _ _ _} a b=>msT_cells a b) hks hm
         rwa [List.drop_zero,List.take_of_length_le (by omega)] at this
      ·cases hx
     ·cases h
    ·cases h
   ·cases h
end
inductive PkOk:Part→FC→Prop
 | i {k:IntKind} {n:Int}:(Lit.int k n).wf=true→PkOk (.i k) (.i n)
 | b {x:Bool}:PkOk .b (.b x)
 | s {z:ByteArray}:z.size≤maxLen→PkOk .s (.s z)
 | l {k:IntKind} {xs:List Int}:(∀ n∈xs,(Lit.int k n).wf=true)→xs.length≤maxLen→PkOk (.l k) (.is xs)
 | lr {ks:List CK} {xs:List (List Sc)}:(∀ r∈xs,rowOk ks r)→xs.length≤maxLen→PkOk (.lr ks) (.rs xs)
def Part.cell:Part→FC→NC
 | .i k,x=>.i k x.n
 | .b,x=>.b x.t
 | .s,x=>.s x.st
 | .l k,x=>.l k x.li
 | .lr ks,x=>.lr ks x.lr
 | .ai _ _,_=>.sn
 | .ar _ _,_=>.sn
def PV (Γ:Env) (p:Part) (v:Value):Prop:=∃ c,PkOk p c∧FR Γ (p.cell c) v
theorem PkOk.put {p:Part} {c:FC} (h:PkOk p c) (t:List Seg):p.put c t=consC (p.cell c) t:=by cases h <;> rfl
theorem PV.row {Γ:Env} {ps:List Part} {cs:List Value} (h:R2 (PV Γ) ps cs):∃ row,R2 PkOk ps row∧R2 (FR Γ) (segFlat (rowSegs ps row 0)) cs∧SegOk (rowSegs ps row 0):=by
 induction h with
 | nil=>exact ⟨[],.nil,.nil,fun s hs=>by cases hs⟩
 | @cons p v ps cs h _ ih=>
   obtain ⟨c,h1,h2⟩:=h
   obtain ⟨row,h3,h4,h5⟩:=ih
   have e:rowSegs (p::ps) (c::row) 0=consC (p.cell c) (rowSegs ps row 0):=by
    show p.put c (rowSegs ps (c::row) 1)=_
    rw [h1.put,rowSegs_shift ps c row 0]
   refine ⟨c::row,.cons h1 h3,?_,?_⟩
   ·rw [e,segFlat_consC]; exact .cons h2 h4
   ·rw [e]; exact segOk_consC.2 h5
def pkFs (rec:TypeId→Option (List Part)) (co:TypeId→Nat):Nat→List Field→Option (List Part)
 | _,[]=>some []
 | off,f::fs=>
   match rec f.type,pkFs rec co (off+co f.type) fs with
   | some a,some b=>if f.offset=off∧a.length=co f.type then some (a++b) else none
   | _,_=>none
def pkT (P:Program):Nat→TypeId→Option (List Part)
 | 0,_=>none
 | n+1,t=>
   match P.underlying t with
   | some (.int k)=>some [.i k]
   | some .bool=>some [.b]
   | some .string=>some [.s]
   | some (.slice e)=>(match ksT P 8 e with
     | some [.i k]=>if P.cellsOf e=1 then some [.l k] else none
     | some ks=>if 0<ks.length∧P.cellsOf e=ks.length then some [.lr ks] else none
     | none=>none)
   | some (.struct fs)=>(match pkFs (pkT P n) P.cellsOf 0 fs.toList with
     | some ks=>if ks.length=P.cellsOf t then some ks else none
     | none=>none)
   | _=>none
section
variable {H:Type} {enc:TypeId × Value→H} {P:Program} {w:World} {base:Nat} {sp:Nat→Bool} {held:Bool}
inductive Sh where
 | i (k:IntKind)
 | b
 | s
 | row (k:IntKind)
 | rows (ks:List CK)
 | ag (ks:List CK)
 | mix (ms:List MK)
 | tab (sch:List Part)
def shT (P:Program) (t:TypeId):Option Sh:=
 match P.underlying t with
 | some (.int k)=>some (.i k)
 | some .bool=>some .b
 | some .string=>some .s
 | some (.slice e)=>(match ksT P 8 e with
   | some [.i k]=>if P.cellsOf e=1 then some (.row k) else none
   | some ks=>if 0<ks.length∧P.cellsOf e=ks.length then some (.rows ks) else none
   | none=>(match pkT P 8 e with
     | some sch=>if 0<schSize sch∧P.cellsOf e=schSize sch then some (.tab sch) else none
     | none=>none))
 | some (.struct _)=>(match ksT P 8 t with
   | some ks=>if ks.length=P.cellsOf t then some (.ag ks) else none
   | none=>(match msT P 8 t with
     | some ms=>some (.mix ms)
     | none=>none))
 | some (.array _ _)=>(match ksT P 8 t with
   | some ks=>if ks.length=P.cellsOf t then some (.ag ks) else none
   | none=>none)
 | _=>none
inductive ShOk:Sh→NV→Prop
 | i {k:IntKind} {n:Int}:(Lit.int k n).wf=true→ShOk (.i k) (.c (.i k n))
 | b {x:Bool}:ShOk .b (.c (.b x))
 | s {z:ByteArray}:z.size≤maxLen→ShOk .s (.c (.s z))
 | row {k:IntKind} {xs:List Int}:(∀ n∈xs,(Lit.int k n).wf=true)→ShOk (.row k) (.c (.l k xs))
 | rows {ks:List CK} {xs:List (List Sc)}:(∀ r∈xs,rowOk ks r)→ShOk (.rows ks) (.c (.lr ks xs))
 | ag {ks:List CK} {row:List Sc}:rowOk ks row→ShOk (.ag ks) (.ag (rowCells ks row))
 | mix {ms:List MK} {xs:List NC}:R2 MkOk ms xs→ShOk (.mix ms) (.ag xs)
 | tab {sch:List Part} {xs:List (List FC)}:(∀ r∈xs,R2 PkOk sch r)→xs.length≤maxLen→ShOk (.tab sch) (.c (.lt sch xs))
theorem mapM_all {α β:Type} {f:α→Option β}:∀ {l:List α} {r:List β},l.mapM f=some r→r.length=l.length∧∀ (j:Nat) a y,l[j]? = some a→r[j]? = some y→f a=some y
 | [],r,h=>by simp at h; subst h; exact ⟨rfl,fun j a y h=>by simp at h⟩
 | a::l,r,h=>by
   obtain ⟨b,r',h1,h2,rfl⟩:=mapM_cons_some h
   obtain ⟨h3,h4⟩:=mapM_all h2
   refine ⟨by simp [h3],fun j c y hc hy=>?_⟩
   cases j with
   | zero=>simp at hc hy; subst hc hy; exact h1
   | succ j=>simp at hc hy; exact h4 j c y hc hy
theorem cells_get {x:Addr} {n:Nat} {cs:List Value} (h:w.cells? base x n=some cs):cs.length=n∧∀ j v,cs[j]? = some v→w.cell? (x.add j)=some v:=by
 unfold World.cells? at h
 split at h
 ·obtain ⟨hl,hg⟩:=mapM_all h
  rw [List.length_range] at hl
  refine ⟨hl,fun j v hj=>?_⟩
  have hjn:j<n:=by rw [← hl]; exact (List.getElem?_eq_some_iff.1 hj).1
  exact hg j j v (List.getElem?_range hjn) hj
 ·cases h
theorem rows_of {n m:Nat} {e:TypeId} {ks:List CK} {a:Addr} {len:Nat} (hks:ksT P n e=some ks) (hc:P.cellsOf e=ks.length)
  (hel:∀ i,i<len→∃ cs x,w.cells? base (a.add (i * P.cellsOf e)) (P.cellsOf e)=some cs∧DataW.trod enc P w base sp held m e cs=some x) :
  ∃ xs:List (List Sc),xs.length=len∧(∀ r∈xs,rowOk ks r)∧∀ j v,(rowsV ks xs)[j]? = some v→w.cell? (a.add j)=some v:=by
 induction len with
 | zero=>exact ⟨[],rfl,(fun r h=>by cases h),(fun j v h=>by simp [rowsV] at h)⟩
 | succ len ih=>
   obtain ⟨xs,hl,hok,hcell⟩:=ih fun i hi=>hel i (by omega)
   obtain ⟨cs,x,h1,h2⟩:=hel len (by omega)
   obtain ⟨row,rfl,hr⟩:=CV.row (ksT_cells hks h2)
   obtain ⟨h3,h4⟩:=cells_get h1
   refine ⟨xs++[row],by simp [hl],fun r hm=>?_,fun j v hj=>?_⟩
   ·rcases List.mem_append.1 hm with h | h
    ·exact hok r h
    ·rw [List.mem_singleton.1 h]; exact hr
   ·have e1:rowsV ks (xs++[row])=rowsV ks xs++rowVals ks row:=by simp [rowsV]
    rw [e1,List.getElem?_append] at hj
    split at hj
    ·exact hcell j v hj
    ·rename_i hlt
     rw [rowsV_length,hl] at hlt hj
     have:=h4 _ _ hj
     rw [hc] at this
     rw [show j=len * ks.length+(j - len * ks.length) by omega,← Addr.add_add]
     exact this
theorem roRow_of {a:Addr} {vs:List Value} (er:Nat→Option Value) (h0:vs≠[]) (h:∀ j v,vs[j]? = some v→w.cell? (a.add j)=some v):∃ blk off,a=⟨blk,off,none⟩∧RoRow (topEnv w er) blk off vs:=by
 obtain ⟨blk,off,spot⟩:=a
 have hpos:0<vs.length:=List.length_pos_iff.2 h0
 have c0:=h 0 _ (List.getElem?_eq_getElem hpos)
 have e0:(⟨blk,off,spot⟩:Addr).add 0=⟨blk,off,spot⟩:=by simp [Addr.add]
 rw [e0] at c0
 unfold World.cell? at c0
 split at c0
 ·rename_i c e fz hb
  have hsp:spot=none:=by
   cases spot with
   | none=>rfl
   | some n=>simp at c0
  subst hsp
  refine ⟨blk,off,rfl,?_,c,e,fz,hb,fun j u hj=>?_⟩
  ·have:blk<w.heap.size:=by
    rw [Array.getElem?_eq_some_iff] at hb
    exact hb.1
   simpa [topEnv] using this
  ·have cj:=h j u hj
   unfold World.cell? Addr.add at cj
   by_cases hj0:j=0
   ·subst hj0
    rw [if_pos rfl] at cj
    simp only [hb] at cj
    simpa using cj
   ·rw [if_neg hj0] at cj
    simp only [hb] at cj
    simpa using cj
 ·cases c0
theorem rows_of_slice {n m:Nat} {t e:TypeId} {ks:List CK} {a:Option Addr} {len cap:Nat} {x:DataW H × List MemPlace} (er:Nat→Option Value) (hu:P.underlying t=some (.slice e)) (hks:ksT P n e=some ks) (h0:0<ks.length) (hc:P.cellsOf e=ks.length)
  (h:DataW.trod enc P w base sp held m t [.slice a len cap]=some x) :
  ∃ xs:List (List Sc),xs.length=len∧len≤cap∧(∀ r∈xs,rowOk ks r)∧(xs=[]∨∃ blk off,a=some ⟨blk,off,none⟩∧RoRow (topEnv w er) blk off (rowsV ks xs)):=by
 rcases DataW.trod_slice hu h with ⟨hcs,_⟩ | ⟨a',len',cap',elems,rest,n',_,hcs,_,_,hl,_,hlen,hel,_⟩
 ·simp at hcs
  obtain ⟨rfl,rfl,rfl⟩:=hcs
  exact ⟨[],rfl,Nat.le_refl _,(fun r h=>by cases h),.inl rfl⟩
 ·simp at hcs
  obtain ⟨rfl,rfl,rfl⟩:=hcs
  obtain ⟨xs,h1,h2,h3⟩:=rows_of (H:=H) (enc:=enc) (w:=w) (base:=base) (sp:=sp) (held:=held) (m:=n') (a:=a') (len:=len) hks hc fun i hi=>by
   have hE:=hel i hi
   rw [List.getElem?_eq_getElem (by omega:i<elems.length)] at hE
   simp only [Option.bind_eq_some_iff] at hE
   obtain ⟨cs,h1,h2⟩:=hE
   exact ⟨cs,_,h1,h2⟩
  refine ⟨xs,h1,hl,h2,?_⟩
  by_cases hx:xs=[]
  ·exact .inl hx
  ·right
   have hne:rowsV ks xs≠[]:=by
    intro he
    have hl2:=rowsV_length ks xs
    rw [he] at hl2
    have hp:0<xs.length:=List.length_pos_iff.2 hx
    have:=Nat.mul_pos hp h0
    rw [← hl2] at this
    simp at this
   obtain ⟨blk,off,rfl,hr⟩:=roRow_of er hne h3
   exact ⟨blk,off,rfl,hr⟩
theorem one_ints {k:IntKind} {xs:List (List Sc)} (h:∀ r∈xs,rowOk [.i k] r):rowsV [.i k] xs=(xs.map fun r=>(r.getD 0 (.i 0)).n).map (.int k)∧∀ n∈xs.map (fun r=>(r.getD 0 (.i 0)).n),(Lit.int k n).wf=true:=by
 induction xs with
 | nil=>exact ⟨rfl,fun n h=>by cases h⟩
 | cons r xs ih=>
   obtain ⟨h1,h2⟩:=ih fun r hr=>h r (by simp [hr])
   have hr:=h r (by simp)
   cases hr with
   | @cons _ s _ l hs hn=>
     cases hn
     cases s with
     | b x=>exact hs.elim
     | i n=>
       refine ⟨?_,fun m hm=>?_⟩
       ·have e:rowsV [.i k] ([.i n]::xs)=[.int k n]++rowsV [.i k] xs:=by simp [rowsV,rowVals,rowFrom,ckVal,Sc.n]
        rw [e,h1]; rfl
       ·rw [List.map_cons,List.mem_cons] at hm
        rcases hm with rfl | hm
        ·exact hs
        ·exact h2 m hm
theorem pkFs_cells {n m:Nat} {Γ:Env} (ih:∀ {t:TypeId} {ks:List Part} {cs:List Value} {x:DataW H × List MemPlace},pkT P n t=some ks→DataW.trod enc P w base sp held m t cs=some x→R2 (PV Γ) ks cs) {cs:List Value} :
  ∀ {fs:List Field} {off:Nat} {ks:List Part} {xs:List (DataW H × List MemPlace)},pkFs (pkT P n) P.cellsOf off fs=some ks→
   (fs.mapM fun f=>DataW.trod enc P w base sp held m f.type ((cs.drop f.offset).take (P.cellsOf f.type)))=some xs→R2 (PV Γ) ks ((cs.drop off).take ks.length)
 | [],off,ks,xs,h,_=>by simp [pkFs] at h; subst h; simp; exact .nil
 | f::fs,off,ks,xs,h,hx=>by
   simp only [pkFs] at h
   split at h
   ·rename_i a b ha hb
    split at h
    ·rename_i hc
     cases h
     obtain ⟨y,ys,h1,h2,-⟩:=mapM_cons_some hx
     have r1:=ih ha h1
     have r2:=pkFs_cells ih hb h2
     rw [hc.1,← hc.2] at r1
     rw [← hc.2] at r2
     have e:(cs.drop off).take (a++b).length=(cs.drop off).take a.length++(cs.drop (off+a.length)).take b.length:=by
      rw [List.length_append,List.take_add,List.drop_drop]
     rw [e]
     exact r1.append r2
    ·cases h
   ·cases h
theorem slice_form {t e:TypeId} {m:Nat} {cs:List Value} {x:DataW H × List MemPlace} (hu:P.underlying t=some (.slice e)) (hx:DataW.trod enc P w base sp held m t cs=some x):∃ a len cap,cs=[.slice a len cap]∧len≤maxLen:=by
 rcases DataW.trod_slice hu hx with ⟨h,_⟩ | ⟨a,len,cap,elems,rest,n,_,h,_,_,h1,h2,_⟩
 ·exact ⟨none,0,0,h,Nat.zero_le _⟩
 ·exact ⟨some a,len,cap,h,Nat.le_trans h1 h2⟩
theorem pkT_cells (er:Nat→Option Value):∀ {n:Nat} {t:TypeId} {ks:List Part} {m:Nat} {cs:List Value} {x:DataW H × List MemPlace},pkT P n t=some ks→DataW.trod enc P w base sp held m t cs=some x→R2 (PV (topEnv w er)) ks cs
 | 0,t,ks,m,cs,x,h,_=>by simp [pkT] at h
 | n+1,t,ks,0,cs,x,_,hx=>by simp [DataW.trod] at hx
 | n+1,t,ks,m+1,cs,x,h,hx=>by
   simp only [pkT] at h
   split at h
   ·rename_i k hu
    cases h
    obtain ⟨z,rfl,-,hw⟩:=DataW.trod_int hu hx
    exact .cons ⟨.i z,.i hw,rfl,rfl⟩ .nil
   ·rename_i hu
    cases h
    obtain ⟨z,rfl,-⟩:=DataW.trod_bool hu hx
    exact .cons ⟨.b z,.b,rfl,rfl⟩ .nil
   ·rename_i hu
    cases h
    obtain ⟨z,rfl,-,hs⟩:=DataW.trod_string hu hx
    exact .cons ⟨.s z,.s hs,rfl,rfl⟩ .nil
   ·rename_i e hu
    obtain ⟨a,len,cap,rfl,hlm⟩:=slice_form hu hx
    split at h
    ·rename_i k hks
     split at h
     ·rename_i hc
      cases h
      obtain ⟨xs,h1,h2,h3,h4⟩:=rows_of_slice er hu hks (by simp) (by simpa using hc) hx
      obtain ⟨e1,e2⟩:=one_ints h3
      refine .cons ⟨.is (xs.map fun r=>(r.getD 0 (.i 0)).n),.l e2 (by simp [h1]; exact hlm),⟨a,cap,by simp [FC.li,h1],by simpa [FC.li,h1] using h2,?_⟩,rfl⟩ .nil
      rcases h4 with h4 | ⟨blk,off,h4,h5⟩
      ·left; rw [h4]; rfl
      ·right; exact ⟨blk,off,h4,by show RoRow _ _ _ ((xs.map fun r=>(r.getD 0 (.i 0)).n).map (.int k)); rw [← e1]; exact h5⟩
     ·cases h
    ·rename_i ks' _ hks
     split at h
     ·rename_i hc
      cases h
      obtain ⟨xs,h1,h2,h3,h4⟩:=rows_of_slice er hu hks hc.1 hc.2 hx
      exact .cons ⟨.rs xs,.lr h3 (by rw [h1]; exact hlm),⟨a,cap,by simp [FC.lr,h1],by simpa [FC.lr,h1] using h2,hc.1,h4⟩,rfl⟩ .nil
     ·cases h
    ·cases h
   ·rename_i fs hu
    split at h
    ·rename_i ks' hks
     split at h
     ·rename_i hl
      cases h
      unfold DataW.trod at hx
      rw [hu] at hx
      simp only at hx
      split at hx
      ·rename_i hcs
       cases hm:(fs.toList.mapM fun f=>DataW.trod enc P w base sp held m f.type ((cs.drop f.offset).take (P.cellsOf f.type))) with
       | none=>rw [hm] at hx; cases hx
       | some xs=>
         have:=pkFs_cells (fun {_ _ _ _} a b=>pkT_cells er a b) hks hm
         rwa [List.drop_zero,List.take_of_length_le (by omega)] at this
      ·cases hx
     ·cases h
    ·cases h
   ·cases h
theorem tab_of (er:Nat→Option Value) {n m:Nat} {e:TypeId} {sch:List Part} {a:Addr} {len:Nat} (hks:pkT P n e=some sch) (hc:P.cellsOf e=schSize sch)
  (hel:∀ i,i<len→∃ cs x,w.cells? base (a.add (i * P.cellsOf e)) (P.cellsOf e)=some cs∧DataW.trod enc P w base sp held m e cs=some x) :
  ∃ (xs:List (List FC)) (vs:List Value),xs.length=len∧(∀ r∈xs,R2 PkOk sch r)∧TabOk sch xs∧R2 (FR (topEnv w er)) (tabNC sch xs) vs∧vs.length=len * schSize sch∧∀ j v,vs[j]? = some v→w.cell? (a.add j)=some v:=by
 induction len with
 | zero=>exact ⟨[],[],rfl,(fun r h=>by cases h),(fun r h=>by cases h),.nil,by simp,(fun j v h=>by simp at h)⟩
 | succ len ih=>
   obtain ⟨xs,vs,hl,hok,ht,hr,hvl,hcell⟩:=ih fun i hi=>hel i (by omega)
   obtain ⟨cs,x,h1,h2⟩:=hel len (by omega)
   obtain ⟨row,r1,r2,r3⟩:=PV.row (pkT_cells er hks h2)
   obtain ⟨h3,h4⟩:=cells_get h1
   refine ⟨xs++[row],vs++cs,by simp [hl],fun r hm=>?_,fun r hm=>?_,?_,?_,fun j v hj=>?_⟩
   ·rcases List.mem_append.1 hm with h | h
    ·exact hok r h
    ·rw [List.mem_singleton.1 h]; exact r1
   ·rcases List.mem_append.1 hm with h | h
    ·exact ht r h
    ·rw [List.mem_singleton.1 h]; exact r3
   ·rw [tabNC_append]
    refine hr.append ?_
    have:tabNC sch [row]=segFlat (rowSegs sch row 0):=by simp [tabNC]
    rw [this]; exact r2
   ·rw [List.length_append,hvl,h3,hc,Nat.succ_mul]
   ·rw [List.getElem?_append] at hj
    split at hj
    ·exact hcell j v hj
    ·rename_i hlt
     have:=h4 _ _ hj
     rw [hc] at this
     rw [hvl] at this hlt
     rw [show j=len * schSize sch+(j - len * schSize sch) by omega,← Addr.add_add]
     exact this
theorem tab_of_slice {n m:Nat} {t e:TypeId} {sch:List Part} {a:Option Addr} {len cap:Nat} {x:DataW H × List MemPlace} (er:Nat→Option Value) (hu:P.underlying t=some (.slice e)) (hks:pkT P n e=some sch) (h0:0<schSize sch) (hc:P.cellsOf e=schSize sch)
  (h:DataW.trod enc P w base sp held m t [.slice a len cap]=some x) :
  ∃ xs:List (List FC),xs.length=len∧len≤cap∧(∀ r∈xs,R2 PkOk sch r)∧TabOk sch xs∧(xs=[]∨∃ blk off vs,a=some ⟨blk,off,none⟩∧RoRow (topEnv w er) blk off vs∧R2 (FR (topEnv w er)) (tabNC sch xs) vs):=by
 rcases DataW.trod_slice hu h with ⟨hcs,_⟩ | ⟨a',len',cap',elems,rest,n',_,hcs,_,_,hl,_,hlen,hel,_⟩
 ·simp at hcs
  obtain ⟨rfl,rfl,rfl⟩:=hcs
  exact ⟨[],rfl,Nat.le_refl _,(fun r h=>by cases h),(fun r h=>by cases h),.inl rfl⟩
 ·simp at hcs
  obtain ⟨rfl,rfl,rfl⟩:=hcs
  obtain ⟨xs,vs,h1,h2,h2',h3,h3',h4⟩:=tab_of (H:=H) (enc:=enc) (w:=w) (base:=base) (sp:=sp) (held:=held) (m:=n') (a:=a') (len:=len) er hks hc fun i hi=>by
   have hE:=hel i hi
   rw [List.getElem?_eq_getElem (by omega:i<elems.length)] at hE
   simp only [Option.bind_eq_some_iff] at hE
   obtain ⟨cs,h1,h2⟩:=hE
   exact ⟨cs,_,h1,h2⟩
  refine ⟨xs,h1,hl,h2,h2',?_⟩
  by_cases hx:xs=[]
  ·exact .inl hx
  ·right
   have hne:vs≠[]:=by
    intro he
    rw [he] at h3'
    have hp:0<xs.length:=List.length_pos_iff.2 hx
    have:=Nat.mul_pos (h1 ▸ hp) h0
    rw [← h3'] at this
    simp at this
   obtain ⟨blk,off,rfl,hr⟩:=roRow_of er hne h4
   exact ⟨blk,off,vs,rfl,hr,h3⟩
theorem open_one {t:TypeId} {v:Value} {d:DataW H} {p:List MemPlace} {sh:Sh} {b0:Nat} (er:Nat→Option Value) (hsh:shT P t=some sh) (hval:Value.okWide P w .any b0 t v) (h:DataW.Trod enc P w base sp held t v d p) :
  ∃ x,VRel (topEnv w er) x v∧ShOk sh x:=by
 unfold shT at hsh
 split at hsh
 ·rename_i k hu
  cases hsh
  obtain ⟨n,rfl,-,-,hw⟩:=open_int hu hval h
  exact ⟨.c (.i k n),⟨rfl,rfl⟩,.i hw⟩
 ·rename_i hu
  cases hsh
  obtain ⟨n,rfl,-⟩:=open_bool hu hval h
  exact ⟨.c (.b n),⟨rfl,rfl⟩,.b⟩
 ·rename_i hu
  cases hsh
  obtain ⟨n,rfl,-,-,hs⟩:=open_string hu hval h
  exact ⟨.c (.s n),⟨rfl,rfl⟩,.s hs⟩
 ·rename_i e hu
  obtain ⟨a,len,cap,rfl⟩:=okWide_slice hu hval
  obtain ⟨fuel,hf⟩:=h
  have hf' : DataW.trod enc P w base sp held fuel t [.slice a len cap]=some (d,p):=by simpa [Value.cells] using hf
  split at hsh
  ·rename_i k hks
   split at hsh
   ·rename_i hc
    cases hsh
    obtain ⟨xs,h1,h2,h3,h4⟩:=rows_of_slice er hu hks (by simp) (by simpa using hc) hf'
    obtain ⟨e1,e2⟩:=one_ints h3
    refine ⟨.c (.l k (xs.map fun r=>(r.getD 0 (.i 0)).n)),⟨⟨a,cap,by simp [h1],by simpa [h1] using h2,?_⟩,rfl⟩,.row e2⟩
    rcases h4 with h4 | ⟨blk,off,h4,h5⟩
    ·left; rw [h4]; rfl
    ·right; exact ⟨blk,off,h4,by rw [← e1]; exact h5⟩
   ·cases hsh
  ·rename_i ks _ hks
   split at hsh
   ·rename_i hc
    cases hsh
    obtain ⟨xs,h1,h2,h3,h4⟩:=rows_of_slice er hu hks hc.1 hc.2 hf'
    exact ⟨.c (.lr ks xs),⟨⟨a,cap,by rw [h1],by rw [h1]; exact h2,hc.1,h4⟩,rfl⟩,.rows h3⟩
   ·cases hsh
  ·split at hsh
   ·rename_i sch hks
    split at hsh
    ·rename_i hc
     cases hsh
     obtain ⟨xs,h1,h2,h3,h4,h5⟩:=tab_of_slice er hu hks hc.1 hc.2 hf'
     obtain ⟨_,_,_,he,hlm⟩:=slice_form hu hf'
     have hlm:xs.length≤maxLen:=by
      simp at he
      rw [h1,he.2.1]; exact hlm
     exact ⟨.c (.lt sch xs),⟨⟨a,cap,by rw [h1],by rw [h1]; exact h2,hc.1,h4,h5⟩,rfl⟩,.tab h3 hlm⟩
    ·cases hsh
   ·cases hsh
 ·rename_i fs hu
  split at hsh
  ·rename_i ks hks
   split at hsh
   ·cases hsh
    simp only [Value.okWide,hu] at hval
    obtain ⟨cs,rfl,-⟩:=hval
    obtain ⟨fuel,hf⟩:=h
    obtain ⟨row,e1,hr⟩:=CV.row (ksT_cells hks hf)
    have e1' : cs.toList=rowVals ks row:=by simpa [Value.cells] using e1
    exact ⟨.ag (rowCells ks row),⟨cs.toList,by simp,by rw [e1']; exact rowCells_rel _ ks row⟩,.ag hr⟩
   ·cases hsh
  ·split at hsh
   ·rename_i ms hms
    cases hsh
    simp only [Value.okWide,hu] at hval
    obtain ⟨cs,rfl,-⟩:=hval
    obtain ⟨fuel,hf⟩:=h
    obtain ⟨xs,h1,h2⟩:=MV.row (topEnv w er) (msT_cells hms hf)
    exact ⟨.ag xs,⟨cs.toList,by simp,by simpa [Value.cells] using h2⟩,.mix h1⟩
   ·cases hsh
 ·rename_i q e hu
  split at hsh
  ·rename_i ks hks
   split at hsh
   ·cases hsh
    simp only [Value.okWide,hu] at hval
    obtain ⟨cs,rfl,-⟩:=hval
    obtain ⟨fuel,hf⟩:=h
    obtain ⟨row,e1,hr⟩:=CV.row (ksT_cells hks hf)
    have e1' : cs.toList=rowVals ks row:=by simpa [Value.cells] using e1
    exact ⟨.ag (rowCells ks row),⟨cs.toList,by simp,by rw [e1']; exact rowCells_rel _ ks row⟩,.ag hr⟩
   ·cases hsh
  ·cases hsh
 ·cases hsh
theorem open_all (er:Nat→Option Value) {b0:Nat}:∀ {ts:List TypeId} {shs:List Sh} {vs:List Value} {ds:List (DataW H)} {ps:List MemPlace},mapL (shT P) ts=some shs→(∀ (j:Nat) t v,ts[j]? = some t→vs[j]? = some v→Value.okWide P w .any b0 t v)→
  DataW.TrodAll enc P w base sp held ts vs ds ps→∃ xs,R2 (VRel (topEnv w er)) xs vs∧R2 ShOk shs xs
 | [],shs,vs,ds,ps,hs,_,h=>by
   simp [mapL] at hs
   subst hs
   obtain ⟨rfl,rfl,rfl⟩:=trodAll_nil h
   exact ⟨[],.nil,.nil⟩
 | t::ts,shs,vs,ds,ps,hs,hval,h=>by
   obtain ⟨v,vs',d,ds',p,q,rfl,rfl,rfl,h1,h2⟩:=trodAll_cons h
   simp only [mapL] at hs
   split at hs
   ·rename_i a l ha hl
    cases hs
    obtain ⟨x,r1,o1⟩:=open_one er ha (hval 0 t v rfl rfl) h1
    obtain ⟨xs,r2,o2⟩:=open_all er hl (fun j t v ht hv=>hval (j+1) t v ht hv) h2
    exact ⟨x::xs,.cons r1 r2,.cons o1 o2⟩
   ·cases hs
end
theorem stays_all {H:Type} {enc:TypeId × Value→H} {P:Program} {W W' : World} (hl:laidOutB P=true) (hb:Below W.heap.size W W'):∀ {ts:List TypeId} {vs:List Value} {ds:List (DataW H)} {ps:List MemPlace},(ts.all fun t=>P.readableRec t&&decide (t<P.types.size))=true→
  DataW.TrodAll enc P W 0 (fun _=>true) true ts vs ds ps→DataW.TrodAll enc P W' 0 (fun b=>decide (b<W.heap.size)) true ts vs ds ps
 | [],vs,ds,ps,_,h=>by
   obtain ⟨rfl,rfl,rfl⟩:=trodAll_nil h
   rfl
 | t::ts,vs,ds,ps,hr,h=>by
   obtain ⟨v,vs',d,ds',p,q,rfl,rfl,rfl,h1,h2⟩:=trodAll_cons h
   simp only [List.all_cons,Bool.and_eq_true,decide_eq_true_eq] at hr
   have lt:∀ x∈p,x.block<W.heap.size:=by obtain ⟨m,hm⟩:=h1; exact DataW.trod_lt m _ _ _ hm
   exact trodAll_cons_mk (Below.trod hl hr.1.1 hr.1.2 h1 hb lt) (stays_all hl hb (by simpa using hr.2) h2)
theorem trodAll_length {H:Type} {enc:TypeId × Value→H} {P:Program} {W:World} {base:Nat} {sp:Nat→Bool} {held:Bool}:∀ {ts:List TypeId} {vs:List Value} {ds:List (DataW H)} {ps:List MemPlace},DataW.TrodAll enc P W base sp held ts vs ds ps→ds.length=ts.length
 | [],vs,ds,ps,h=>by obtain ⟨rfl,rfl,rfl⟩:=trodAll_nil h; rfl
 | t::ts,vs,ds,ps,h=>by
   obtain ⟨v,vs',d,ds',p,q,rfl,rfl,rfl,h1,h2⟩:=trodAll_cons h
   simp [trodAll_length h2]
end Go.Nx
namespace Go.Nx
open Go
def Weak (o o' : Out):Prop:=∀ (Γ0 Γ:Env) (w0 w:World) (v:Value),Ext Γ0 w0 Γ→SRel Γ o.res v→WRel Γ o.rg w→∃ Γ',Ext Γ0 w0 Γ'∧SRel Γ' o'.res v∧WRel Γ' o'.rg w
theorem Weak.refl (o:Out):Weak o o:=fun _ Γ _ _ _ h1 h2 h3=>⟨Γ,h1,h2,h3⟩
theorem Weak.trans {a b c:Out} (h:Weak a b) (k:Weak b c):Weak a c:=fun Γ0 Γ w0 w v h1 h2 h3=>by
 obtain ⟨Γ',h4,h5,h6⟩:=h Γ0 Γ w0 w v h1 h2 h3
 exact k Γ0 Γ' w0 w v h4 h5 h6
theorem Known.weak {P:Program} {gl:List Nat} {f:FuncId} {T T' : Con} (h:Known P gl f T) (hT:∀ args regs R,(T' args regs).run R→(T args regs).run fun o=>∃ o',Weak o o'∧R o'):Known P gl f T':=by
 refine ⟨h.goes,fun args regs R hR Γ w vs hw hG hv hn=>?_⟩
 refine (h.sound args regs _ (hT args regs R hR) Γ w vs hw hG hv hn).mono ?_
 rintro e w' ⟨o,v,Γ',⟨o',hO,ho⟩,he,hE,hS,hW,hd⟩
 obtain ⟨Γ'',h1,h2,h3⟩:=hO Γ Γ' w w' v hE hS hW
 exact ⟨o',v,Γ'',ho,he,h1,h2,h3,hd⟩
theorem WRel.fewer {Γ:Env} {rg rg' : List (Option Reg)} {w:World} (h:WRel Γ rg w) (hs:∀ (n:Nat) (g:Reg),rg'[n]? = some (some g)→rg[n]? = some (some g)):WRel Γ rg' w:=by
 have hl:∀ n:Nat,Nx.live rg' n→Nx.live rg n:=fun n ⟨g,hg⟩=>⟨g,hs n g hg⟩
 exact ⟨fun n g hg=>h.live n g (hs n g hg),fun n m B B' hne ha hb=>h.inj n m B B' hne (hl n ha) (hl m hb),h.kp,fun n B hn=>h.apart n B (hl n hn),h.ro⟩
theorem Weak.drop {x:NS} {rg rg' : List (Option Reg)} (hs:∀ (n:Nat) (g:Reg),rg'[n]? = some (some g)→rg[n]? = some (some g)):Weak ⟨x,rg⟩ ⟨x,rg'⟩:=
 fun _ Γ _ _ _ h1 h2 h3=>⟨Γ,h1,h2,h3.fewer hs⟩
def WeakF (o o' : Out):Prop:=∀ (Γ0 Γ:Env) (w0 w:World) (v:Value),Ext Γ0 w0 Γ→SRel Γ o.res v→WRel Γ o.rg w→(∀ n,o.rg.length≤n→Γ.μ n=none)→
 ∃ Γ',Ext Γ0 w0 Γ'∧SRel Γ' o'.res v∧WRel Γ' o'.rg w∧∀ n,o'.rg.length≤n→Γ'.μ n=none
theorem WeakF.refl (o:Out):WeakF o o:=fun _ Γ _ _ _ h1 h2 h3 h4=>⟨Γ,h1,h2,h3,h4⟩
theorem WeakF.trans {a b c:Out} (h:WeakF a b) (k:WeakF b c):WeakF a c:=fun Γ0 Γ w0 w v h1 h2 h3 h4=>by
 obtain ⟨Γ',h5,h6,h7,h8⟩:=h Γ0 Γ w0 w v h1 h2 h3 h4
 exact k Γ0 Γ' w0 w v h5 h6 h7 h8
theorem KnownF.weak {P:Program} {gl:List Nat} {f:FuncId} {T T' : Con} (h:KnownF P gl f T) (hT:∀ args regs R,(T' args regs).run R→(T args regs).run fun o=>∃ o',WeakF o o'∧R o'):KnownF P gl f T':=by
 refine ⟨h.goes,fun args regs R hR Γ w vs hw hG hv hn=>?_⟩
 refine (h.sound args regs _ (hT args regs R hR) Γ w vs hw hG hv hn).mono ?_
 rintro e w' ⟨o,v,Γ',⟨⟨o',hO,ho⟩,hf⟩,he,hE,hS,hW,hd⟩
 obtain ⟨Γ'',h1,h2,h3,h4⟩:=hO Γ Γ' w w' v hE hS hW hf
 exact ⟨o',v,Γ'',⟨ho,h4⟩,he,h1,h2,h3,hd⟩
inductive RC where
 | t (c:Bool)
 | f (c:Bool)
 | m (p:Prop)
 | T (n:Nat)
 | F (n:Nat)
def scr:List RC→List Bool
 | []=>[]
 | .t _::l=>true::scr l
 | .f _::l=>false::scr l
 | .m _::l=>scr l
 | .T n::l=>List.replicate n true++scr l
 | .F n::l=>List.replicate n false++scr l
def Tr.fol {α:Type}:Tr α→List Bool→Tr α
 | .ret a,_=>.ret a
 | .must p x,bs=>.must p (x.fol bs)
 | .br _ _ _,[]=>.fail
 | .br c x _,true::bs=>.must (c=true) (x.fol bs)
 | .br c _ y,false::bs=>.must (c=false) (y.fol bs)
 | .all p h f,bs=>.all p h fun i=>(f i).fol bs
 | .fail,_=>.fail
theorem Tr.fol_run {α:Type} {R:α→Prop}:∀ (t:Tr α) (bs:List Bool),(t.fol bs).run R→t.run R
 | .ret _,_,h=>h
 | .must _ x,bs,h=>⟨h.1,fol_run x bs h.2⟩
 | .br _ _ _,[],h=>h.elim
 | .br _ x _,true::bs,h=>sel_iff.2 (.inl ⟨h.1,fol_run x bs h.2⟩)
 | .br _ _ y,false::bs,h=>sel_iff.2 (.inr ⟨h.1,fol_run y bs h.2⟩)
 | .all _ _ f,bs,h=>fun i hi=>fol_run (f i) bs (h i hi)
 | .fail,_,h=>h
def rep:Nat→Prop→Prop→Prop
 | 0,_,A=>A
 | n+1,p,A=>p∧rep n p A
def road:List RC→Prop→Prop
 | [],A=>A
 | .t c::l,A=>c=true∧road l A
 | .f c::l,A=>c=false∧road l A
 | .m p::l,A=>p∧road l A
 | .T n::l,A=>rep n (true=true) (road l A)
 | .F n::l,A=>rep n (false=false) (road l A)
def conds:List RC→Prop
 | []=>True
 | .t c::l=>c=true∧conds l
 | .f c::l=>c=false∧conds l
 | .m p::l=>p∧conds l
 | .T _::l=>conds l
 | .F _::l=>conds l
theorem rep_in {p A:Prop} (hp:p) (hA:A):∀ n,rep n p A
 | 0=>hA
 | n+1=>⟨hp,rep_in hp hA n⟩
theorem road_in {A:Prop}:∀ {l:List RC},conds l→A→road l A
 | [],_,hA=>hA
 | .t _::_,h,hA=>⟨h.1,road_in h.2 hA⟩
 | .f _::_,h,hA=>⟨h.1,road_in h.2 hA⟩
 | .m _::_,h,hA=>⟨h.1,road_in h.2 hA⟩
 | .T n::l,h,hA=>rep_in rfl (road_in (l:=l) h hA) n
 | .F n::l,h,hA=>rep_in rfl (road_in (l:=l) h hA) n
theorem by_road {α:Type} {t:Tr α} {R:α→Prop} {l:List RC} {A:Prop} (h:(t.fol (scr l)).run R=road l A) (hc:conds l) (hA:A):t.run R:=Tr.fol_run _ _ (h.mpr (road_in hc hA))
def NC.noE (K:Nat):NC→Bool
 | .e k=>k !=K
 | _=>true
def NV.noE (K:Nat) (x:NV):Bool:=x.ncs.all (NC.noE K)
def NS.noE (K:Nat):NS→Bool
 | .v x=>x.noE K
 | .tu l=>l.all (NV.noE K)
 | .dead=>true
def rgNoE (K:Nat) (l:List (Option Reg)):Bool:=l.all fun g=>match g with
 | some {body:=.cells xs,..}=>xs.all (NC.noE K)
 | some {body:=.sg l,..}=>(segNcs l).all (NC.noE K)
 | _=>true
def yieldArgs (K:Nat) (s:St) (op:Op):Option (List NV):=
 match op with
 | .call c=>(match c.callee with
   | .value f=>(match s.ev f with
     | .v (.c (.e k))=>if k=K then allNV (c.args.toList.map s.ev) else none
     | _=>none)
   | _=>none)
 | _=>none
abbrev Yh:=List NV→List (Option Reg)→Tr (Option NExit × List (Option Reg))
abbrev LI:=List (Nat × List Nat × (St × Option NExit→Tr (NExit × St × Option NExit)))
def ystep {β:Type} (X:Cx) (Y:Yh) (K:Nat) (ops:Array Oper) (o:Oper) (s:St) (p:Option NExit) (k:St→Option NExit→Tr β):Tr β:=
 match yieldArgs K s o.op with
 | none=>nstep ops o (deffW X o.op s.rg.length) s fun s'=>k s' p
 | some args=>
   match p with
   | none=>(match o.guard with
     | none=>(Y args s.rg).bind fun r=>k (St.put {fr:=s.fr,rg:=r.2} o.dst (lit r.1.isNone)) r.1
     | some (j,want)=>(match guardSlot ops j with
       | some d=>(match s.fr[d]? with
         | some (.v (.c (.b x)))=>.must (x=want) ((Y args s.rg).bind fun r=>k (St.put {fr:=s.fr,rg:=r.2} o.dst (lit r.1.isNone)) r.1)
         | _=>.fail)
       | none=>.fail))
   | some _=>.fail
def yops {β:Type} (X:Cx) (Y:Yh) (K:Nat) (ops:Array Oper):List Oper→St→Option NExit→(St→Option NExit→Tr β)→Tr β
 | [],s,p,k=>k s p
 | o::rest,s,p,k=>ystep X Y K ops o s p fun s' p'=>yops X Y K ops rest s' p' k
def nwpI {β:Type} (X:Cx) (Y:Yh) (K:Nat) (ls:LI):Code→St→Option NExit→(NExit→St→Option NExit→Tr β)→Tr β
 | .skip,s,p,k=>k .normal s p
 | .seq a b,s,p,k=>nwpI X Y K ls a s p fun e s' p'=>match e with
   | .normal=>nwpI X Y K ls b s' p' k
   | e=>k e s' p'
 | .cond c a b,s,p,k=>
   (match c,s.ev c with
    | .tmp t,.v (.c (.b x))=>.br x (nwpI X Y K ls a (s.put (some t) (lit true)) p k) (nwpI X Y K ls b (s.put (some t) (lit false)) p k)
    | _,.v (.c (.b x))=>.br x (nwpI X Y K ls a s p k) (nwpI X Y K ls b s p k)
    | _,_=>.fail)
 | .block id c,s,p,k=>
   (match c with
    | .loop _=>
      (match ls.find? (·.1==id) with
       | some (_,live,L)=>(match norm X.m live s with
         | some s'=>(L (s',p)).bind fun x=>k x.1 x.2.1 x.2.2
         | none=>.fail)
       | none=>.fail)
    | c=>nwpI X Y K ls c s p fun e s' p'=>match e with
      | .exit j=>if j=id then k .normal s' p' else k (.exit j) s' p'
      | e=>k e s' p')
 | .exit id,s,p,k=>k (.exit id) s p
 | .ret,s,p,k=>k .ret s p
 | .region _ ops false,s,p,k=>yops X Y K ops ops.toList s p (k .normal)
 | .region _ ops true,s,p,k=>
   (match drawOk X.P ops&&X.P.follows .mixedOrders with
    | true=>ndops X ops s.rg.length (List.range ops.size) {s with rg:=s.rg++List.replicate (16 * ops.size) none} fun s'=>k .normal s' p
    | false=>.fail)
 | _,_,_,_=>.fail
def setAll:List NS→List Tmp→List NV→List NS
 | fr,t::ts,x::xs=>setAll (fr.set t (.v x)) ts xs
 | fr,_,_=>fr
def bodyY (X:Cx) (ps:Array Tmp) (assign body:Code) (fr:List NS):Yh:=fun args rg=>
 if args.length=ps.size then
  nwp {P:=X.P,con:=X.con,glob:=X.glob,m:=rg.length,loops:=[]} assign {fr:=setAll fr ps.toList args,rg:=rg} fun e s1=>match e with
   | .normal=>nwp {P:=X.P,con:=X.con,glob:=X.glob,m:=rg.length,loops:=[]} body s1 fun e s2=>match e with
     | .normal=>.ret (none,s2.rg)
     | e=>.ret (some e,s2.rg)
   | _=>.fail
 else .fail
def outExit (id:Nat):Option NExit→Option NExit
 | none=>some .normal
 | some (.exit j)=>if j=id then some .normal else some (.exit j)
 | some .ret=>some .ret
 | some .normal=>none
def rangeEnd (X:Cx) (K id:Nat) (out:List Nat) (fr:List NS) (s:St) (p:Option NExit):Tr (NExit × St):=
 match rgNoE K s.rg,outExit id p,norm X.m out {fr:=fr,rg:=s.rg} with
 | true,some e,some s''=>.ret (e,s'')
 | _,_,_=>.fail
def rangeT (X:Cx) (K:Nat) (con:FuncId→Option Con) (ls:Nat→List NS→LI) (id:Nat) (out:List Nat) (gf:FuncId) (fn:Func) (c:Code) (s:St):Tr (NExit × St):=
 match c with
 | .rangeFunc g ps assign body=>
   (match s.ev g with
    | .v (.c (.cl gf' cap))=>
      (match decide (gf'=gf)&&s.fr.all (NS.noE K)&&rgNoE K s.rg&&!X.glob.tail.contains K,fn.body with
       | true,some cg=>nwpI {P:=X.P,con:=con,glob:=X.glob,m:=s.rg.length,loops:=[]} (bodyY X ps assign body s.fr) K (ls s.rg.length s.fr) cg
          {fr:=(.v (.c (.e K))::cap.map fun x=>.v (.c (.p x.1 x.2.1 x.2.2)))++List.replicate (fn.ntmps - (1+cap.length)) .dead,rg:=s.rg} none
          fun e s' p=>match e with
           | .exit _=>.fail
           | _=>rangeEnd X K id out s.fr s' p
       | _,_=>.fail)
    | _=>.fail)
 | _=>.fail
def Env.setE (K:Nat) (v:Value) (Γ:Env):Env:={μ:=Γ.μ,kp:=Γ.kp,ro:=Γ.ro,er:=fun k=>if k=K then some v else Γ.er k}
structure SwapE (K:Nat) (Γ Γ' : Env):Prop where
 μ:Γ'.μ=Γ.μ
 kp:Γ'.kp=Γ.kp
 ro:Γ'.ro=Γ.ro
 er:∀ k,k≠K→Γ'.er k=Γ.er k
theorem SwapE.set (K:Nat) (v:Value) (Γ:Env):SwapE K Γ (Γ.setE K v):=⟨rfl,rfl,rfl,fun _ h=>if_neg h⟩
section
variable {K:Nat} {Γ Γ' : Env}
theorem SwapE.pt (h:SwapE K Γ Γ') (n:Nat):Γ'.pt n=Γ.pt n:=by unfold Env.pt; rw [h.μ]
theorem SwapE.wh (h:SwapE K Γ Γ') (n:Nat):Γ'.wh n=Γ.wh n:=by unfold Env.wh; rw [h.μ]
theorem SwapE.roRow (h:SwapE K Γ Γ') {b o:Nat} {vs:List Value} (r:RoRow Γ b o vs):RoRow Γ' b o vs:=by
 obtain ⟨h1,c,e,fz,h2,h3⟩:=r
 exact ⟨by rw [h.ro]; exact h1,c,e,fz,by rw [h.kp]; exact h2,h3⟩
theorem SwapE.fr (h:SwapE K Γ Γ') {x:NC} {v:Value} (r:FR Γ x v):FR Γ' x v:=by
 refine ⟨?_,r.2⟩
 replace r:=r.1
 cases x with
 | l k xs=>
   obtain ⟨a,cap,h1,h2,h3⟩:=r
   exact ⟨a,cap,h1,h2,h3.imp id fun ⟨blk,off,h4,h5⟩=>⟨blk,off,h4,h.roRow h5⟩⟩
 | lr ks xs=>
   obtain ⟨a,cap,h1,h2,h0,h3⟩:=r
   exact ⟨a,cap,h1,h2,h0,h3.imp id fun ⟨blk,off,h4,h5⟩=>⟨blk,off,h4,h.roRow h5⟩⟩
 | _=>exact r
theorem SwapE.rowV (h:SwapE K Γ Γ') {sch:List Part} {row:List FC} {v:Value} (r:RowV Γ sch row v):RowV Γ' sch row v:=by
 obtain ⟨vs,h1,h2,h3⟩:=r
 exact ⟨vs,h1,h2.imp fun _ _ r=>h.fr r,h3⟩
theorem SwapE.crel (h:SwapE K Γ Γ') {x:NC} {v:Value} (hx:x.noE K=true) (r:CRel Γ x v):CRel Γ' x v:=by
 cases x with
 | p r' i c=>obtain ⟨B,h1,h2⟩:=r; exact ⟨B,by rw [h.pt]; exact h1,h2⟩
 | h r' o n=>obtain ⟨B,o,cap,h1,h2⟩:=r; exact ⟨B,o,cap,by rw [h.wh]; exact h1,h2⟩
 | hz r' n=>
   rcases r with ⟨h1,h2,B,h3⟩ | ⟨B,o,cap,h1,h2⟩
   ·exact .inl ⟨h1,h2,B,by rw [h.μ]; exact h3⟩
   ·exact .inr ⟨B,o,cap,by rw [h.wh]; exact h1,h2⟩
 | q r' o w i c=>obtain ⟨B,h1,h2⟩:=r; exact ⟨B,by rw [h.pt]; exact h1,h2⟩
 | hq r' o w i n=>obtain ⟨B,a,cap,h1,h2⟩:=r; exact ⟨B,a,cap,by rw [h.pt]; exact h1,h2⟩
 | l k xs=>
   obtain ⟨a,cap,h1,h2,h3⟩:=r
   exact ⟨a,cap,h1,h2,h3.imp id fun ⟨blk,off,h4,h5⟩=>⟨blk,off,h4,h.roRow h5⟩⟩
 | lr ks xs=>
   obtain ⟨a,cap,h1,h2,h0,h3⟩:=r
   exact ⟨a,cap,h1,h2,h0,h3.imp id fun ⟨blk,off,h4,h5⟩=>⟨blk,off,h4,h.roRow h5⟩⟩
 | pl k xs i=>obtain ⟨blk,off,h1,h2⟩:=r; exact ⟨blk,off,h1,h.roRow h2⟩
 | pr ks xs i c=>obtain ⟨blk,off,h1,h2⟩:=r; exact ⟨blk,off,h1,h.roRow h2⟩
 | m r'=>obtain ⟨B,h1,h2⟩:=r; exact ⟨B,by rw [h.pt]; exact h1,h2⟩
 | lt sch xs=>
   obtain ⟨a,cap,h1,h2,h0,hk,h3⟩:=r
   exact ⟨a,cap,h1,h2,h0,hk,h3.imp id fun ⟨b,o,vs,h4,h5,h6⟩=>⟨b,o,vs,h4,h.roRow h5,h6.imp fun _ _ r=>h.fr r⟩⟩
 | pt sch xs i c=>
   obtain ⟨b,o,vs,h1,h0,hk,h2,h3⟩:=r
   exact ⟨b,o,vs,h1,h0,hk,h.roRow h2,h3.imp fun _ _ r=>h.fr r⟩
 | e k=>
   have hk:k≠K:=by simpa [NC.noE] using hx
   show Γ'.er k=some v
   rw [h.er k hk]; exact r
 | cl f cap=>
   obtain ⟨caps,h1,h2⟩:=r
   exact ⟨caps,h1,h2.imp fun a b ⟨B,h3,h4⟩=>⟨B,by rw [h.pt]; exact h3,h4⟩⟩
 | _=>exact r
theorem SwapE.cells (h:SwapE K Γ Γ') {xs:List NC} {vs:List Value} (hx:xs.all (NC.noE K)=true) (r:R2 (CR Γ) xs vs):R2 (CR Γ') xs vs:=
 r.imp_mem fun x _ hm r=>⟨h.crel (List.all_eq_true.1 hx x hm) r.1,r.2⟩
theorem flat_noE {l:List Seg} (h:(segNcs l).all (NC.noE K)=true):(segFlat l).all (NC.noE K)=true:=by
 rw [List.all_eq_true] at h ⊢
 intro x hx
 rcases segNcs_mem hx with hx | ⟨k,s,rfl⟩
 ·exact h x hx
 ·cases k <;> rfl
theorem SwapE.vrel (h:SwapE K Γ Γ') {x:NV} {v:Value} (hx:x.noE K=true) (r:VRel Γ x v):VRel Γ' x v:=by
 cases x with
 | c x=>exact ⟨h.crel (by simpa [NV.noE,NV.ncs] using hx) r.1,r.2⟩
 | ag xs=>obtain ⟨vs,h1,h2⟩:=r; exact ⟨vs,h1,h.cells hx h2⟩
 | sg l=>obtain ⟨vs,h1,h2,h3⟩:=r; exact ⟨vs,h1,h.cells (flat_noE hx) h2,h3⟩
theorem SwapE.srel (h:SwapE K Γ Γ') {x:NS} {v:Value} (hx:x.noE K=true) (r:SRel Γ x v):SRel Γ' x v:=by
 cases x with
 | v x=>exact h.vrel hx r
 | tu l=>obtain ⟨vs,h1,h2⟩:=r; exact ⟨vs,h1,h2.imp_mem fun x _ hm r=>h.vrel (List.all_eq_true.1 hx x hm) r⟩
 | dead=>trivial
theorem SwapE.frame (h:SwapE K Γ Γ') {fr:List NS} {t:Array Value} (hx:fr.all (NS.noE K)=true) (r:FrRel Γ fr t):FrRel Γ' fr t:=
 R2.imp_mem r fun x _ hm r=>h.srel (List.all_eq_true.1 hx x hm) r
theorem SwapE.body (h:SwapE K Γ Γ') {st:Nat} {b:Body} {vs:List Value} (hx:∀ xs,b=.cells xs→xs.all (NC.noE K)=true) (hs:∀ l,b=.sg l→(segNcs l).all (NC.noE K)=true) (r:BodyRel Γ st b vs):BodyRel Γ' st b vs:=by
 cases b with
 | cells xs=>obtain ⟨l1,l2,h1,h2⟩:=r; exact ⟨l1,l2,h1,h.cells (hx xs rfl) h2⟩
 | sg l=>obtain ⟨l1,l2,h1,h2,h3⟩:=r; exact ⟨l1,l2,h1,h.cells (flat_noE (hs l rfl)) h2,h3⟩
 | ints k xs=>exact r
 | recs ks xs=>exact r
 | mp ks sch xs=>exact r
 | tab sch xs=>obtain ⟨hs,h0,l1,l2,h1,h2,h3⟩:=r; exact ⟨hs,h0,l1,l2,h1,h2.imp fun _ _ r=>h.fr r,h3⟩
theorem SwapE.world (h:SwapE K Γ Γ') {rg:List (Option Reg)} {w:World} (hx:rgNoE K rg=true) (r:WRel Γ rg w):WRel Γ' rg w:=by
 refine ⟨fun n g hg=>?_,fun n m B B' hne hn hm hB hB'=>r.inj n m B B' hne hn hm (by rw [← h.pt]; exact hB) (by rw [← h.pt]; exact hB'),by rw [h.kp]; exact r.kp,fun n B hn hB=>by rw [h.kp]; exact r.apart n B hn (by rw [← h.pt]; exact hB),by rw [h.ro,h.kp]; exact r.ro⟩
 obtain ⟨B,hB,hr⟩:=r.live n g hg
 refine ⟨B,by rw [h.μ]; exact hB,?_⟩
 rcases hr with hr | ⟨h0,c,hA⟩ | ⟨h0,hM⟩
 ·exact .inl hr
 rotate_left
 ·obtain ⟨⟨ks,sch,xs,es,ck,h1,h2,h3⟩,h4,h5⟩:=hM
  exact .inr (.inr ⟨h0,⟨ks,sch,xs,es,ck,h1,h2,h3.imp fun _ _ r=>⟨h.rowV r.1,h.rowV r.2⟩⟩,h4,h5⟩)
 refine .inr (.inl ⟨h0,c,hA.heap,hA.st,hA.sz,h.body (fun xs hb=>?_) (fun l hb=>?_) hA.body,hA.part⟩)
 ·have:=List.all_eq_true.1 hx (some g) (List.mem_of_getElem? hg)
  obtain ⟨st,e,body⟩:=g
  simp only at hb
  subst hb
  exact this
 ·have:=List.all_eq_true.1 hx (some g) (List.mem_of_getElem? hg)
  obtain ⟨st,e,body⟩:=g
  simp only at hb
  subst hb
  exact this
theorem SwapE.glob (h:SwapE K Γ Γ') {gl:List Nat} (hx:gl.tail.contains K=false) (r:GlobOk gl Γ):GlobOk gl Γ':=by
 have hne:∀ x∈gl.tail,x≠K:=fun x hm e=>by
  subst e
  have:gl.tail.contains x=true:=by simpa using hm
  rw [hx] at this; cases this
 refine ⟨fun x hm=>?_,fun x hm y hm' hxy=>by rw [h.er x (hne x hm),h.er y (hne y hm')]; exact r.2 x hm y hm' hxy⟩
 rw [h.er x (hne x hm),h.kp]
 exact r.1 x hm
end
theorem Ext.strip2 {A B:Env} {w:World} (l:List Nat) (h:Ext A w B):Ext (A.strip l) w (B.strip l):=by
 refine ⟨⟨h.le.μ,fun b o hb=>?_,fun b hb=>?_,h.le.er⟩,fun b hb=>?_,h.nw⟩
 ·have hb' : (if b∈l then none else A.kp b)=some o:=hb
  by_cases hm:b∈l
  ·rw [if_pos hm] at hb'; cases hb'
  ·rw [if_neg hm] at hb'; exact (strip_kp_of hm).trans (h.le.kp b o hb')
 ·have hb' : (if b∈l then false else A.ro b)=true:=hb
  by_cases hm:b∈l
  ·rw [if_pos hm] at hb'; cases hb'
  ·rw [if_neg hm] at hb'; exact (strip_ro_of hm).trans (h.le.ro b hb')
 ·have hb' : (if b∈l then false else B.ro b)=true:=hb
  by_cases hm:b∈l
  ·rw [if_pos hm] at hb'; cases hb'
  ·rw [if_neg hm] at hb'
   rcases h.ro b hb' with h1 | h1 | h1
   ·exact .inl ((strip_ro_of hm).trans h1)
   ·exact .inr (.inl h1)
   ·exact .inr (.inr h1)
theorem strip_strip (l:List Nat) (Γ:Env):(Γ.strip l).strip l=Γ.strip l:=by
 unfold Env.strip
 simp only [Env.mk.injEq,true_and,and_true]
 refine ⟨funext fun b=>?_,funext fun b=>?_⟩ <;> (by_cases h:b∈l <;> simp [h])
theorem strip_hold (b:Nat) (o:Obj) (Γ:Env):(Γ.hold b o).strip [b]=Γ.strip [b]:=by
 unfold Env.strip Env.hold
 simp only [Env.mk.injEq,true_and,and_true]
 refine funext fun b'=>?_
 by_cases h:b'=b <;> simp [h]
theorem strip_none (b:Nat) (Γ:Env):(Γ.strip [b]).kp b=none:=if_pos (by simp)
theorem noCells_one {Γ:Env} {b:Nat} {o:Obj} (h:Γ.kp b=some o) (ho:o.isCM=false):NoCells Γ [b]:=fun b' hb=>by
 rw [List.mem_singleton] at hb
 subst hb
 exact ⟨o,h,ho⟩
theorem other_heap {w:World} {b:Nat} {o:Obj}:∀ b',b' ∉ [b]→(w.putObj b o).heap[b']? = w.heap[b']?:=fun b' h=>World.putObj_heap_other (by simpa using h)
theorem putObj_wd (w:World) (b:Nat) (o:Obj):Wd w (w.putObj b o):=⟨rfl,rfl,rfl,by rw [World.putObj_size]; exact Nat.le_refl _⟩
theorem Inv.turn {gl:List Nat} {N:Nat} {Γ:Env} {s:St} {a:Act} {w:World} {b:Nat} {o o' : Obj} (h:Inv gl N Γ s a w) (hk:Γ.kp b=some o) (ho:o.isCM=false) (ho' : o'.isCM=false) (hd:∀ D,N≤D→Γ.kp D=some (.deferred (some []))→D≠b) :
  Inv gl N ((Γ.strip [b]).hold b o') s a (w.putObj b o'):=by
 have hn:=noCells_one hk ho
 have hle:=hold_le (o:=o') (strip_none b Γ)
 have hlt:b<w.heap.size:=(Array.getElem?_eq_some_iff.1 (h.wr.kp b o hk)).1
 refine ⟨(h.wr.strip hn other_heap).hold (strip_none b Γ) (World.putObj_heap_same hlt) ho',(FrRel.strip hn h.fr).mono hle,(h.gl.strip hn).mono hle,h.nw,?_⟩
 obtain ⟨l,h1,h2,h3⟩:=h.df
 refine ⟨l,h1,h2,fun D hD=>⟨(h3 D hD).1,hle.kp _ _ ?_⟩⟩
 exact (strip_kp_of (by simpa using hd D (h3 D hD).1 (h3 D hD).2)).trans (h3 D hD).2
def noWay:Exit→Act→World→Prop:=fun _ _ _=>False
def notDefer:Op→Bool
 | .defer _=>false
 | _=>true
theorem wp_to_in {P:Program} {o:Oper} {a:Act} {w:World} {K K' : Act→World→Prop} {Q0 Q:Exit→Act→World→Prop} (ro:Option Nat) (hd:notDefer o.op=true) (hN:∀ e a w,Q0 e a w→e=.normal) (hKK:∀ a w,K a w→K' a w) (h:o.wp P a w K Q0) :
  o.wpIn {Fence.wide with round:=ro} 0 P a w K' Q:=by
 unfold Oper.wp at h
 refine ⟨fun _ _=>trivial,?_⟩
 have hs:o.semAt ro a.eval=execOp a.eval o:=Oper.semAt_eq ro a.eval o fun c hc=>by rw [hc] at hd; cases hd
 show o.uponIn _ 0 P a K' Q ((o.semAt ro a.eval).run P w)
 rw [hs]
 generalize (execOp a.eval o).run P w=r at h
 cases r with
 | ok n w'=>
   cases n with
   | value v=>exact hKK _ _ h
   | skip=>exact hKK _ _ h
   | defer d=>exact hKK _ _ h
   | enter f args=>
     have h:Calls P f args w' _:=h
     refine ⟨fun hh=>by simp [Fence.wide] at hh,?_⟩
     refine (callsIn_wide (n:=0)).2 (h.mono fun e w2 he=>?_)
     cases e with
     | returned v=>exact hKK _ _ he
     | panicked ch=>cases hN _ _ _ he
     | outgrown=>obtain ⟨_,_,hf⟩:=he; cases hN _ _ _ hf
   | row row args=>
     have h:Rows P row args w' _:=h
     refine ⟨fun hh=>by simp [Fence.wide] at hh,fun c cs _=>?_⟩
     obtain ⟨v,w2,h1,h2⟩:=h c cs
     exact ⟨v,w2,hKK _ _ h1,stepsIn_wide.2 h2⟩
   | _=>exact h.elim
 | halt x w'=>cases x <;> first | exact h.elim | (cases hN _ _ _ h)
theorem nopsIn_sound {β:Type} {N:Nat} {X:Cx} (hcon:∀ f T,X.con f=some T→Known X.P X.glob f T) (ro:Option Nat) {ops:Array Oper} {Q:Exit→Act→World→Prop}:∀ (l:List Oper) {s:St} {Γ:Env} {w:World} {a:Act} {K:St→Tr β} {R:β→Prop},(∀ o∈l,notDefer o.op=true)→Inv X.glob N Γ s a w→(nops X ops l s K).run R→
  (∀ s' a' w' Γ',(K s').run R→Ext Γ w Γ'→Wd w w'→Inv X.glob N Γ' s' a' w'→Q .normal a' w')→wpListIn {Fence.wide with round:=ro} 0 X.P ops Q l a w
 | [],s,Γ,w,a,K,R,_,hI,h,hK=>hK s a w Γ h (Ext.refl Γ w) (Wd.refl w) hI
 | o::rest,s,Γ,w,a,K,R,hd,hI,h,hK=>by
   have hs:=nstep_sound (K':=wpListIn {Fence.wide with round:=ro} 0 X.P ops Q rest) (Q:=noWay) hcon hI h fun s' a' w' Γ' h1 h2 h3 h4=>
    nopsIn_sound hcon ro rest (fun o ho=>hd o (by simp [ho])) h4 h1 fun s2 a2 w2 Γ2 k1 k2 k3 k4=>hK s2 a2 w2 Γ2 k1 (h2.trans h3 k2) (h3.trans k3) k4
   unfold wpListIn
   split at hs
   ·rename_i hw
    rw [if_pos hw]
    rcases hs with hs | ⟨-,_,_,hf⟩
    ·exact wp_to_in ro (hd o (by simp)) (fun _ _ _ h=>h.elim) (fun _ _ h=>h) hs
    ·exact hf.elim
   ·rename_i hw
    rw [if_neg hw]
    exact ⟨fun _ _=>trivial,hs⟩
theorem wpAny_in {P:Program} {ops:Array Oper} {Q0 Q:Exit→Act→World→Prop} (ro:Option Nat) (hd:∀ (i:Nat) (o:Oper),ops[i]? = some o→notDefer o.op=true) (hN:∀ e a w,Q0 e a w→e=.normal) (hQ:∀ a w,Q0 .normal a w→Q .normal a w) :
  ∀ (fuel:Nat) (listed:Array Bool) (a:Act) (w:World),wpAny P .any ops Q0 fuel listed a w→wpAnyIn {Fence.wide with round:=ro} 0 P .any ops Q fuel listed a w
 | 0,listed,a,w,h=>⟨h.1,hQ _ _ h.2⟩
 | fuel+1,listed,a,w,h=>by
   refine ⟨fun e=>hQ _ _ (h.1 e),fun i hi=>?_⟩
   have h1:=h.2 i hi
   unfold wpOp at h1
   unfold wpOpIn
   split at h1
   ·rename_i hi0
    rw [hi0]
    exact wpAny_in ro hd hN hQ fuel _ a w h1
   ·rename_i o hi0
    rw [hi0]
    simp only
    split at h1
    ·rename_i hw
     rw [if_pos hw]
     rcases h1 with h1 | ⟨-,_,_,hf⟩
     ·exact wp_to_in ro (hd i o hi0) hN (fun a w h=>wpAny_in ro hd hN hQ fuel _ a w h) h1
     ·cases hN _ _ _ hf
    ·rename_i hw
     rw [if_neg hw]
     exact ⟨fun _ _=>trivial,wpAny_in ro hd hN hQ fuel _ _ w h1⟩
def simple:Code→Bool
 | .skip | .exit _ | .ret=>true
 | .seq a b=>simple a&&simple b
 | .cond _ a b=>simple a&&simple b
 | .block _ c=>(match c with
   | .loop _=>false
   | .rangeFunc _ _ _ _=>false
   | c=>simple c)
 | .region _ ops _=>ops.toList.all fun o=>notDefer o.op
 | _=>false
theorem nwpR_sound {X:Cx} (hcon:∀ f T,X.con f=some T→Known X.P X.glob f T) (hm:X.P.follows .mixedOrders=true) (lr N:Nat) :
  ∀ (c:Code) {β:Type},simple c=true→∀ {s:St} {Γ:Env} {a:Act} {w:World} {K:NExit→St→Tr β} {R:β→Prop} {Q:Exit→Act→World→Prop},Inv X.glob N Γ s a w→(nwp X c s K).run R→
   (∀ e s' a' w' Γ',(K e s').run R→Ext Γ w Γ'→Wd w w'→Inv X.glob N Γ' s' a' w'→Q (toExit e) a' w')→c.wpIn (Fence.wide.inRound lr) 0 X.P Q a w:=by
 intro c
 induction c with
 | skip=>
   intro β hc s Γ a w K R Q hI h hK
   exact wpIn_skip (hK .normal s a w Γ h (Ext.refl Γ w) (Wd.refl w) hI)
 | exit id=>
   intro β hc s Γ a w K R Q hI h hK
   exact wpIn_exit (hK (.exit id) s a w Γ h (Ext.refl Γ w) (Wd.refl w) hI)
 | ret=>
   intro β hc s Γ a w K R Q hI h hK
   exact wpIn_ret (hK .ret s a w Γ h (Ext.refl Γ w) (Wd.refl w) hI)
 | seq x y ihx ihy=>
   intro β hc s Γ a w K R Q hI h hK
   simp only [simple,Bool.and_eq_true] at hc
   refine wpIn_seq (ihx hc.1 hI h fun e s' a' w' Γ' h' hE' hW' hI'=>?_)
   cases e with
   | normal=>exact ihy hc.2 hI' h' fun e s2 a2 w2 Γ2 k1 k2 k3 k4=>hK e s2 a2 w2 Γ2 k1 (hE'.trans hW' k2) (hW'.trans k3) k4
   | exit id=>exact hK (.exit id) s' a' w' Γ' h' hE' hW' hI'
   | ret=>exact hK .ret s' a' w' Γ' h' hE' hW' hI'
 | cond c x y ihx ihy=>
   intro β hc s Γ a w K R Q hI h hK
   simp only [simple,Bool.and_eq_true] at hc
   have hb:∀ b,s.ev c=.v (.c (.b b))→a.eval c=.bool b:=fun b hb=>by
    have:=ev_rel hI.fr c
    rw [hb] at this
    exact this.1
   simp only [nwp] at h
   split at h
   ·rename_i t b he
    have hslot:s.fr[t]? = some (.v (.c (.b b))):=by
     have:s.fr.getD t .dead=.v (.c (.b b)):=he
     rw [List.getD_eq_getElem?_getD] at this
     cases e:s.fr[t]? with
     | none=>rw [e] at this; cases this
     | some z=>rw [e] at this; simpa using this
    refine wpIn_cond (hb b he) ?_
    rcases sel_iff.1 h with ⟨rfl,h⟩ | ⟨rfl,h⟩
    ·rw [put_lit hslot] at h; exact ihx hc.1 hI h hK
    ·rw [put_lit hslot] at h; exact ihy hc.2 hI h hK
   ·rename_i b hne he
    refine wpIn_cond (hb b he) ?_
    rcases sel_iff.1 h with ⟨rfl,h⟩ | ⟨rfl,h⟩
    ·exact ihx hc.1 hI h hK
    ·exact ihy hc.2 hI h hK
   ·exact h.elim
 | block id c ih=>
   intro β hc s Γ a w K R Q hI h hK
   have h1:∀ b,c≠.loop b:=fun b e=>by subst e; simp [simple] at hc
   have h2:∀ g ps a b,c≠.rangeFunc g ps a b:=fun g ps a b e=>by subst e; simp [simple] at hc
   have hc' : simple c=true:=by
    cases c <;> first | exact hc | exact (h1 _ rfl).elim | exact (h2 _ _ _ _ rfl).elim
   rw [nwp_block h1 h2] at h
   refine wpIn_block (ih hc' hI h fun e s' a' w' Γ' h' hE' hW' hI'=>?_)
   cases e with
   | normal=>exact hK .normal s' a' w' Γ' h' hE' hW' hI'
   | ret=>exact hK .ret s' a' w' Γ' h' hE' hW' hI'
   | exit j=>
     simp only at h'
     show if j=id then _ else _
     split at h'
     ·rename_i e; rw [if_pos e]; exact hK .normal s' a' w' Γ' h' hE' hW' hI'
     ·rename_i e; rw [if_neg e]; exact hK (.exit j) s' a' w' Γ' h' hE' hW' hI'
 | region id ops d=>
   intro β hc s Γ a w K R Q hI h hK
   cases d with
   | false=>exact wpIn_region_list (nopsIn_sound hcon (some lr) ops.toList (fun o ho=>List.all_eq_true.1 hc o ho) hI h fun s' a' w' Γ' h1 h2 h3 h4=>hK .normal s' a' w' Γ' h1 h2 h3 h4)
   | true=>
     simp only [nwp] at h
     split at h
     ·rename_i hok
      refine wpIn_region_any hm (wpAny_in (Q0:=fun e a w=>e=.normal∧Q .normal a w) (some lr) (fun i o hi=>List.all_eq_true.1 hc o ?_) (fun e a w he=>he.1) (fun a w he=>he.2) _ _ _ _ (draw_any hcon hI hok h fun s' a' w' Γ' h1 h2 h3 h4=>⟨rfl,hK .normal s' a' w' Γ' h1 h2 h3 h4⟩))
      obtain ⟨h1,h2⟩:=Array.getElem?_eq_some_iff.1 hi
      rw [← h2]
      exact Array.mem_toList_iff.2 (Array.getElem_mem h1)
     ·exact h.elim
 | _=>
   intro β hc
   simp [simple] at hc
def codeOf:NExit→Code
 | .ret=>.ret
 | .exit id=>.exit id
 | .normal=>.skip
def pObj (rc:LoopState→Option Code→Loop) (p:Option NExit):Obj:=.loop (rc (if p.isNone then .ready else .done) (p.map codeOf))
structure InvI (gl:List Nat) (K l:Nat) (rc:LoopState→Option Code→Loop) (N:Nat) (Γ:Env) (s:St) (a:Act) (w:World) (p:Option NExit):Prop where
 inv:Inv gl N Γ s a w
 yl:Γ.er K=some (.func (.yield l) #[] #[])
 rc:Γ.kp l=some (pObj rc p)
theorem InvI.step {gl:List Nat} {K l:Nat} {rc:LoopState→Option Code→Loop} {N:Nat} {Γ Γ' : Env} {s s' : St} {a a' : Act} {w w' : World} {p:Option NExit} (h:InvI gl K l rc N Γ s a w p) (hE:Ext Γ w Γ') (hI:Inv gl N Γ' s' a' w'):InvI gl K l rc N Γ' s' a' w' p:=
 ⟨hI,by rw [hE.le.er]; exact h.yl,hE.le.kp _ _ h.rc⟩
def YOk (P:Program) (gl:List Nat) (l:Nat) (rc:LoopState→Option Code→Loop) (Γ0:Env) (w0:World) (Y:Yh):Prop:=
 ∀ (args:List NV) (rg:List (Option Reg)) (vs:List Value) (Γ:Env) (w:World) (R:Option NExit × List (Option Reg)→Prop),Ext Γ0 w0 Γ→Wd w0 w→WRel Γ rg w→GlobOk gl Γ→(∀ n,rg.length≤n→Γ.μ n=none)→
  Γ.kp l=some (pObj rc none)→R2 (VRel Γ) args vs→(Y args rg).run R→
  YieldAt Fence.wide 0 P l vs.toArray w fun e w'=>∃ p rg' Γ',R (p,rg')∧e=.returned (.bool p.isNone)∧Ext (Γ.strip [l]) w Γ'∧Wd w w'∧WRel Γ' rg' w'∧GlobOk gl Γ'∧(∀ n,rg'.length≤n→Γ'.μ n=none)∧Γ'.kp l=some (pObj rc p)
section
variable {X:Cx} {Y:Yh} {K l:Nat} {rc:LoopState→Option Code→Loop} {Γ0:Env} {w0:World}
theorem yieldArgs_spec {s:St} {Γ:Env} {a:Act} {op:Op} {args:List NV} (hfr:FrRel Γ s.fr a.tmps) (h:yieldArgs K s op=some args) :
  ∃ c f,op=.call c∧c.callee=.value f∧CRel Γ (.e K) (a.eval f)∧∃ vs:List Value,c.args.map a.eval=vs.toArray∧R2 (VRel Γ) args vs:=by
 unfold yieldArgs at h
 split at h
 case h_2=>cases h
 rename_i c
 split at h
 case h_2=>cases h
 rename_i f hcal
 split at h
 case h_2=>cases h
 rename_i k hf
 split at h
 case isFalse=>cases h
 rename_i hk
 subst hk
 have r:=ev_rel hfr f
 rw [hf] at r
 have hargs:R2 (SRel Γ) (c.args.toList.map s.ev) (c.args.toList.map a.eval):=R2.self_map _ _ _ fun x=>ev_rel hfr x
 refine ⟨c,f,rfl,hcal,r.1,c.args.toList.map a.eval,?_,allNV_rel h hargs⟩
 apply Array.ext'
 simp
theorem yops_sound {β:Type} {N:Nat} (hcon:∀ f T,X.con f=some T→Known X.P X.glob f T) (hN:l<N) (h0:Γ0.kp l=none) (h0r:Γ0.ro l=false) (hY:YOk X.P X.glob l rc Γ0 w0 Y) {ops:Array Oper} {Q:Exit→Act→World→Prop} :
  ∀ (os:List Oper) {s:St} {p:Option NExit} {Γ:Env} {w:World} {a:Act} {k:St→Option NExit→Tr β} {R:β→Prop},(∀ o∈os,notDefer o.op=true)→InvI X.glob K l rc N Γ s a w p→Ext Γ0 w0 Γ→Wd w0 w→(yops X Y K ops os s p k).run R→
  (∀ s' a' w' Γ' p',(k s' p').run R→Ext Γ0 w0 Γ'→Wd w0 w'→InvI X.glob K l rc N Γ' s' a' w' p'→Q .normal a' w')→wpListIn Fence.wide 0 X.P ops Q os a w
 | [],s,p,Γ,w,a,k,R,_,hI,hE,hW,h,hK=>hK s a w Γ p h hE hW hI
 | o::rest,s,p,Γ,w,a,k,R,hd,hI,hE,hW,h,hK=>by
   have next:∀ {s' : St} {a' : Act} {w' : World} {Γ' : Env} {p' : Option NExit},(yops X Y K ops rest s' p' k).run R→Ext Γ0 w0 Γ'→Wd w0 w'→InvI X.glob K l rc N Γ' s' a' w' p'→wpListIn Fence.wide 0 X.P ops Q rest a' w':=
    fun h1 h2 h3 h4=>yops_sound hcon hN h0 h0r hY rest (fun o ho=>hd o (by simp [ho])) h4 h2 h3 h1 hK
   have h:(ystep X Y K ops o s p fun s' p'=>yops X Y K ops rest s' p' k).run R:=h
   unfold ystep at h
   split at h
   ·have hs:=nstep_sound (K':=wpListIn Fence.wide 0 X.P ops Q rest) (Q:=noWay) hcon hI.inv h fun s' a' w' Γ' h1 h2 h3 h4=>
     next h1 (hE.trans hW h2) (hW.trans h3) (hI.step h2 h4)
    unfold wpListIn
    split at hs
    ·rename_i hw
     rw [if_pos hw]
     rcases hs with hs | ⟨-,_,_,hf⟩
     ·exact wp_to_in none (hd o (by simp)) (fun _ _ _ h=>h.elim) (fun _ _ h=>h) hs
     ·exact hf.elim
    ·rename_i hw
     rw [if_neg hw]
     exact ⟨fun _ _=>trivial,hs⟩
   ·rename_i args hargs
    have key:Region.wanted o (yielded ops a.tmps)=true∧p=none∧((Y args s.rg).bind fun r=>yops X Y K ops rest (St.put {fr:=s.fr,rg:=r.2} o.dst (lit r.1.isNone)) r.1 k).run R:=by
     split at h
     case h_2=>exact h.elim
     split at h
     ·rename_i hg
      exact ⟨by simp [Region.wanted,hg],rfl,h⟩
     ·rename_i j want hg
      split at h
      case h_2=>exact h.elim
      rename_i d hd
      split at h
      case h_2=>exact h.elim
      rename_i x hx
      obtain ⟨rfl,h⟩:=h
      have hy:yielded ops a.tmps j=some x:=by
       obtain ⟨v,h1,h2⟩:=R2.get hI.inv.fr hx
       obtain ⟨h2,-⟩:=h2
       have h2' : v=.bool x:=h2
       subst h2'
       have h3:a.tmps[d]? = some (.bool x):=by simpa using h1
       have h4:(ops[j]?).bind (·.dst)=some d:=hd
       unfold yielded
       rw [h4,Option.bind_some,h3]
      exact ⟨by simp [Region.wanted,hg,hy],rfl,h⟩
    obtain ⟨hwd,hp,hh⟩:=key
    clear h
    subst hp
    rw [Tr.run_bind] at hh
    obtain ⟨c,f,hop,hcal,hf,vs,hvs,hrel⟩:=yieldArgs_spec hI.inv.fr hargs
    have hfv:a.eval f=.func (.yield l) #[] #[]:=by
     have:Γ.er K=some (a.eval f):=hf
     rw [hI.yl] at this
     simpa using this.symm
    unfold wpListIn
    rw [if_pos hwd]
    obtain ⟨fn,tmps,assign,body,hy,hR⟩:=hY args s.rg vs Γ w _ hE hW hI.inv.wr hI.inv.gl hI.inv.nw hI.rc hrel hh
    refine ⟨fun _ _=>trivial,?_⟩
    have hrun:(execOp a.eval o).run X.P w=.ok (.round l fn tmps assign body) w:=by
     simp only [execOp,hop]
     simp [resolve,hcal,hfv,Deferred.ofValue,invoke,hvs,hy]
    show o.uponIn Fence.wide 0 X.P a _ Q ((execOp a.eval o).run X.P w)
    rw [hrun]
    refine ⟨fun hh=>by simp [Fence.wide] at hh,?_⟩
    refine hR.mono ?_
    rintro e w' ⟨p',rg',Γ',hRR,rfl,hE',hW',hwr,hgl,hnw,hkp⟩
    have hn:=noCells_one hI.rc rfl
    have hEs:Ext Γ0 w0 (Γ.strip [l]):=hE.strip fun b hb=>by rw [List.mem_singleton] at hb; subst hb; exact ⟨h0,h0r⟩
    refine next (Γ':=Γ') hRR (hEs.trans hW hE') (hW.trans hW') ⟨⟨?_,?_,hgl,?_,?_⟩,by rw [hE'.le.er]; exact hI.yl,hkp⟩
    ·rw [put_rg]; exact hwr
    ·refine FrRel.put (s:={fr:=s.fr,rg:=rg'}) ?_ o.dst ⟨rfl,rfl⟩
     exact (FrRel.strip hn hI.inv.fr).mono hE'.le
    ·rw [put_rg]; exact hnw
    ·rw [put_defers]
     obtain ⟨ds,h1,h2,h3⟩:=hI.inv.df
     refine ⟨ds,h1,h2,fun D hD=>⟨(h3 D hD).1,hE'.le.kp _ _ ?_⟩⟩
     have:D≠l:=by have:=(h3 D hD).1; omega
     exact (strip_kp_of (by simpa using this)).trans (h3 D hD).2
end
def LOkI (P:Program) (gl:List Nat) (m K:Nat) (Y:Yh) (id:Nat) (body:Code) (L:St × Option NExit→Tr (NExit × St × Option NExit)):Prop:=
 ∀ (l:Nat) (rc:LoopState→Option Code→Loop) (N:Nat) (Γ0:Env) (w0:World),(∀ n,m≤n→Γ0.μ n=none)→l<N→Γ0.kp l=none→Γ0.ro l=false→YOk P gl l rc Γ0 w0 Y→
  ∀ (s:St) (p:Option NExit) (Γ:Env) (a:Act) (w:World) (R:NExit × St × Option NExit→Prop) (Q:Exit→Act→World→Prop),InvI gl K l rc N Γ s a w p→Ext Γ0 w0 Γ→Wd w0 w→(L (s,p)).run R→
  (∀ e s' p' a' w' Γ',R (e,s',p')→Ext Γ0 w0 Γ'→Wd w0 w'→InvI gl K l rc N Γ' s' a' w' p'→Q (toExit e) a' w')→(Code.block id (.loop body)).wp P Q a w
def LAllI (X:Cx) (Y:Yh) (K:Nat) (ls:LI) (c:Code):Prop:=∀ id body,(id,body)∈loopsIn c→∀ x,ls.find? (·.1==id)=some x→LOkI X.P X.glob X.m K Y id body x.2.2
def tame:Code→Bool
 | .skip | .exit _ | .ret=>true
 | .seq a b=>tame a&&tame b
 | .cond _ a b=>tame a&&tame b
 | .block _ c=>(match c with
   | .loop _=>true
   | .rangeFunc _ _ _ _=>false
   | c=>tame c)
 | .region _ ops _=>ops.toList.all fun o=>notDefer o.op
 | _=>false
theorem norm_soundI {gl:List Nat} {K l m N:Nat} {rc:LoopState→Option Code→Loop} {live:List Nat} {s s' : St} {Γ Γ0:Env} {a:Act} {w w0:World} {p:Option NExit} (hI:InvI gl K l rc N Γ s a w p) (hE:Ext Γ0 w0 Γ) (h0:∀ n,m≤n→Γ0.μ n=none) (h:norm m live s=some s') :
  ∃ Γ',Ext Γ0 w0 Γ'∧InvI gl K l rc N Γ' s' a w p:=by
 obtain ⟨Γ',h1,h2,h3,h4⟩:=norm_sound' hI.inv hE h0 h
 exact ⟨Γ',h1,h2,by rw [h4]; exact hI.yl,by rw [h3]; exact hI.rc⟩
theorem nwpI_block {β:Type} {X:Cx} {Y:Yh} {K:Nat} {ls:LI} {id:Nat} {c:Code} {s:St} {p:Option NExit} {k:NExit→St→Option NExit→Tr β} (h:∀ b,c≠.loop b):nwpI X Y K ls (.block id c) s p k=nwpI X Y K ls c s p (fun e s' p'=>match e with
  | .exit j=>if j=id then k .normal s' p' else k (.exit j) s' p'
  | e=>k e s' p'):=by
 cases c <;> first | rfl | exact (h _ rfl).elim
section
variable {X:Cx} {Y:Yh} {K l N:Nat} {rc:LoopState→Option Code→Loop} {Γ0:Env} {w0:World} {ls:LI}
theorem nwpI_sound (hcon:∀ f T,X.con f=some T→Known X.P X.glob f T) (h0:∀ n,X.m≤n→Γ0.μ n=none) (hN:l<N) (h0k:Γ0.kp l=none) (h0r:Γ0.ro l=false) (hY:YOk X.P X.glob l rc Γ0 w0 Y) :
  ∀ (c:Code) {β:Type},tame c=true→LAllI X Y K ls c→∀ {s:St} {p:Option NExit} {Γ:Env} {a:Act} {w:World} {k:NExit→St→Option NExit→Tr β} {R:β→Prop} {Q:Exit→Act→World→Prop},InvI X.glob K l rc N Γ s a w p→Ext Γ0 w0 Γ→Wd w0 w→(nwpI X Y K ls c s p k).run R→
   (∀ e s' p' a' w' Γ',(k e s' p').run R→Ext Γ0 w0 Γ'→Wd w0 w'→InvI X.glob K l rc N Γ' s' a' w' p'→Q (toExit e) a' w')→c.wpIn Fence.wide 0 X.P Q a w:=by
 intro c
 induction c with
 | skip=>
   intro β hc hl s p Γ a w k R Q hI hE hW h hK
   exact wpIn_skip (hK .normal s p a w Γ h hE hW hI)
 | exit id=>
   intro β hc hl s p Γ a w k R Q hI hE hW h hK
   exact wpIn_exit (hK (.exit id) s p a w Γ h hE hW hI)
 | ret=>
   intro β hc hl s p Γ a w k R Q hI hE hW h hK
   exact wpIn_ret (hK .ret s p a w Γ h hE hW hI)
 | seq x y ihx ihy=>
   intro β hc hl s p Γ a w k R Q hI hE hW h hK
   simp only [tame,Bool.and_eq_true] at hc
   refine wpIn_seq (ihx hc.1 (fun id b hb=>hl id b (by simp [loopsIn,hb])) hI hE hW h fun e s' p' a' w' Γ' h' hE' hW' hI'=>?_)
   cases e with
   | normal=>exact ihy hc.2 (fun id b hb=>hl id b (by simp [loopsIn,hb])) hI' hE' hW' h' hK
   | exit id=>exact hK (.exit id) s' p' a' w' Γ' h' hE' hW' hI'
   | ret=>exact hK .ret s' p' a' w' Γ' h' hE' hW' hI'
 | cond c x y ihx ihy=>
   intro β hc hl s p Γ a w k R Q hI hE hW h hK
   simp only [tame,Bool.and_eq_true] at hc
   have hlx:LAllI X Y K ls x:=fun id b hb=>hl id b (by simp [loopsIn,hb])
   have hly:LAllI X Y K ls y:=fun id b hb=>hl id b (by simp [loopsIn,hb])
   have hb:∀ b,s.ev c=.v (.c (.b b))→a.eval c=.bool b:=fun b hb=>by
    have:=ev_rel hI.inv.fr c
    rw [hb] at this
    exact this.1
   simp only [nwpI] at h
   split at h
   ·rename_i t b he
    have hslot:s.fr[t]? = some (.v (.c (.b b))):=by
     have:s.fr.getD t .dead=.v (.c (.b b)):=he
     rw [List.getD_eq_getElem?_getD] at this
     cases e:s.fr[t]? with
     | none=>rw [e] at this; cases this
     | some z=>rw [e] at this; simpa using this
    refine wpIn_cond (hb b he) ?_
    rcases sel_iff.1 h with ⟨rfl,h⟩ | ⟨rfl,h⟩
    ·rw [put_lit hslot] at h; exact ihx hc.1 hlx hI hE hW h hK
    ·rw [put_lit hslot] at h; exact ihy hc.2 hly hI hE hW h hK
   ·rename_i b hne he
    refine wpIn_cond (hb b he) ?_
    rcases sel_iff.1 h with ⟨rfl,h⟩ | ⟨rfl,h⟩
    ·exact ihx hc.1 hlx hI hE hW h hK
    ·exact ihy hc.2 hly hI hE hW h hK
   ·exact h.elim
 | block id c ih=>
   intro β hc hl s p Γ a w k R Q hI hE hW h hK
   by_cases hcl:∃ b,c=.loop b
   ·obtain ⟨body,rfl⟩:=hcl
    simp only [nwpI] at h
    split at h
    case h_2=>exact h.elim
    rename_i y live L hf
    split at h
    case h_2=>exact h.elim
    rename_i s' hn
    rw [Tr.run_bind] at h
    obtain ⟨Γ',hE',hI'⟩:=norm_soundI hI hE h0 hn
    exact wpIn_wide.2 (hl id body (by simp [loopsIn]) _ hf l rc N Γ0 w0 h0 hN h0k h0r hY s' p Γ' a w _ Q hI' hE' hW h fun e s2 p2 a2 w2 Γ2 k1 k2 k3 k4=>hK e s2 p2 a2 w2 Γ2 k1 k2 k3 k4)
   ·have h1:∀ b,c≠.loop b:=fun b e=>hcl ⟨b,e⟩
    have h2:∀ g ps a b,c≠.rangeFunc g ps a b:=fun g ps a b e=>by subst e; simp [tame] at hc
    have hc' : tame c=true:=by
     cases c <;> first | exact hc | exact (h1 _ rfl).elim | exact (h2 _ _ _ _ rfl).elim
    rw [nwpI_block h1] at h
    refine wpIn_block (ih hc' (fun i b hb=>hl i b (by rw [loopsIn_block h1]; exact hb)) hI hE hW h fun e s' p' a' w' Γ' h' hE' hW' hI'=>?_)
    cases e with
    | normal=>exact hK .normal s' p' a' w' Γ' h' hE' hW' hI'
    | ret=>exact hK .ret s' p' a' w' Γ' h' hE' hW' hI'
    | exit j=>
      simp only at h'
      show if j=id then _ else _
      split at h'
      ·rename_i e; rw [if_pos e]; exact hK .normal s' p' a' w' Γ' h' hE' hW' hI'
      ·rename_i e; rw [if_neg e]; exact hK (.exit j) s' p' a' w' Γ' h' hE' hW' hI'
 | region id ops d=>
   intro β hc hl s p Γ a w k R Q hI hE hW h hK
   cases d with
   | false=>exact wpIn_region_list (yops_sound hcon hN h0k h0r hY ops.toList (fun o ho=>List.all_eq_true.1 hc o ho) hI hE hW h fun s' a' w' Γ' p' h1 h2 h3 h4=>hK .normal s' p' a' w' Γ' h1 h2 h3 h4)
   | true=>
     simp only [nwpI] at h
     split at h
     case h_2=>exact h.elim
     rename_i hok
     rw [Bool.and_eq_true] at hok
     refine wpIn_region_any hok.2 (wpAny_in (Q0:=fun e a w=>e=.normal∧Q .normal a w) none (fun i o hi=>List.all_eq_true.1 hc o ?_) (fun e a w he=>he.1) (fun a w he=>he.2) _ _ _ _ (draw_any hcon hI.inv hok.1 h fun s' a' w' Γ' h1 h2 h3 h4=>⟨rfl,hK .normal s' p a' w' Γ' h1 (hE.trans hW h2) (hW.trans h3) (hI.step h2 h4)⟩))
     obtain ⟨h1,h2⟩:=Array.getElem?_eq_some_iff.1 hi
     rw [← h2]
     exact Array.mem_toList_iff.2 (Array.getElem_mem h1)
 | _=>
   intro β hc
   simp [tame] at hc
end
inductive ROI where
 | next (s:St) (p:Option NExit)
 | done (e:NExit) (s:St) (p:Option NExit)
def roundI (X:Cx) (Y:Yh) (K:Nat) (ls:LI) (id:Nat) (live out:List Nat) (body:Code) (s:St) (p:Option NExit):Tr ROI:=
 nwpI X Y K ls body s p fun e s' p'=>match e with
  | .normal=>(match norm X.m live s' with
    | some s''=>.ret (.next s'' p')
    | none=>.fail)
  | .exit j=>(match norm X.m out s' with
    | some s''=>if j=id then .ret (.done .normal s'' p') else .ret (.done (.exit j) s'' p')
    | none=>.fail)
  | .ret=>(match norm X.m out s' with
    | some s''=>.ret (.done .ret s'' p')
    | none=>.fail)
theorem loopI_ok {X:Cx} {Y:Yh} {K:Nat} {ls:LI} (hcon:∀ f T,X.con f=some T→Known X.P X.glob f T) {id:Nat} {body:Code} {L:St × Option NExit→Tr (NExit × St × Option NExit)} (ht:tame body=true) (hl:LAllI X Y K ls body) (live out:List Nat) {α:Type} (h:α→St × Option NExit) (μ:α→Nat) (Pre:α→(NExit × St × Option NExit→Prop)→Prop)
  (start:∀ s R,(L s).run R→∃ x,s=h x∧Pre x R)
  (round:∀ x R,Pre x R→(roundI X Y K ls id live out body (h x).1 (h x).2).run fun o=>match o with
    | .next s p=>∃ y,(s,p)=h y∧μ y<μ x∧Pre y R
    | .done e s p=>R (e,s,p)):LOkI X.P X.glob X.m K Y id body L:=by
 intro l rc N Γ0 w0 h0 hN h0k h0r hY s p Γ a w R Q hI hE hW hL hK
 obtain ⟨x,hx,hp⟩:=start (s,p) R hL
 have hI:InvI X.glob K l rc N Γ (h x).1 a w (h x).2:=by rw [← hx]; exact hI
 refine wp_block (wp_loop_ghost (fun n a w=>∃ x Γ,μ x=n∧Pre x R∧InvI X.glob K l rc N Γ (h x).1 a w (h x).2∧Ext Γ0 w0 Γ∧Wd w0 w) (μ x) ⟨x,Γ,rfl,hp,hI,hE,hW⟩ ?_)
 rintro n a1 w1 ⟨y,Γ1,rfl,hp1,hI1,hE1,hW1⟩
 refine wpIn_wide.1 (nwpI_sound hcon h0 hN h0k h0r hY body ht hl hI1 hE1 hW1 (round y R hp1) fun e s' p' a' w' Γ' h' hE' hW' hI'=>?_)
 cases e with
 | normal=>
   simp only at h'
   split at h'
   ·rename_i s2 hn
    obtain ⟨z,hz,hlt,hpz⟩:=h'
    obtain ⟨Γ2,hE2,hI2⟩:=norm_soundI hI' hE' h0 hn
    exact ⟨μ z,hlt,z,Γ2,rfl,hpz,by rw [← hz]; exact hI2,hE2,hW'⟩
   ·exact h'.elim
 | exit j=>
   simp only at h'
   show if j=id then _ else _
   split at h'
   ·rename_i s2 hn
    obtain ⟨Γ2,hE2,hI2⟩:=norm_soundI hI' hE' h0 hn
    split at h'
    ·rename_i e; rw [if_pos e]; exact hK .normal s2 p' a' w' Γ2 h' hE2 hW' hI2
    ·rename_i e; rw [if_neg e]; exact hK (.exit j) s2 p' a' w' Γ2 h' hE2 hW' hI2
   ·exact h'.elim
 | ret=>
   simp only at h'
   split at h'
   ·rename_i s2 hn
    obtain ⟨Γ2,hE2,hI2⟩:=norm_soundI hI' hE' h0 hn
    exact hK .ret s2 p' a' w' Γ2 h' hE2 hW' hI2
   ·exact h'.elim
theorem LAllI.none {X:Cx} {Y:Yh} {K:Nat} {ls:LI} {c:Code} (hl:loopsIn c=[]):LAllI X Y K ls c:=fun id b hb=>by rw [hl] at hb; cases hb
theorem LAllI.one {X:Cx} {Y:Yh} {K:Nat} {ls:LI} {c:Code} {id:Nat} {body:Code} {live:List Nat} {L:St × Option NExit→Tr (NExit × St × Option NExit)} (hl:loopsIn c=[(id,body)]) (hx:ls=[(id,live,L)]) (h:LOkI X.P X.glob X.m K Y id body L):LAllI X Y K ls c:=fun i b hb x hf=>by
 rw [hl,List.mem_singleton] at hb
 cases hb
 subst hx
 simp at hf
 subst hf
 exact h
theorem zip_fold {Γ:Env}:∀ (ps:List Tmp) (args:List NV) (vs:List Value) (fr:List NS) (t:Array Value),FrRel Γ fr t→R2 (VRel Γ) args vs→
  FrRel Γ (setAll fr ps args) ((ps.zip vs).foldl (fun t (x:Tmp × Value)=>t.setIfInBounds x.1 x.2) t)
 | [],_,_,_,_,h,_=>by simpa [setAll] using h
 | _::_,_,_,_,_,h,.nil=>by simpa [setAll] using h
 | p::ps,_,_,fr,t,h,.cons (a:=x) (b:=v) r rs=>by
   simp only [setAll,List.zip_cons_cons,List.foldl_cons]
   refine zip_fold ps _ _ _ _ ?_ rs
   show R2 (SRel Γ) (fr.set p (.v x)) (t.setIfInBounds p v).toList
   rw [Array.toList_setIfInBounds]
   exact R2.set h p r
def rcOf (fn:FuncId) (tmps:Array Value) (ps:Array Tmp) (assign body:Code) (D:Nat):LoopState→Option Code→Loop:=fun st pe=>{state:=st,pending:=pe,fn:=fn,tmps:=tmps,params:=ps,assign:=assign,body:=body,defers:=D}
theorem bodyY_ok {X:Cx} (hcon:∀ f T,X.con f=some T→Known X.P X.glob f T) (hm:X.P.follows .mixedOrders=true) {Γ0:Env} {w0:World} {fn:FuncId} {tmps:Array Value} {ps:Array Tmp} {assign body:Code} {D l:Nat} {fr:List NS} (ha:simple assign=true) (hb:simple body=true) (hfr:FrRel Γ0 fr tmps) :
  YOk X.P X.glob l (rcOf fn tmps ps assign body D) Γ0 w0 (bodyY X ps assign body fr):=by
 intro args rg vs Γ w R hE hW hw hG hnw hk hargs h
 unfold bodyY at h
 split at h
 case isFalse=>exact h.elim
 rename_i hlen
 have hl:w.heap[l]? = some (.loop (rcOf fn tmps ps assign body D .ready none)):=hw.kp l _ hk
 have hy:=run_yield (P:=X.P) (args:=vs.toArray) hl (by show vs.toArray.size=ps.size; rw [List.size_toArray,← hargs.length]; exact hlen)
 refine ⟨fn,_,assign,body,hy,roundIn_of_wpIn trivial ?_⟩
 have hfr' : FrRel Γ (setAll fr ps.toList args) ((ps.zip vs.toArray).foldl (fun tmps (t,a)=>tmps.setIfInBounds t a) tmps):=by
  have:=zip_fold ps.toList args vs fr tmps (hfr.mono hE.le) hargs
  rw [← Array.foldl_toList,Array.toList_zip]
  exact this
 have hI:Inv X.glob 0 Γ {fr:=setAll fr ps.toList args,rg:=rg} {tmps:=(ps.zip vs.toArray).foldl (fun tmps (t,a)=>tmps.setIfInBounds t a) tmps,defers:=[]} w:=⟨hw,hfr',hG,hnw,Df.nil _ _⟩
 have hds:∀ {Γ' : Env} {s' : St} {a' : Act} {w' : World} {p:Option NExit} {st:LoopState} {o' : Obj},Inv X.glob 0 Γ' s' a' w'→Γ'.kp l=some (.loop (rcOf fn tmps ps assign body D st (p.map codeOf)))→o'.isCM=false→Inv X.glob 0 ((Γ'.strip [l]).hold l o') s' a' (w'.putObj l o'):=
  fun h1 h2 h3=>h1.turn h2 rfl h3 fun D _ hD e=>by rw [e,h2] at hD; cases hD
 refine nwpR_sound (X:={P:=X.P,con:=X.con,glob:=X.glob,m:=rg.length,loops:=[]}) hcon hm l 0 assign ha hI h fun e s1 a1 w1 Γ1 h1 hE1 hW1 hI1=>?_
 cases e with
 | exit j=>exact h1.elim
 | ret=>exact h1.elim
 | normal=>
   have hk1:Γ1.kp l=some (.loop (rcOf fn tmps ps assign body D .ready none)):=hE1.le.kp _ _ hk
   have hl1:=hI1.wr.kp l _ hk1
   refine ⟨_,run_beginRound hl1 rfl,?_⟩
   have hI2:=hds (p:=none) (o':=.loop (rcOf fn tmps ps assign body D .busy none)) hI1 hk1 rfl
   refine nwpR_sound (X:={P:=X.P,con:=X.con,glob:=X.glob,m:=rg.length,loops:=[]}) hcon hm l 0 body hb hI2 h1 fun e s3 a3 w3 Γ3 h3 hE3 hW3 hI3=>?_
   have hk3:Γ3.kp l=some (.loop (rcOf fn tmps ps assign body D .busy none)):=hE3.le.kp _ _ hold_kp
   have hl3:=hI3.wr.kp l _ hk3
   have fin:∀ p:Option NExit,R (p,s3.rg)→∃ v w',(Instr.endRound l (p.map codeOf)).run X.P w3=.ok v w'∧∃ p rg' Γ',R (p,rg')∧Ending.returned v=.returned (.bool p.isNone)∧Ext (Γ.strip [l]) w Γ'∧Wd w w'∧WRel Γ' rg' w'∧GlobOk X.glob Γ'∧(∀ n,rg'.length≤n→Γ'.μ n=none)∧Γ'.kp l=some (pObj (rcOf fn tmps ps assign body D) p):=by
    intro p hp
    have hI4:=hds (p:=none) (o':=pObj (rcOf fn tmps ps assign body D) p) hI3 hk3 rfl
    have hrun:=run_endRound (P:=X.P) (p.map codeOf) hl3
    have e1:(p.map codeOf).isNone=p.isNone:=by cases p <;> rfl
    rw [e1] at hrun
    refine ⟨_,_,hrun,p,s3.rg,_,hp,rfl,?_,?_,hI4.wr,hI4.gl,hI4.nw,hold_kp⟩
    ·have x1:=hE1.strip2 [l]
     have x2:=hE3.strip2 [l]
     rw [strip_hold,strip_strip] at x2
     exact (x1.trans (hW1.trans (putObj_wd w1 l _)) x2).trans ((hW1.trans (putObj_wd w1 l _)).trans hW3) (hold_ext (strip_none l Γ3))
    ·exact ((hW1.trans (putObj_wd w1 l _)).trans hW3).trans (putObj_wd w3 l _)
   cases e with
   | normal=>exact fin none h3
   | ret=>exact fin (some .ret) h3
   | exit j=>exact fin (some (.exit j)) h3
theorem run_results_none {P:Program} {fn:Func} (h:fn.results=#[]) (t:Array Value) (w:World):∃ v,(results fn t).run P w=.ok v w:=by
 have e0:results fn t=(do
   let vs ← fn.results.mapM (rvRun {tmps:=t,defers:=[]})
   pure (if h:vs.size=1 then vs[0] else .tuple vs)):=by
  unfold results
  congr 1
 rw [e0,h]
 simp
set_option maxHeartbeats 1000000 in
theorem rangeT_ok {X:Cx} (hcon:∀ f T,X.con f=some T→Known X.P X.glob f T) {K:Nat} {con:FuncId→Option Con} (hconI:∀ f T,con f=some T→Known X.P X.glob f T) {ls:Nat→List NS→LI} {id:Nat} {out:List Nat} {gf:FuncId} {fn:Func} {cg:Code} {g:Operand} {ps:Array Tmp} {assign body:Code}
  (hf:X.P.funcs[gf]? = some fn) (hb:fn.body=some cg) (hname:(fn.name=="runtime.NumGoroutine")=false) (hres:fn.results=#[]) (ha:simple assign=true) (hbd:simple body=true) (ht:tame cg=true)
  (hls:∀ m fr,LAllI {P:=X.P,con:=con,glob:=X.glob,m:=m,loops:=[]} (bodyY X ps assign body fr) K (ls m fr) cg) (hm:X.P.follows .mixedOrders=true:=by kernel_rfl) :
  RgOk X.P X.glob X.m id (.rangeFunc g ps assign body) (rangeT X K con ls id out gf fn (.rangeFunc g ps assign body)):=by
 intro Γ0 w0 h0 s Γ a w R Q hI hE hW hL hK
 simp only [rangeT] at hL
 split at hL
 case h_2=>exact hL.elim
 rename_i gf' cap hg
 split at hL
 case h_2=>exact hL.elim
 rename_i cg' hcond hb'
 rw [hb] at hb'
 cases hb'
 simp only [Bool.and_eq_true,decide_eq_true_eq,Bool.not_eq_true'] at hcond
 obtain ⟨⟨⟨rfl,hfe⟩,hre⟩,hke⟩:=hcond
 have eg:∀ args w,(callFunc gf' args).run X.P w=.ok (.enter gf' args) w:=fun args w=>by
  have h1:fn.name≠"runtime.NumGoroutine":=by simpa using hname
  simp [callFunc,hf,h1,hb]
 have rg0:=ev_rel hI.fr g
 rw [hg] at rg0
 obtain ⟨⟨caps,hgv,hcap⟩,-⟩:=rg0
 have hgv:a.eval g=.func (.func gf') #[] caps.toArray:=hgv
 refine wp_block ((wpIn_wide (n:=0)).1 (wpIn_rangeFunc fun fnc _=>?_))
 obtain ⟨rc,hrc⟩:∃ rc,rc=rcOf fnc a.tmps ps assign body w.heap.size:=⟨_,rfl⟩
 obtain ⟨W1,hW1⟩:∃ W1,(w.alloc (.deferred (some []))).alloc (.loop (rc .ready none))=W1:=⟨_,rfl⟩
 have hsz:W1.heap.size=w.heap.size+2:=by rw [← hW1]; simp
 have hL1:W1.heap[w.heap.size+1]? = some (.loop (rc .ready none)):=by
  rw [← hW1]; have:=World.alloc_heap_new (w.alloc (.deferred (some []))) (.loop (rc .ready none)); rwa [World.size_alloc] at this
 have hD1:W1.heap[w.heap.size]? = some (.deferred (some [])):=by
  rw [← hW1]; exact (heap_alloc_lt _ _ _ (by simp)).trans (World.alloc_heap_new w _)
 have hold1:∀ b,b<w.heap.size→W1.heap[b]? = w.heap[b]?:=fun b hb=>by
  rw [← hW1]; exact (heap_alloc_lt _ _ _ (by simp; omega)).trans (heap_alloc_lt _ _ _ hb)
 have hWd1:Wd w W1:=by
  rw [← hW1]; exact ⟨rfl,rfl,rfl,by simp; omega⟩
 have hkn:∀ b,w.heap.size≤b→Γ.kp b=none∧Γ.ro b=false:=fun b hb=>by
  have h1:Γ.kp b=none:=by
   cases hk:Γ.kp b with
   | none=>rfl
   | some o=>
     have:=(Array.getElem?_eq_some_iff.1 (hI.wr.kp b o hk)).1
     omega
  refine ⟨h1,?_⟩
  cases hr:Γ.ro b with
  | false=>rfl
  | true=>obtain ⟨o,ho⟩:=hI.wr.ro b hr; rw [h1] at ho; cases ho
 -- what is said of memory where the function begins
 let yv:Value:=.func (.yield (w.heap.size+1)) #[] #[]
 let ΓD:Env:=Γ.hold w.heap.size (.deferred (some []))
 let ΓE:Env:=ΓD.setE K yv
 let Γ1:Env:=ΓE.hold (w.heap.size+1) (pObj rc none)
 have wD:WRel ΓD s.rg W1:=(hI.wr.mono_heap hold1).hold (hkn _ (Nat.le_refl _)).1 hD1 rfl
 have wE:WRel ΓE s.rg W1:=(SwapE.set K yv ΓD).world hre wD
 have kE:ΓE.kp (w.heap.size+1)=none:=by
  show (if w.heap.size+1=w.heap.size then _ else Γ.kp (w.heap.size+1))=none
  rw [if_neg (by omega)]
  exact (hkn _ (by omega)).1
 have rE:ΓE.ro (w.heap.size+1)=false:=(hkn _ (by omega)).2
 have w1:WRel Γ1 s.rg W1:=wE.hold kE hL1 rfl
 have leD:Γ.le ΓD:=hold_le (hkn _ (Nat.le_refl _)).1
 have le1:ΓE.le Γ1:=hold_le kE
 have frE:FrRel ΓE s.fr a.tmps:=(SwapE.set K yv ΓD).frame hfe (hI.fr.mono leD)
 have gE:GlobOk X.glob ΓE:=(SwapE.set K yv ΓD).glob hke (hI.gl.mono leD)
 have hyv:ΓE.er K=some yv:=if_pos rfl
 have hEx1:Ext ΓE W1 Γ1:=hold_ext kE
 have hcapE:R2 (fun (x:Nat × Nat × Nat) u=>∃ B,ΓE.pt x.1=some B∧u=.pointer (some ⟨B.blk,B.o+(x.2.1 * B.st+x.2.2),none⟩)) cap caps:=hcap
 have hIt:InvI X.glob K (w.heap.size+1) rc W1.heap.size Γ1 {fr:=(.v (.c (.e K))::cap.map fun x=>.v (.c (.p x.1 x.2.1 x.2.2)))++List.replicate (fn.ntmps - (1+cap.length)) .dead,rg:=s.rg}
   {tmps:=(#[yv]++caps.toArray)++Array.replicate (fn.ntmps - (#[yv]++caps.toArray).size) undef,defers:=[]} W1 none:=by
  refine ⟨⟨w1,?_,gE.mono le1,fun n hn=>hI.nw n hn,Df.nil _ _⟩,?_,hold_kp⟩
  ·have e:((#[yv]++caps.toArray)++Array.replicate (fn.ntmps - (#[yv]++caps.toArray).size) undef).toList=(yv::caps)++List.replicate (fn.ntmps - (1+cap.length)) undef:=by
    simp [hcap.length,Nat.add_comm]
   show R2 (SRel Γ1) _ (Array.toList _)
   rw [e]
   refine R2.append (.cons ⟨hyv,rfl⟩ ?_) (R2.replicate _ (show SRel Γ1 .dead undef from trivial))
   refine R2.map_left hcapE ?_
   rintro x u ⟨B,h1,h2⟩
   exact ⟨⟨B,h1,h2⟩,by rw [h2]; rfl⟩
  ·exact hyv
 refine ⟨w.heap.size+1,[{target:=.collected w.heap.size,args:=#[]}],W1,{target:=.fn (.func gf') caps.toArray,args:=#[yv]},W1,gf',#[yv]++caps.toArray,W1,?_,?_,?_,?_,fun hh=>by simp [Fence.wide] at hh,?_⟩
 ·rw [← hW1,hrc]; exact run_enterLoop_outer _ _ _ _ _
 ·simp only [resolve,hgv]
  simp [go_sem,yv]
 ·intro f' _; trivial
 ·simp [invoke,go_sem,eg]
 refine callsIn_of_wp_marks hf hb trivial ?_ rfl
 refine nwpI_sound (X:={P:=X.P,con:=con,glob:=X.glob,m:=s.rg.length,loops:=[]}) (Γ0:=ΓE) (w0:=W1) hconI (fun n hn=>hI.nw n hn) (by rw [hsz]; omega) kE rE (hrc ▸ bodyY_ok hcon hm ha hbd frE) cg ht (hls s.rg.length s.fr) hIt hEx1 (Wd.refl W1) hL fun e s' p' a' w' Γ' h' hE' hW' hI'=>?_
 have key:(rangeEnd X K id out s.fr s' p').run R→LeavesInM Fence.wide 0 X.P fn a'.tmps (rangePost Fence.wide 0 X.P (w.heap.size+1) (Exit.inBlock id Q) {a with defers:=[{target:=.collected w.heap.size,args:=#[]}]++a.defers}) a'.defers .returning w':=by
  intro h'
  unfold rangeEnd at h'
  split at h'
  case h_2=>exact h'.elim
  rename_i e2 s2 hre' hex hnorm
  have wE' : WRel ΓE s.rg W1:=wE
  obtain ⟨ds,Γs,hd,hnd,hheap,hEs,hIs,hlow,hge⟩:=hI'.inv.shut hE' wE' (Nat.le_refl _)
  rw [hd]
  refine leaves_marks ds hnd hheap ?_
  obtain ⟨v,hv⟩:=run_results_none (P:=X.P) hres a'.tmps (shut ds w')
  refine ⟨v,hv,?_⟩
  have hkl:Γs.kp (w.heap.size+1)=some (pObj rc p'):=by rw [hlow _ (by rw [hsz]; omega)]; exact hI'.rc
  have hls' : (shut ds w').heap[w.heap.size+1]? = some (pObj rc p'):=hIs.wr.kp _ _ hkl
  have hend:(Instr.endLoop (w.heap.size+1)).run X.P (shut ds w')=.ok (p'.map codeOf) ((shut ds w').putObj (w.heap.size+1) (.loop {rc (if p'.isNone then .ready else .done) (p'.map codeOf) with state:=.exhausted})):=by
   have h4:=run_endLoop (P:=X.P) hls' (by rw [hrc]; cases p' <;> simp [rcOf])
   have h5:(rc (if p'.isNone then .ready else .done) (p'.map codeOf)).pending=p'.map codeOf:=by rw [hrc]; rfl
   exact h4.trans (congrArg (fun x=>Result.ok x _) h5)
  refine ⟨_,_,hend,?_⟩
  -- behind the loop
  have hno:=noCells_one hkl rfl
  have hEf:Ext ΓE W1 (Γs.strip [w.heap.size+1]):=hEs.strip fun b hb=>by rw [List.mem_singleton] at hb; subst hb; exact ⟨kE,rE⟩
  let Γf:Env:={μ:=(Γs.strip [w.heap.size+1]).μ,kp:=(Γs.strip [w.heap.size+1]).kp,ro:=(Γs.strip [w.heap.size+1]).ro,er:=Γ.er}
  have hsw:SwapE K (Γs.strip [w.heap.size+1]) Γf:=⟨rfl,rfl,rfl,fun k hk=>by
   show Γ.er k=(Γs.strip [w.heap.size+1]).er k
   rw [hEf.le.er]
   exact (if_neg hk).symm⟩
  have hle:Γ.le Γf:=⟨fun n B h=>hEf.le.μ n B h,fun b o h=>hEf.le.kp b o (leD.kp b o h),fun b h=>hEf.le.ro b h,rfl⟩
  have hExf:Ext Γ w Γf:=by
   refine ⟨hle,fun b hb=>?_,fun n B hB=>?_⟩
   ·rcases hEf.ro b hb with h1 | h1 | h1
    ·exact .inl h1
    ·exact .inr (.inl (by omega))
    ·exact .inr (.inr h1)
   ·rcases hEf.nw n B hB with h1 | h1
    ·exact .inl (by omega)
    ·exact .inr h1
  have hIf:Inv X.glob w0.heap.size Γf {fr:=s.fr,rg:=s'.rg} {a with defers:=[{target:=.collected w.heap.size,args:=#[]}]++a.defers} ((shut ds w').putObj (w.heap.size+1) (.loop {rc (if p'.isNone then .ready else .done) (p'.map codeOf) with state:=.exhausted})):=by
   refine ⟨hsw.world hre' (hIs.wr.strip hno other_heap),hI.fr.mono hle,hI.gl.mono hle,fun n hn=>hIs.nw n hn,?_⟩
   obtain ⟨l,h1,h2,h3⟩:=hI.df
   refine ⟨w.heap.size::l,by rw [List.map_cons,← h1]; rfl,List.nodup_cons.2 ⟨fun hm=>?_,h2⟩,fun D hD=>?_⟩
   ·have:=(Array.getElem?_eq_some_iff.1 (hI.wr.kp _ _ (h3 _ hm).2)).1
    omega
   ·rcases List.mem_cons.1 hD with rfl | hD
    ·refine ⟨hW.size,hEf.le.kp _ _ ?_⟩
     exact hold_kp
    ·exact ⟨(h3 D hD).1,hle.kp _ _ (h3 D hD).2⟩
  have hWf:Wd w0 ((shut ds w').putObj (w.heap.size+1) (.loop {rc (if p'.isNone then .ready else .done) (p'.map codeOf) with state:=.exhausted})):=(((hW.trans hWd1).trans hW').trans (shut_wd ds w')).trans (putObj_wd _ _ _)
  obtain ⟨Γ3,hE3,hI3⟩:=norm_sound hIf (hE.trans hW hExf) h0 hnorm
  have fin:=hK e2 s2 _ _ Γ3 h' hE3 hWf hI3
  cases p' with
  | none=>cases hex; exact fin
  | some j=>
    cases j with
    | normal=>cases hex
    | ret=>
      cases hex
      exact wpIn_ret fin
    | exit j=>
      refine wpIn_exit ?_
      show if j=id then _ else _
      unfold outExit at hex
      simp only at hex
      split at hex
      ·rename_i e; cases hex; rw [if_pos e]; exact fin
      ·rename_i e; cases hex; rw [if_neg e]; exact fin
 cases e with
 | normal=>exact key h'
 | ret=>exact key h'
 | exit j=>exact h'.elim
theorem and_mask64 (n:Int) (j:Nat) (hj:j<64):bits .and .i64 n (2 ^ j - 1:Nat)=n % 2 ^ j:=by
 have hm:(2 ^ j - 1:Nat)<2 ^ 64:=Nat.lt_of_le_of_lt (Nat.sub_le _ _) (Nat.pow_lt_pow_right (by decide) hj)
 have hp:2 ^ j≤2 ^ 63:=Nat.pow_le_pow_right (by decide) (by omega)
 have key:(BitVec.ofInt 64 n &&& BitVec.ofInt 64 ((2 ^ j - 1:Nat):Int)).toNat=(n % ((2 ^ 64:Nat):Int)).toNat % 2 ^ j:=by
  rw [BitVec.toNat_and,BitVec.toNat_ofInt,BitVec.ofInt_natCast,BitVec.toNat_ofNat,Nat.mod_eq_of_lt hm,Nat.and_two_pow_sub_one_eq_mod]
 show IntKind.i64.wrap ((BitVec.ofInt 64 n &&& BitVec.ofInt 64 ((2 ^ j - 1:Nat):Int)).toNat:Nat)=n % 2 ^ j
 rw [key,IntKind.wrap_i64]
 have h1:(0:Int)<2 ^ j:=Int.pow_pos (by decide)
 have h2:((2:Int) ^ j)=((2 ^ j:Nat):Int):=by simp
 have hd:(2 ^ j:Nat) ∣ 2 ^ 64:=Nat.pow_dvd_pow 2 (by omega)
 have h3:((((n % ((2 ^ 64:Nat):Int)).toNat % 2 ^ j:Nat)):Int)=n % 2 ^ j:=by
  rw [Int.natCast_emod,Int.toNat_of_nonneg (Int.emod_nonneg _ (by decide)),← h2,h2,Int.emod_emod_of_dvd _ (by exact_mod_cast hd)]
 rw [h3]
 have h4:=Int.emod_nonneg n (Int.ne_of_gt h1)
 have h5:=Int.emod_lt_of_pos n h1
 have h6:(2:Int) ^ j≤9223372036854775808:=by rw [h2]; exact Int.ofNat_le.2 (Nat.le_trans hp (by decide))
 omega
theorem or_join64 (x y:Int) (i:Nat) (hi:i<63) (hx:x % 2 ^ i=0) (hx0:0≤x) (hx1:x<2 ^ 63) (hy0:0≤y) (hy:y<2 ^ i):bits .or .i64 y x=y+x:=by
 have e:bits .or .i64 y x=bits .or .i64 x y:=by
  show IntKind.i64.wrap ((BitVec.ofInt 64 y ||| BitVec.ofInt 64 x).toNat:Nat)=IntKind.i64.wrap ((BitVec.ofInt 64 x ||| BitVec.ofInt 64 y).toNat:Nat)
  rw [BitVec.or_comm]
 have hp:(2:Int) ^ i≤2 ^ 63:=by
  have h2:((2:Int) ^ i)=((2 ^ i:Nat):Int):=by simp
  rw [h2]; exact Int.ofNat_le.2 (Nat.le_trans (Nat.pow_le_pow_right (n:=2) (by decide) (show i≤63 by omega)) (by decide))
 rw [e,bits_join .i64 63 (by decide) (fun n h0 h1=>by rw [IntKind.wrap_i64]; omega) i x y hx0 hx hx1 hy0 hy (by omega)]
 omega
theorem shlv64 (x:Int) (j:Nat) (hj:j<64) (h0:0≤x) (h1:x * 2 ^ j<2 ^ 63):shlv .i64 x j=x * 2 ^ j:=by
 unfold shlv
 have e:min (j:Int).toNat IntKind.i64.bits=j:=by
  show min (j:Int).toNat 64=j
  rw [Int.toNat_natCast]; omega
 rw [e,IntKind.wrap_i64]
 have hp:(0:Int)<2 ^ j:=Int.pow_pos (by decide)
 have:=Int.mul_nonneg h0 (Int.le_of_lt hp)
 generalize x * 2 ^ j=z at *
 omega
theorem shrv64 (x:Int) (j:Nat) (hj:j<64):shrv .i64 x j=x / 2 ^ j:=by
 unfold shrv
 have e:min (j:Int).toNat IntKind.i64.bits=j:=by
  show min (j:Int).toNat 64=j
  rw [Int.toNat_natCast]; omega
 rw [e,Int.fdiv_eq_ediv_of_nonneg _ (Int.le_of_lt (Int.pow_pos (by decide)))]
def u8 (v:BitVec 8):Int:=(v.toNat:Int)
def u32 (v:BitVec 32):Int:=(v.toNat:Int)
def i64 (v:BitVec 64):Int:=v.toInt
theorem wrap_u8 (n:Int):IntKind.u8.wrap n=u8 (BitVec.ofInt 8 n):=by
 rw [IntKind.wrap_u8,u8,BitVec.toNat_ofInt]
 omega
theorem wrap_u32 (n:Int):IntKind.u32.wrap n=u32 (BitVec.ofInt 32 n):=by
 rw [IntKind.wrap_u32,u32,BitVec.toNat_ofInt]
 omega
theorem wrap_i64 (n:Int):IntKind.i64.wrap n=i64 (BitVec.ofInt 64 n):=by
 rw [IntKind.wrap_i64,i64,BitVec.toInt_ofInt]
 rw [Int.bmod_def]
 split <;> omega
def bvop (op:BinOp) {n:Nat} (a b:BitVec n):BitVec n:=match op with
 | .and=>a &&& b
 | .or=>a ||| b
 | .xor=>a ^^^ b
 | _=>a &&& ~~~b
theorem wrapv_u8 (v:BitVec 8):IntKind.u8.wrap (v.toNat:Int)=u8 v:=by rw [wrap_u8,BitVec.ofInt_natCast]; simp
theorem wrapv_u32 (v:BitVec 32):IntKind.u32.wrap (v.toNat:Int)=u32 v:=by rw [wrap_u32,BitVec.ofInt_natCast]; simp
theorem wrapv_i64 (v:BitVec 64):IntKind.i64.wrap (v.toNat:Int)=i64 v:=by rw [wrap_i64,BitVec.ofInt_natCast]; simp
theorem bits_u8 (op:BinOp) (x y:Int):bits op .u8 x y=u8 (bvop op (BitVec.ofInt 8 x) (BitVec.ofInt 8 y)):=by cases op <;> exact wrapv_u8 _
theorem bits_u32 (op:BinOp) (x y:Int):bits op .u32 x y=u32 (bvop op (BitVec.ofInt 32 x) (BitVec.ofInt 32 y)):=by cases op <;> exact wrapv_u32 _
theorem bits_i64 (op:BinOp) (x y:Int):bits op .i64 x y=i64 (bvop op (BitVec.ofInt 64 x) (BitVec.ofInt 64 y)):=by cases op <;> exact wrapv_i64 _
theorem bvop_and {n:Nat} (a b:BitVec n):bvop .and a b=a &&& b:=rfl
theorem bvop_or {n:Nat} (a b:BitVec n):bvop .or a b=a ||| b:=rfl
theorem bvop_xor {n:Nat} (a b:BitVec n):bvop .xor a b=a ^^^ b:=rfl
theorem ofInt_u8 (n:Nat) (v:BitVec 8):BitVec.ofInt n (u8 v)=v.setWidth n:=by
 apply BitVec.eq_of_toNat_eq; simp [u8]
theorem ofInt_u32 (n:Nat) (v:BitVec 32):BitVec.ofInt n (u32 v)=v.setWidth n:=by
 apply BitVec.eq_of_toNat_eq; simp [u32]
theorem ofInt_i64_64 (v:BitVec 64):BitVec.ofInt 64 (i64 v)=v:=by simp [i64]
theorem shl_u32 (x:Int) (j:Nat) (hj:j≤32):shlv .u32 x (j:Int)=u32 (BitVec.ofInt 32 x <<< j):=by
 have e:min (j:Int).toNat IntKind.u32.bits=j:=by
  show min (j:Int).toNat 32=j
  rw [Int.toNat_natCast]; omega
 unfold shlv
 rw [e,wrap_u32]
 congr 1
 apply BitVec.eq_of_toNat_eq
 rw [BitVec.toNat_shiftLeft,BitVec.toNat_ofInt,BitVec.toNat_ofInt,Nat.shiftLeft_eq]
 have h0:((2 ^ 32:Nat):Int)=4294967296:=rfl
 have hp:((2 ^ j:Nat):Int)=2 ^ j:=by simp
 have h1:((x % ((2 ^ 32:Nat):Int)).toNat:Int)=x % ((2 ^ 32:Nat):Int):=Int.toNat_of_nonneg (Int.emod_nonneg _ (by decide))
 apply Int.ofNat.inj
 show ((x * 2 ^ j % ((2 ^ 32:Nat):Int)).toNat:Int)=(((x % ((2 ^ 32:Nat):Int)).toNat * 2 ^ j % 2 ^ 32:Nat):Int)
 rw [Int.toNat_of_nonneg (Int.emod_nonneg _ (by decide)),Int.natCast_emod,Int.natCast_mul,h1,hp]
 rw [Int.mul_emod x,Int.mul_emod (x % ((2 ^ 32:Nat):Int)) (2 ^ j),Int.emod_emod]
theorem shl_i64 (x:Int) (j:Nat) (hj:j≤64):shlv .i64 x (j:Int)=i64 (BitVec.ofInt 64 x <<< j):=by
 have e:min (j:Int).toNat IntKind.i64.bits=j:=by
  show min (j:Int).toNat 64=j
  rw [Int.toNat_natCast]; omega
 unfold shlv
 rw [e,wrap_i64]
 congr 1
 apply BitVec.eq_of_toNat_eq
 rw [BitVec.toNat_shiftLeft,BitVec.toNat_ofInt,BitVec.toNat_ofInt,Nat.shiftLeft_eq]
 have hp:((2 ^ j:Nat):Int)=2 ^ j:=by simp
 have h1:((x % ((2 ^ 64:Nat):Int)).toNat:Int)=x % ((2 ^ 64:Nat):Int):=Int.toNat_of_nonneg (Int.emod_nonneg _ (by decide))
 apply Int.ofNat.inj
 show ((x * 2 ^ j % ((2 ^ 64:Nat):Int)).toNat:Int)=(((x % ((2 ^ 64:Nat):Int)).toNat * 2 ^ j % 2 ^ 64:Nat):Int)
 rw [Int.toNat_of_nonneg (Int.emod_nonneg _ (by decide)),Int.natCast_emod,Int.natCast_mul,h1,hp]
 rw [Int.mul_emod x,Int.mul_emod (x % ((2 ^ 64:Nat):Int)) (2 ^ j),Int.emod_emod]
theorem shr_u32 (v:BitVec 32) (j:Nat) (hj:j≤32):shrv .u32 (u32 v) (j:Int)=u32 (v >>> j):=by
 have e:min (j:Int).toNat IntKind.u32.bits=j:=by
  show min (j:Int).toNat 32=j
  rw [Int.toNat_natCast]; omega
 unfold shrv
 rw [e,Int.fdiv_eq_ediv_of_nonneg _ (Int.le_of_lt (Int.pow_pos (by decide))),u32,u32,BitVec.toNat_ushiftRight,Nat.shiftRight_eq_div_pow]
 simp
theorem shr_i64 (v:BitVec 64) (j:Nat) (hj:j≤64):shrv .i64 (i64 v) (j:Int)=i64 (v.sshiftRight j):=by
 have e:min (j:Int).toNat IntKind.i64.bits=j:=by
  show min (j:Int).toNat 64=j
  rw [Int.toNat_natCast]; omega
 unfold shrv
 rw [e,Int.fdiv_eq_ediv_of_nonneg _ (Int.le_of_lt (Int.pow_pos (by decide))),i64,i64,BitVec.toInt_sshiftRight,Int.shiftRight_eq_div_pow]
 simp
theorem u32_inj {v w:BitVec 32}:u32 v=u32 w↔v=w:=by
 unfold u32
 exact ⟨fun h=>BitVec.eq_of_toNat_eq (Int.ofNat.inj h),fun h=>by rw [h]⟩
theorem fit_u8 {n:Int} (h0:0≤n) (h1:n<256):n=u8 (BitVec.ofInt 8 n):=by rw [← wrap_u8,IntKind.wrap_u8]; omega
theorem fit_u32 {n:Int} (h0:0≤n) (h1:n<4294967296):n=u32 (BitVec.ofInt 32 n):=by rw [← wrap_u32,IntKind.wrap_u32]; omega
theorem fit_i64 {n:Int} (h0 : -9223372036854775808≤n) (h1:n<9223372036854775808):n=i64 (BitVec.ofInt 64 n):=by rw [← wrap_i64,IntKind.wrap_i64]; omega
end Go.Nx
namespace Go.Nx
open Go Go.RowKit Go.ChangeShapes Go.WideShapes Go.ChangeAt
def isErrD (d:DataW Unit):Bool:=
 match d with
 | .iface "*errors.errorString" (.ptr (.agg [.lit (.string _)]))=>true
 | _=>false
theorem isErrD_spec {d:DataW Unit} (h:isErrD d=true):∃ text,d=.iface "*errors.errorString" (.ptr (.agg [.lit (.string text)])):=by
 unfold isErrD at h
 split at h
 ·exact ⟨_,rfl⟩
 ·cases h
structure ErrTypes (P:Program) (ti et te ts:TypeId):Prop where
 hti:∃ ms,P.underlying ti=some (.interface ms)
 row:∀ u,P.typeName? 3 u=some "*errors.errorString"→u=et
 het:P.underlying et=some (.pointer te)
 hte:∃ f:Field,P.underlying te=some (.struct #[f])∧f.type=ts∧f.offset=0
 hts:P.underlying ts=some .string
 hce:P.cellsOf te=1
 hcs:P.cellsOf ts=1
structure ErrAt (W:World) (et:TypeId) (ps:List MemPlace) (g:Nat) (ad:Addr):Prop where
 cell:∃ c e fz,W.heap[g]? = some (.cells c e fz)∧c[0]? = some (.iface et (.pointer (some ad)))
 obj:∃ c t,W.heap[ad.block]? = some (.cells c t (0,0))
 place:MemPlace.cell ad.block ad.off∈ps
 spot:ad.spot=none
theorem laid_errs {P:Program} {W:World} {ti et te ts:TypeId} (hT:ErrTypes P ti et te ts) :
  ∀ {laid:List (String × DataW Unit)} {gs:List Nat} {ps:List MemPlace},(laid.all fun x=>isErrD x.2)=true→mapL (fun x:String × DataW Unit=>P.globalNamed x.1) laid=some gs→(gs.all fun g=>(P.globals[g]?).map (·.type)==some ti)=true→
   DataW.LaidVars P W laid ps→ps.Nodup→(∀ b off,MemPlace.cell b off∈ps→(∃ c t,W.heap[b]? = some (.cells c t (0,0)))∧∀ u v,W.cell? ⟨b,off,none⟩=some (.iface u v)→Value.okWide P W .any 0 u v)→
   ∃ ads:List Addr,R2 (ErrAt W et ps) gs ads∧ads.Nodup
 | [],gs,ps,_,hg,_,_,_,_=>by
   simp [mapL] at hg
   subst hg
   exact ⟨[],.nil,by simp⟩
 | (n,d)::laid,gs,ps,he,hg,ht,hL,hnd,hps=>by
   simp only [mapL] at hg
   split at hg
   case h_2=>cases hg
   rename_i g gs' h1 h2
   cases hg
   simp only [List.all_cons,Bool.and_eq_true,beq_iff_eq] at he ht
   obtain ⟨g',t,cs,fuel,p,q,hg',htt,hv,hd,hrest,e⟩:=hL
   rw [h1] at hg'
   cases hg'
   rw [ht.1] at htt
   cases htt
   obtain ⟨text,rfl⟩:=isErrD_spec he.1
   obtain ⟨ms,hms⟩:=hT.hti
   obtain ⟨f,hf1,hf2,hf3⟩:=hT.hte
   subst e
   rw [List.append_assoc] at hnd
   have hnd2:=(List.nodup_append.1 hnd).2.1
   obtain ⟨hndp,hndq,hdis⟩:=List.nodup_append.1 hnd2
   have hok:∀ u v,cs.toList=[.iface u v]→Value.okWide P W .any 0 u v:=fun u v ec=>by
    have hc1:cs=#[.iface u v]:=by
     apply Array.ext'
     simpa using ec
    refine (hps g 0 ?_).2 u v ?_
    ·rw [List.append_assoc,List.mem_append]
     left
     rw [hc1]
     simp [MemPlace.row]
    ·have:=World.var?_cell h1 hv 0
     rw [this,hc1]
     rfl
   obtain ⟨ad,s,hcs,hcell,-,-,rfl⟩:=errorString_of_trod hms hT.row hT.het hf1 hf2 hf3 hT.hts hT.hce hT.hcs hd hok
   obtain ⟨ads,hads,hand⟩:=laid_errs hT he.2 h2 ht.2 hrest hndq fun b off hm=>hps b off (by rw [List.append_assoc,List.mem_append,List.mem_append]; exact .inr (.inr hm))
   have hpl:MemPlace.cell ad.block ad.off∈MemPlace.row ad 1:=by simp [MemPlace.row]
   have hc1:cs=#[.iface et (.pointer (some ad))]:=by
    apply Array.ext'
    simpa using hcs
   have hobj:=(hps ad.block ad.off (by rw [List.append_assoc,List.mem_append,List.mem_append]; exact .inr (.inl hpl))).1
   have hspot:ad.spot=none:=by
    obtain ⟨c,t,hb⟩:=hobj
    unfold World.cell? at hcell
    rw [hb] at hcell
    cases hsp:ad.spot with
    | none=>rfl
    | some k=>rw [hsp] at hcell; simp at hcell
   refine ⟨ad::ads,.cons ⟨?_,hobj,?_,hspot⟩ (hads.imp fun g a h=>⟨h.cell,h.obj,?_,h.spot⟩),?_⟩
   ·have h0:=World.var?_cell h1 hv 0
    rw [hc1] at h0
    have h0' : W.cell? ⟨g,0,none⟩=some (.iface et (.pointer (some ad))):=h0
    unfold World.cell? at h0'
    split at h0'
    ·rename_i c e fz hb
     exact ⟨c,e,fz,hb,by simpa using h0'⟩
    ·cases h0'
   ·rw [List.append_assoc,List.mem_append,List.mem_append]; exact .inr (.inl hpl)
   ·rw [List.append_assoc,List.mem_append,List.mem_append]; exact .inr (.inr h.place)
   ·refine List.nodup_cons.2 ⟨fun hm=>?_,hand⟩
    obtain ⟨j,hj⟩:=List.getElem?_of_mem hm
    have hlen:=hads.length
    have hjl:j<gs'.length:=by rw [hlen]; exact (List.getElem?_eq_some_iff.1 hj).1
    obtain ⟨b,hb,hE⟩:=hads.get (List.getElem?_eq_getElem hjl)
    rw [hj] at hb
    cases hb
    exact hdis _ hpl _ hE.place rfl
theorem nodup_getA {α:Type} {l:List α} (h:l.Nodup) {i j:Nat} {n:α} (hi:l[i]? = some n) (hj:l[j]? = some n):i=j:=by
 obtain ⟨h1,h2⟩:=List.getElem?_eq_some_iff.1 hi
 obtain ⟨h3,h4⟩:=List.getElem?_eq_some_iff.1 hj
 rcases Nat.lt_trichotomy i j with hij | hij | hij
 ·exact absurd (h2.trans h4.symm) ((List.pairwise_iff_getElem.1 h) i j h1 h3 hij)
 ·exact hij
 ·exact absurd (h4.trans h2.symm) ((List.pairwise_iff_getElem.1 h) j i h3 h1 hij)
def erOf (W:World) (g:Nat):Option Value:=W.cell? ⟨g,0,none⟩
theorem glob_of_laid {P:Program} {W:World} {ti et te ts:TypeId} (hT:ErrTypes P ti et te ts) {laid:List (String × DataW Unit)} {gs:List Nat} (he:(laid.all fun x=>isErrD x.2)=true) (hg:mapL (fun x:String × DataW Unit=>P.globalNamed x.1) laid=some gs)
  (ht:(gs.all fun g=>(P.globals[g]?).map (·.type)==some ti)=true) (hL:laidMet P laid W) {vs:List Nat} (hsub:(vs.all fun v=>gs.contains v)=true):GlobOk (et::vs) (topEnv W (erOf W)):=by
 obtain ⟨ps,hlv,hnd,hps⟩:=hL
 obtain ⟨ads,hads,hand⟩:=laid_errs hT he hg ht hlv hnd hps
 have key:∀ x∈vs,∃ (j:Nat) (ad:Addr),gs[j]? = some x∧ads[j]? = some ad∧ErrAt W et ps x ad:=by
  intro x hx
  have hm:x∈gs:=List.contains_iff_mem.1 (List.all_eq_true.1 hsub x hx)
  obtain ⟨j,hj⟩:=List.getElem?_of_mem hm
  obtain ⟨ad,ha,hE⟩:=hads.get hj
  exact ⟨j,ad,hj,ha,hE⟩
 have er:∀ {x:Nat} {ad:Addr},ErrAt W et ps x ad→erOf W x=some (.iface et (.pointer (some ad))):=by
  intro x ad hE
  obtain ⟨c,e,fz,hb,hc⟩:=hE.cell
  unfold erOf World.cell?
  rw [hb]
  simpa using hc
 refine ⟨fun x hx=>?_,fun x hx y hy hne hxy=>?_⟩
 ·obtain ⟨j,ad,-,-,hE⟩:=key x hx
  obtain ⟨c,e,fz,hb,hc⟩:=hE.cell
  obtain ⟨c2,t2,hb2⟩:=hE.obj
  exact ⟨ad,c,e,fz,c2,t2,er hE,hb,hc,hb2⟩
 ·obtain ⟨j,ad,hj,ha,hE⟩:=key x hx
  obtain ⟨k,bd,hk,hb,hF⟩:=key y hy
  have hxy' : erOf W x=erOf W y:=hxy
  rw [er hE,er hF] at hxy'
  cases hxy'
  have:j=k:=nodup_getA hand ha hb
  subst this
  rw [hj] at hk
  cases hk
  exact hne rfl
end Go.Nx
namespace Go.Proofs.YtbmpbafemefepaaGreatDoor
namespace num
open Go Go.Nx
theorem mixed:Tryz.prog.follows .mixedOrders=true:=by kernel_rfl
noncomputable def tNum:Con:=fun args regs=>nfun Tryz.prog [] (fun _=>Option.none) [] Tryz.f27 args regs
theorem kNum:Known Tryz.prog [] 27 tNum:=known_inl Tryz.func27 rfl (by kernel_rfl) mixed con_none (by kernel_rfl)
theorem num_tree (n m:Int) (R:Out→Prop):(tNum [.c (.i .i64 n),.c (.i .i64 m)] []).run R=sel (m !=0) (sel (decide (Int.tmod n m<0)) (R ⟨.v (.c (.i .i64 (IntKind.i64.wrap (Int.tmod n m+m)))),[]⟩) (R ⟨.v (.c (.i .i64 (Int.tmod n m))),[]⟩)) False:=by kernel_rfl
noncomputable def tNumV:Con:=fun args regs=>match args,regs with
 | [.c (.i .i64 n),.c (.i .i64 m)],[]=>.must (0<m∧m<4611686018427387904) (.ret ⟨.v (.c (.i .i64 (n % m))),[]⟩)
 | _,_=>.fail
theorem kNumV:Known Tryz.prog [] 27 tNumV:=by
 refine kNum.less fun args regs R h=>?_
 unfold tNumV at h
 split at h
 case h_2=>exact h.elim
 rename_i n m
 have h1:=h.1
 have h2:R ⟨.v (.c (.i .i64 (n % m))),[]⟩:=h.2
 clear h
 rw [num_tree]
 have a1:=Int.tmod_lt_of_pos n h1.1
 have a2 : -m<Int.tmod n m:=by
  have:=Int.tmod_lt_of_pos (-n) h1.1
  rw [Int.neg_tmod] at this
  omega
 have a3:n % m=if Int.tmod n m<0 then Int.tmod n m+m else Int.tmod n m:=by
  rw [Int.emod_eq_tmod]
  by_cases c:0≤n∨m ∣ n
  ·rw [if_pos c]
   rcases c with c | c
   ·have:¬ Int.tmod n m<0:=by
     have:=Int.tmod_nonneg m c
     omega
    rw [if_neg this]; omega
   ·have:Int.tmod n m=0:=Int.tmod_eq_zero_of_dvd c
    rw [this]; simp
  ·rw [if_neg c]
   have c1:¬ 0≤n:=fun h=>c (.inl h)
   have c2:¬ m ∣ n:=fun h=>c (.inr h)
   have:Int.tmod n m<0:=by
    have h0:Int.tmod n m≠0:=fun h=>c2 (Int.dvd_of_tmod_eq_zero h)
    have h5:Int.tmod n m≤0:=by
     have h6:=Int.tmod_nonneg (a:=-n) m (by omega)
     rw [Int.neg_tmod] at h6
     omega
    omega
   rw [if_pos this]; omega
 refine sel_iff.2 (.inl ⟨by rw [bne_iff_ne]; omega,?_⟩)
 rw [a3] at h2
 by_cases c:Int.tmod n m<0
 ·rw [if_pos c] at h2
  refine sel_iff.2 (.inl ⟨by rw [decide_eq_true_eq]; exact c,?_⟩)
  have w2:IntKind.i64.wrap (Int.tmod n m+m)=Int.tmod n m+m:=by rw [IntKind.wrap_i64]; omega
  rw [w2]
  exact h2
 ·rw [if_neg c] at h2
  exact sel_iff.2 (.inr ⟨by rw [decide_eq_false_iff_not]; exact c,h2⟩)
end num
namespace pk
open Go Go.Nx
structure Box (p:Prop):Prop where
 out:p
theorem Box.of_eq {p q:Prop} (h:p=q) (hq:q):Box p:=⟨h.mpr hq⟩
theorem dT {p:Prop} [Decidable p] (h:p):decide p=true:=decide_eq_true h
theorem dF {p:Prop} [Decidable p] (h:¬ p):decide p=false:=decide_eq_false h
theorem selT {c:Bool} {A B:Prop} (h:c=true) (hA:A):sel c A B:=sel_iff.2 (.inl ⟨h,hA⟩)
theorem selF {c:Bool} {A B:Prop} (h:c=false) (hB:B):sel c A B:=sel_iff.2 (.inr ⟨h,hB⟩)
theorem sel_by {c:Prop} [Decidable c] {A B:Prop} (hA:c→A) (hB:¬ c→B):sel (decide c) A B:=by
 by_cases h:c
 ·exact selT (dT h) (hA h)
 ·exact selF (dF h) (hB h)
theorem byte_nat {b:Int} (h:0≤b∧b<256):∃ n,n<256∧b=Int.ofNat n:=⟨b.toNat,by omega,by show b=((b.toNat:Nat):Int); omega⟩
theorem mixed:Tryz.prog.follows .mixedOrders=true:=by kernel_rfl
noncomputable def t_odd1:Con:=fun args regs=>nfun Tryz.prog [] (fun _=>Option.none) [] Tryz.f166 args regs
theorem k_odd1:Known Tryz.prog [] 166 t_odd1:=known_inl Tryz.func166 rfl (by kernel_rfl) mixed con_none (by kernel_rfl)
noncomputable def c_podd:FuncId→Option Con:=conOf [(166,t_odd1)]
theorem kc_podd:∀ f T,c_podd f=some T→Known Tryz.prog [] f T:=(Knowns.cons k_odd1 Knowns.nil).get
noncomputable def t_podd:Con:=fun args regs=>nfun Tryz.prog [] c_podd [] Tryz.f141 args regs
theorem k_podd:Known Tryz.prog [] 141 t_podd:=known_inl Tryz.func141 rfl (by kernel_rfl) mixed kc_podd (by kernel_rfl)
noncomputable def c_peven:FuncId→Option Con:=conOf [(141,t_podd)]
theorem kc_peven:∀ f T,c_peven f=some T→Known Tryz.prog [] f T:=(Knowns.cons k_podd Knowns.nil).get
noncomputable def t_peven:Con:=fun args regs=>nfun Tryz.prog [] c_peven [] Tryz.f202 args regs
theorem k_peven:Known Tryz.prog [] 202 t_peven:=known_inl Tryz.func202 rfl (by kernel_rfl) mixed kc_peven (by kernel_rfl)
noncomputable def t_put1:Con:=fun args regs=>nfun Tryz.prog [] (fun _=>Option.none) [] Tryz.f201 args regs
theorem k_put1:Known Tryz.prog [] 201 t_put1:=known_inl Tryz.func201 rfl (by kernel_rfl) mixed con_none (by kernel_rfl)
def pcTo (x:Nat):Nat→Nat
 | 0=>0
 | n+1=>pcTo x n+(x / 2 ^ n) % 2
def pc (b:Int):Int:=(pcTo b.toNat 8:Int)
def isEv (b:Int):Bool:=pcTo b.toNat 8 % 2==0
noncomputable def tab:ByteArray:=⟨((List.range 256).map fun i=>UInt8.ofNat (pcTo i 8)).toArray⟩
theorem pop_tree (b:Int) (R:Out→Prop):(t_odd1 [.c (.i .u8 b)] []).run R=sel (decide (0≤b)) (sel (decide (b<(tab.size:Int))) (R ⟨.v (.c (.i .i64 (IntKind.i64.wrap (byteAt tab b.toNat)))),[]⟩) False) False:=by kernel_rfl
theorem even_tree (b:Int) (R:Out→Prop):(t_peven [.c (.i .u8 b)] []).run R=sel (decide (0≤b)) (sel (decide (b<(tab.size:Int))) (R ⟨.v (.c (.b (!((IntKind.i64.wrap (byteAt tab b.toNat)).tmod 2==1)))),[]⟩) False) False:=by kernel_rfl
theorem tab_size:tab.size=256:=by decide +kernel
theorem tab_even:∀ n<256,(!((IntKind.i64.wrap (byteAt tab n)).tmod 2==1))=isEv (Int.ofNat n):=by decide +kernel
theorem tab_pop:∀ n<256,IntKind.i64.wrap (byteAt tab n)=pc (Int.ofNat n):=by decide +kernel
noncomputable def tPop:Con:=fun args regs=>match args,regs with
 | [.c (.i .u8 b)],[]=>.must (0≤b∧b<256) (.ret ⟨.v (.c (.i .i64 (pc b))),[]⟩)
 | _,_=>.fail
noncomputable def tEvenV:Con:=fun args regs=>match args,regs with
 | [.c (.i .u8 b)],[]=>.must (0≤b∧b<256) (.ret ⟨.v (.c (.b (isEv b))),[]⟩)
 | _,_=>.fail
theorem kPop:Known Tryz.prog [] 166 tPop:=by
 refine k_odd1.less fun args regs R h=>Box.out ?_
 unfold tPop at h
 split at h
 case h_2=>exact h.elim
 rename_i b
 have h1:=h.1
 have h2:R ⟨.v (.c (.i .i64 (pc b))),[]⟩:=h.2
 clear h
 refine Box.of_eq (pop_tree b R) (selT (dT h1.1) (selT (dT (by rw [tab_size]; exact h1.2)) ?_))
 obtain ⟨n,hn,rfl⟩:=byte_nat h1
 rw [show (Int.ofNat n).toNat=n from rfl,tab_pop n hn]
 exact h2
theorem kEvenV:Known Tryz.prog [] 202 tEvenV:=by
 refine k_peven.less fun args regs R h=>Box.out ?_
 unfold tEvenV at h
 split at h
 case h_2=>exact h.elim
 rename_i b
 have h1:=h.1
 have h2:R ⟨.v (.c (.b (isEv b))),[]⟩:=h.2
 clear h
 refine Box.of_eq (even_tree b R) (selT (dT h1.1) (selT (dT (by rw [tab_size]; exact h1.2)) ?_))
 obtain ⟨n,hn,rfl⟩:=byte_nat h1
 rw [show (Int.ofNat n).toNat=n from rfl,tab_even n hn]
 exact h2
noncomputable def c_put:FuncId→Option Con:=conOf [(201,t_put1),(202,tEvenV)]
theorem kc_put:∀ f T,c_put f=some T→Known Tryz.prog [] f T:=(Knowns.cons k_put1 (Knowns.cons kEvenV Knowns.nil)).get
noncomputable def t_put:Con:=fun args regs=>nfun Tryz.prog [] c_put [] Tryz.f167 args regs
theorem k_put:Known Tryz.prog [] 167 t_put:=known_inl Tryz.func167 rfl (by kernel_rfl) mixed kc_put (by kernel_rfl)
noncomputable def D (n k:Int):Int:=IntKind.u8.wrap (bits .and .i64 (shrv .i64 n (IntKind.i64.wrap (k - 1))) 1)
def o8 (a b:Int):Int:=bits .or .u8 a b
def x8 (a b:Int):Int:=bits .xor .u8 a b
def PB (d1 d2 d3 d4:Int):Int:=o8 (o8 (o8 (o8 (shlv .u8 d1 1) (shlv .u8 d2 3)) (shlv .u8 d3 5)) (shlv .u8 d4 7)) (o8 (o8 (shlv .u8 (x8 (x8 (x8 1 d1) d3) d4) 0) (shlv .u8 (x8 (x8 (x8 1 d1) d2) d4) 2)) (shlv .u8 (x8 (x8 (x8 1 d1) d2) d3) 4))
theorem put_tree (n:Int) (R:Out→Prop):(t_put [.c (.i .i64 n)] []).run R =
 ((0≤PB (D n 1) (D n 2) (D n 3) (D n 4)∧PB (D n 1) (D n 2) (D n 3) (D n 4)<256)∧sel (isEv (PB (D n 1) (D n 2) (D n 3) (D n 4))) (R ⟨.v (.c (.i .u8 (o8 (PB (D n 1) (D n 2) (D n 3) (D n 4)) 64))),[]⟩) (R ⟨.v (.c (.i .u8 (PB (D n 1) (D n 2) (D n 3) (D n 4)))),[]⟩)):=by kernel_rfl
def putL:List Int:=[0x15,0x02,0x49,0x5E,0x64,0x73,0x38,0x2F,0xD0,0xC7,0x8C,0x9B,0xA1,0xB6,0xFD,0xEA]
def put (n:Int):Int:=putL.getD (n % 16).toNat 0
def bit (n:Int) (k:Nat):Int:=n / 2 ^ k % 2
theorem D_eq (n:Int) (k:Nat) (hk:k<4):D n (k+1)=bit n k:=by
 have e1:IntKind.i64.wrap ((k:Int)+1 - 1)=(k:Int):=by rw [IntKind.wrap_i64]; omega
 have e2:shrv .i64 n (k:Int)=n / 2 ^ k:=by
  unfold shrv
  have:min (k:Int).toNat IntKind.i64.bits=k:=by
   show min (k:Int).toNat 64=k
   simp; omega
  rw [this,Int.fdiv_eq_ediv_of_nonneg _ (by exact_mod_cast Nat.zero_le _)]
 have e3:bits .and .i64 (n / 2 ^ k) 1=n / 2 ^ k % 2:=and_mask64 _ 1 (by decide)
 unfold D bit
 rw [e1,e2,e3,IntKind.wrap_u8]
 have:=Int.emod_nonneg (n / 2 ^ k) (b:=2) (by decide)
 have:=Int.emod_lt_of_pos (n / 2 ^ k) (b:=2) (by decide)
 omega
theorem bit_16 (n:Int) (k:Nat) (hk:k<4):bit n k=bit (n % 16) k:=by
 unfold bit
 have:k=0∨k=1∨k=2∨k=3:=by omega
 rcases this with rfl | rfl | rfl | rfl <;> simp <;> omega
theorem put_all:∀ m<16,(0≤PB (bit (Int.ofNat m) 0) (bit (Int.ofNat m) 1) (bit (Int.ofNat m) 2) (bit (Int.ofNat m) 3)∧PB (bit (Int.ofNat m) 0) (bit (Int.ofNat m) 1) (bit (Int.ofNat m) 2) (bit (Int.ofNat m) 3)<256)∧
 (bif isEv (PB (bit (Int.ofNat m) 0) (bit (Int.ofNat m) 1) (bit (Int.ofNat m) 2) (bit (Int.ofNat m) 3)) then o8 (PB (bit (Int.ofNat m) 0) (bit (Int.ofNat m) 1) (bit (Int.ofNat m) 2) (bit (Int.ofNat m) 3)) 64 else PB (bit (Int.ofNat m) 0) (bit (Int.ofNat m) 1) (bit (Int.ofNat m) 2) (bit (Int.ofNat m) 3))=put (Int.ofNat m):=by decide +kernel
theorem put_16 (n:Int):put (n % 16)=put n:=by
 unfold put
 rw [Int.emod_emod_of_dvd _ (Int.dvd_refl 16)]
theorem PB_of (n:Int):(0≤PB (D n 1) (D n 2) (D n 3) (D n 4)∧PB (D n 1) (D n 2) (D n 3) (D n 4)<256)∧(bif isEv (PB (D n 1) (D n 2) (D n 3) (D n 4)) then o8 (PB (D n 1) (D n 2) (D n 3) (D n 4)) 64 else PB (D n 1) (D n 2) (D n 3) (D n 4))=put n:=by
 have d1:D n 1=bit n 0:=D_eq n 0 (by decide)
 have d2:D n 2=bit n 1:=D_eq n 1 (by decide)
 have d3:D n 3=bit n 2:=D_eq n 2 (by decide)
 have d4:D n 4=bit n 3:=D_eq n 3 (by decide)
 rw [d1,d2,d3,d4,bit_16 n 0 (by decide),bit_16 n 1 (by decide),bit_16 n 2 (by decide),bit_16 n 3 (by decide),← put_16 n]
 have h0:=Int.emod_nonneg n (b:=16) (by decide)
 have h1:=Int.emod_lt_of_pos n (b:=16) (by decide)
 have e:n % 16=Int.ofNat (n % 16).toNat:=by show n % 16=(((n % 16).toNat:Nat):Int); omega
 have hm:(n % 16).toNat<16:=by omega
 generalize (n % 16).toNat=m at *
 rw [e]
 exact put_all m hm
noncomputable def tPut:Con:=fun args regs=>match args,regs with
 | [.c (.i .i64 n)],[]=>.ret ⟨.v (.c (.i .u8 (put n))),[]⟩
 | _,_=>.fail
theorem kPut:Known Tryz.prog [] 167 tPut:=by
 refine k_put.less fun args regs R h=>Box.out ?_
 unfold tPut at h
 split at h
 case h_2=>exact h.elim
 rename_i n
 have h2:R ⟨.v (.c (.i .u8 (put n))),[]⟩:=h
 clear h
 obtain ⟨p1,p2⟩:=PB_of n
 refine Box.of_eq (put_tree n R) ⟨p1,?_⟩
 rw [← p2] at h2
 cases hb:isEv (PB (D n 1) (D n 2) (D n 3) (D n 4)) with
 | true=>rw [hb] at h2; exact h2
 | false=>rw [hb] at h2; exact h2
noncomputable def c_get:FuncId→Option Con:=conOf [(167,tPut),(166,tPop)]
theorem kc_get:∀ f T,c_get f=some T→Known Tryz.prog [] f T:=(Knowns.cons kPut (Knowns.cons kPop Knowns.nil)).get
noncomputable def X_get:Cx:={P:=Tryz.prog,con:=c_get,glob:=[],m:=0,loops:=[]}
noncomputable def t_get:Con:=fun args regs=>if regs.length=0 then nfun Tryz.prog [] c_get [(0,[0,5],unroll X_get 0 [0,5] [2,3] (bodyLoop Tryz.f119 0) 17)] Tryz.f119 args regs else .fail
theorem k_get:Known Tryz.prog [] 119 t_get:=known_loops 0 Tryz.func119 rfl (by kernel_rfl) mixed kc_get (LAll.one (id:=0) (body:=bodyLoop Tryz.f119 0) (by kernel_rfl) rfl (unroll_ok (X:=X_get) kc_get mixed (LAll.none (by kernel_rfl)) [0,5] [2,3] 17))
def oG (n:Int) (x:Bool):Out:=⟨.tu [.c (.i .i64 n),.c (.b x)],[]⟩
def hit (b:Int) (k:Nat):Bool:=decide (pc (x8 b (put (k:Int)))≤1)
def getE (b:Int) (R:Out→Prop):List Nat→Prop
 | []=>R (oG 0 false)
 | k::ks=>(0≤x8 b (put (k:Int))∧x8 b (put (k:Int))<256)∧sel (hit b k) (R (oG (k:Int) true)) (getE b R ks)
theorem get_tree (b:Int) (R:Out→Prop):(t_get [.c (.i .u8 b)] []).run R=getE b R (List.range 16):=by kernel_rfl
def get (b:Int):Option Nat:=(List.range 16).find? (hit b)
def getN (b:Int):Int:=((get b).getD 0:Nat)
def getB (b:Int):Bool:=(get b).isSome
theorem x8_in (a b:Int):0≤x8 a b∧x8 a b<256:=by
 unfold x8 bits
 rw [IntKind.wrap_u8]
 omega
theorem getE_in {b:Int} {R:Out→Prop}:∀ {l:List Nat},R (oG ((l.find? (hit b)).getD 0:Nat) (l.find? (hit b)).isSome)→getE b R l
 | [],h=>h
 | k::ks,h=>by
   refine ⟨x8_in _ _,?_⟩
   rw [List.find?_cons] at h
   cases hk:hit b k with
   | true=>rw [hk] at h; exact h
   | false=>rw [hk] at h; exact getE_in h
noncomputable def tGet:Con:=fun args regs=>match args,regs with
 | [.c (.i .u8 b)],[]=>.ret (oG (getN b) (getB b))
 | _,_=>.fail
theorem kGet:Known Tryz.prog [] 119 tGet:=by
 refine k_get.less fun args regs R h=>Box.out ?_
 unfold tGet at h
 split at h
 case h_2=>exact h.elim
 rename_i b
 exact Box.of_eq (get_tree b R) (getE_in h)
noncomputable def c_open:FuncId→Option Con:=conOf [(119,tGet)]
theorem kc_open:∀ f T,c_open f=some T→Known Tryz.prog [] f T:=(Knowns.cons kGet Knowns.nil).get
noncomputable def X_open:Cx:={P:=Tryz.prog,con:=c_open,glob:=[],m:=0,loops:=[]}
noncomputable def t_open:Con:=fun args regs=>if regs.length=0 then nfun Tryz.prog [] c_open [(0,[4,9,10,11],unroll X_open 0 [4,9,10,11] [2,3,4] (bodyLoop Tryz.f117 0) 3)] Tryz.f117 args regs else .fail
theorem k_open:Known Tryz.prog [] 117 t_open:=known_loops 0 Tryz.func117 rfl (by kernel_rfl) mixed kc_open (LAll.one (id:=0) (body:=bodyLoop Tryz.f117 0) (by kernel_rfl) rfl (unroll_ok (X:=X_open) kc_open mixed (LAll.none (by kernel_rfl)) [4,9,10,11] [2,3,4] 3))
def oO (a b:Int):Out:=⟨.tu [.c (.h 0 0 2),.c (.b true)],[some ⟨1,3,.ints .i64 [a,b]⟩]⟩
def oN:Out:=⟨.tu [.c .sn,.c (.b false)],[]⟩
theorem open_tree (a b:Int) (R:Out→Prop):(t_open [.c (.l .u8 [a,b])] []).run R=sel (!getB a) (R oN) (sel (!getB b) (R oN) (R (oO (getN a) (getN b)))):=by kernel_rfl
noncomputable def tOpen:Con:=fun args regs=>match args,regs with
 | [.c (.l .u8 ys)],[]=>.must (ys.length=2) (.br (getB (ys.getD 0 0)&&getB (ys.getD 1 0)) (.ret (oO (getN (ys.getD 0 0)) (getN (ys.getD 1 0)))) (.ret oN))
 | _,_=>.fail
theorem kOpen:Known Tryz.prog [] 117 tOpen:=by
 refine k_open.less fun args regs R h=>Box.out ?_
 unfold tOpen at h
 split at h
 case h_2=>exact h.elim
 rename_i ys
 have h1:=h.1
 have h2:=sel_iff.1 h.2
 clear h
 obtain ⟨a,b,rfl⟩:∃ a b,ys=[a,b]:=by
  match ys,h1 with
  | [a,b],_=>exact ⟨a,b,rfl⟩
 refine Box.of_eq (open_tree a b R) ?_
 rcases h2 with ⟨c,hR⟩ | ⟨c,hR⟩
 ·have c:(getB a&&getB b)=true:=c
  rw [Bool.and_eq_true] at c
  rw [c.1,c.2]
  exact hR
 ·have c:(getB a&&getB b)=false:=c
  cases ha:getB a with
  | false=>exact hR
  | true=>
    cases hb:getB b with
    | false=>exact hR
    | true=>rw [ha,hb] at c; cases c
noncomputable def t_kind:Con:=fun args regs=>nfun Tryz.prog [] (fun _=>Option.none) [] Tryz.f118 args regs
theorem k_kind:Known Tryz.prog [] 118 t_kind:=known_inl Tryz.func118 rfl (by kernel_rfl) mixed con_none (by kernel_rfl)
noncomputable def t_none:Con:=fun args regs=>nfun Tryz.prog [] (fun _=>Option.none) [] Tryz.f157 args regs
theorem k_none:Known Tryz.prog [] 157 t_none:=known_inl Tryz.func157 rfl (by kernel_rfl) mixed con_none (by kernel_rfl)
noncomputable def t_bare:Con:=fun args regs=>nfun Tryz.prog [] (fun _=>Option.none) [] Tryz.f64 args regs
theorem k_bare:Known Tryz.prog [] 64 t_bare:=known_inl Tryz.func64 rfl (by kernel_rfl) mixed con_none (by kernel_rfl)
noncomputable def t_samefault:Con:=fun args regs=>nfun Tryz.prog [] (fun _=>Option.none) [] Tryz.f109 args regs
theorem k_samefault:Known Tryz.prog [] 109 t_samefault:=known_inl Tryz.func109 rfl (by kernel_rfl) mixed con_none (by kernel_rfl)
noncomputable def t_bclone:Con:=fun args regs=>nfun Tryz.prog [] (fun _=>Option.none) [] Tryz.f108 args regs
theorem k_bclone:Known Tryz.prog [] 108 t_bclone:=known_inl Tryz.func108 rfl (by kernel_rfl) mixed con_none (by kernel_rfl)
end pk
end Go.Proofs.YtbmpbafemefepaaGreatDoor
namespace Go.Nx
open Go
theorem known_gl {P:Program} {gl:List Nat} {f:FuncId} {T:Con} (h:Known P [] f T):Known P gl f T:=
 ⟨h.goes,fun args regs R hR Γ w vs hw _ ha ho=>h.sound args regs R hR Γ w vs hw ⟨(fun x hx=>by cases hx),(fun x hx=>by cases hx)⟩ ha ho⟩
end Go.Nx
namespace Go.Proofs.YtbmpbafemefepaaGreatDoor
namespace pk
open Go Go.Nx
abbrev eLen:Nat:=3
abbrev eBit:Nat:=4
abbrev eKnd:Nat:=0
abbrev eRng:Nat:=1
def GL:List Nat:=[377,0,1,2,3,4,5]
theorem kg_none:Known Tryz.prog GL 157 t_none:=known_gl k_none
theorem kg_bare:Known Tryz.prog GL 64 t_bare:=known_gl k_bare
theorem kg_samefault:Known Tryz.prog GL 109 t_samefault:=known_gl k_samefault
noncomputable def t_sentinels:Con:=fun args regs=>nfun Tryz.prog GL (fun _=>Option.none) [] Tryz.f190 args regs
theorem k_sentinels:Known Tryz.prog GL 190 t_sentinels:=known_inl Tryz.func190 rfl (by kernel_rfl) mixed con_none (by kernel_rfl)
noncomputable def t_alike:Con:=fun args regs=>nfun Tryz.prog GL (fun _=>Option.none) [] Tryz.f191 args regs
theorem k_alike:Known Tryz.prog GL 191 t_alike:=known_inl Tryz.func191 rfl (by kernel_rfl) mixed con_none (by kernel_rfl)
noncomputable def c_sentinel:FuncId→Option Con:=conOf [(190,t_sentinels),(191,t_alike)]
theorem kc_sentinel:∀ f T,c_sentinel f=some T→Known Tryz.prog GL f T:=(Knowns.cons k_sentinels (Knowns.cons k_alike Knowns.nil)).get
noncomputable def X_sentinel:Cx:={P:=Tryz.prog,con:=c_sentinel,glob:=GL,m:=0,loops:=[]}
noncomputable def t_sentinel:Con:=fun args regs=>if regs.length=0 then nfun Tryz.prog GL c_sentinel [(0,[0,3,4],unroll X_sentinel 0 [0,3,4] [2] (bodyLoop Tryz.f158 0) 7)] Tryz.f158 args regs else .fail
theorem k_sentinel:Known Tryz.prog GL 158 t_sentinel:=known_loops 0 Tryz.func158 rfl (by kernel_rfl) mixed kc_sentinel (LAll.one (id:=0) (body:=bodyLoop Tryz.f158 0) (by kernel_rfl) rfl (unroll_ok (X:=X_sentinel) kc_sentinel mixed (LAll.none (by kernel_rfl)) [0,3,4] [2] 7))
noncomputable def c_fault:FuncId→Option Con:=conOf [(157,t_none),(158,t_sentinel),(64,t_bare)]
theorem kc_fault:∀ f T,c_fault f=some T→Known Tryz.prog GL f T:=(Knowns.cons kg_none (Knowns.cons k_sentinel (Knowns.cons kg_bare Knowns.nil))).get
noncomputable def t_fault:Con:=fun args regs=>nfun Tryz.prog GL c_fault [] Tryz.f110 args regs
theorem k_fault:Known Tryz.prog GL 110 t_fault:=known_inl Tryz.func110 rfl (by kernel_rfl) mixed kc_fault (by kernel_rfl)
noncomputable def c_same:FuncId→Option Con:=conOf [(110,t_fault),(109,t_samefault)]
theorem kc_same:∀ f T,c_same f=some T→Known Tryz.prog GL f T:=(Knowns.cons k_fault (Knowns.cons kg_samefault Knowns.nil)).get
noncomputable def t_same:Con:=fun args regs=>nfun Tryz.prog GL c_same [] Tryz.f63 args regs
theorem k_same:Known Tryz.prog GL 63 t_same:=known_inl Tryz.func63 rfl (by kernel_rfl) mixed kc_same (by kernel_rfl)
noncomputable def c_is:FuncId→Option Con:=conOf [(64,t_bare),(63,t_same)]
theorem kc_is:∀ f T,c_is f=some T→Known Tryz.prog GL f T:=(Knowns.cons kg_bare (Knowns.cons k_same Knowns.nil)).get
noncomputable def t_is:Con:=fun args regs=>nfun Tryz.prog GL c_is [] Tryz.f24 args regs
theorem k_is:Known Tryz.prog GL 24 t_is:=known_inl Tryz.func24 rfl (by kernel_rfl) mixed kc_is (by kernel_rfl)
end pk
namespace ac
open Go Go.Nx
def K3:List CK:=[.i .i64,.i .i64,.i .i64]
def K1:List CK:=[.b]
structure Pg where
 mg:Int
 pn:Int
 sb:Int
 c:List (List Sc)
 op:Int
 rows:List Int
 th:List (List Sc)
 ex:List (List Sc)
 lk:List (List Sc)
 ld:Bool
 df:Int
def pgSch:List Part:=[.i .i64,.i .i64,.i .i64,.ar K1 11,.i .i64,.ai .u8 1000,.ar K1 25,.lr K3,.ar K3 6,.b,.i .i64]
def plSch:List Part:=[.i .i64,.i .i64,.i .i64]
def Pg.row (p:Pg):List FC:=[.i p.mg,.i p.pn,.i p.sb,.rs p.c,.i p.op,.is p.rows,.rs p.th,.rs p.ex,.rs p.lk,.b p.ld,.i p.df]
def Pg.key (p:Pg):List FC:=[.i p.mg,.i p.pn,.i p.sb]
def pgSegs (p:Pg) (x:NC) (pre:List NC) (post:List NC→List Seg):List Seg:=
 .cells (pre++[.i .i64 p.mg,.i .i64 p.pn,.i .i64 p.sb])::.recs K1 11 p.c::.cells [.i .i64 p.op]::.ints .u8 1000 p.rows::.recs K1 25 p.th::.cells [x]::.recs K3 6 p.lk::post [.b p.ld,.i .i64 p.df]
def pgZ:Pg:=⟨0,0,0,List.replicate 11 [.b false],0,List.replicate 1000 0,List.replicate 25 [.b false],[],List.replicate 6 [.i 0,.i 0,.i 0],false,0⟩
structure Hd where
 mg:Int
 pn:Int
 sb:Int
 c:List (List Sc)
 op:Int
def hdZ:Hd:=⟨0,0,0,List.replicate 11 [.b false],0⟩
structure Mg where
 opn:Bool
 p:Pg
 x:NC
 h:Hd
 t:NC
 bg:Bool
 rg:Int
 td:Bool
def mgSegs (m:Mg) (pre:List NC) (post:List NC→List Seg):List Seg:=
 pgSegs m.p m.x (pre++[.b m.opn]) fun q=>.cells (q++[.i .i64 m.h.mg,.i .i64 m.h.pn,.i .i64 m.h.sb])::.recs K1 11 m.h.c::post [.i .i64 m.h.op,m.t,.b m.bg,.i .i64 m.rg,.b m.td]
def mgZ:Mg:=⟨false,pgZ,.sn,hdZ,.sn,false,0,false⟩
def infZ:List NC:=[.i .i64 0,.i .i64 0,.i .i64 0,.i .i64 0,.i .i64 0,.i .i64 0,.i .i64 0,.i .i64 0,.i .i64 0,.s ByteArray.empty,.b false]
def mcSegs (r:Nat) (v:Nat→Mg) (inf:List NC):List Seg:=
 mgSegs (v 0) [.p r 0 0] fun q=>mgSegs (v 1) q fun q=>mgSegs (v 2) q fun q=>mgSegs (v 3) q fun q=>mgSegs (v 4) q fun q=>mgSegs (v 5) q fun q=>mgSegs (v 6) q fun q=>mgSegs (v 7) q fun q=>mgSegs (v 8) q fun q=>[.cells (q++inf)]
noncomputable def mcReg (r:Nat) (v:Nat→Mg) (inf:List NC):Reg:=⟨9741,102,.sg (mcSegs r v inf)⟩
noncomputable def stReg (most:Int) (mp:Nat) (ord:NC) (a b c:Int) (pin:Bool):Reg:=⟨7,162,.cells [.i .i64 most,.m mp,ord,.i .i64 a,.i .i64 b,.i .i64 c,.b pin]⟩
noncomputable def mpReg (l:List (List FC × List FC)):Reg:=⟨0,160,.mp plSch pgSch l⟩
end ac
end Go.Proofs.YtbmpbafemefepaaGreatDoor
namespace Go.Nx
open Go
theorem WRel.recell {Γ:Env} {rg:List (Option Reg)} {w:World} (hW:WRel Γ rg w) {r st:Nat} {e:TypeId} {xs ys:List NC} (hr:rg[r]? = some (some ⟨st,e,.cells xs⟩)) (hlen:ys.length=xs.length)
  (hxy:∀ B c l l2,Γ.μ r=some B→w.heap[B.blk]? = some (.cells c B.e (0,0))→c.toList.drop B.o=l++l2→R2 (CR Γ) xs l→R2 (CR Γ) ys l):WRel Γ (putAt rg r (some ⟨st,e,.cells ys⟩)) w:=by
 refine ⟨fun n g hn=>?_,fun a b Ba Bb hne la lb=>hW.inj a b Ba Bb hne ?_ ?_,hW.kp,fun n B ln=>hW.apart n B ?_,hW.ro⟩
 ·rcases (putAt_get _ _ _ _ _).1 hn with ⟨rfl,he⟩ | ⟨h1,h2⟩
  ·cases he
   obtain ⟨B,hB,hrr⟩:=hW.live n _ hr
   refine ⟨B,hB,?_⟩
   rcases hrr with ⟨-,⟨k,hk⟩ | ⟨ks,hk⟩ | ⟨sch,hk,-⟩⟩ | ⟨h0,c,h1,h2,h3,⟨l1,l2,h4,h5⟩,h6⟩ | ⟨-,hM⟩
   ·cases hk
   ·cases hk
   ·cases hk
   rotate_left
   ·obtain ⟨_,_,_,_,_,hk,-⟩:=hM.mp; cases hk
   exact .inr (.inl ⟨h0,c,h1,h2,h3,⟨l1,l2,h4,hxy B c l1 l2 hB h1 h4 h5⟩,h6.same (congrArg some hlen) rfl⟩)
  ·exact hW.live n g h2
 ·rcases (putAt_live _ _ _ _).1 la with ⟨rfl,-⟩ | ⟨-,h⟩
  ·exact ⟨_,hr⟩
  ·exact h
 ·rcases (putAt_live _ _ _ _).1 lb with ⟨rfl,-⟩ | ⟨-,h⟩
  ·exact ⟨_,hr⟩
  ·exact h
 ·rcases (putAt_live _ _ _ _).1 ln with ⟨rfl,-⟩ | ⟨-,h⟩
  ·exact ⟨_,hr⟩
  ·exact h
theorem WRel.move {Γ:Env} {rg:List (Option Reg)} {w:World} (h:WRel Γ rg w) {k nm:Nat} {g:Reg} {B:Blk} (hk:rg[k]? = some (some g)) (hB:Γ.μ k=some B) (hnm:Γ.μ nm=none) :
  WRel (Γ.add nm B) (putAt (putAt rg k none) nm (some g)) w:=by
 have hle:=Γ.le_add nm B hnm
 have hkn:k≠nm:=fun e=>by rw [e,hnm] at hB; cases hB
 have hpt:∀ {m B'},(Γ.add nm B).pt m=some B'→(m=nm∧Γ.pt k=some B')∨(m≠nm∧Γ.pt m=some B'):=fun {m B'} h'=>by
  by_cases e:m=nm
  ·subst e
   obtain ⟨h1,h2⟩:=Env.pt_iff.1 h'
   rw [Env.add_self] at h1
   cases h1
   exact .inl ⟨rfl,Env.pt_iff.2 ⟨hB,h2⟩⟩
  ·rw [Env.add_other e] at h'; exact .inr ⟨e,h'⟩
 have hl:∀ m,m≠nm→Nx.live (putAt (putAt rg k none) nm (some g)) m→m≠k∧Nx.live rg m:=fun m e hm=>by
  rcases (putAt_live _ _ _ _).1 hm with ⟨h1,-⟩ | ⟨-,h1⟩
  ·exact (e h1).elim
  ·rcases (putAt_live _ _ _ _).1 h1 with ⟨-,h2⟩ | h2
   ·cases h2
   ·exact h2
 have lk:Nx.live rg k:=⟨_,hk⟩
 refine ⟨fun m g' hm=>?_,fun a b B1 B2 hne la lb ea eb=>?_,h.kp,fun m B' hm eB=>?_,h.ro⟩
 ·rcases (putAt_get _ _ _ _ _).1 hm with ⟨rfl,e⟩ | ⟨hne,e⟩
  ·cases e
   obtain ⟨B',h1,h2⟩:=h.live k g hk
   rw [hB] at h1
   cases h1
   exact ⟨B,Env.add_self _ _ _,h2.mono hle⟩
  ·rcases (putAt_get _ _ _ _ _).1 e with ⟨-,e⟩ | ⟨-,e⟩
   ·cases e
   obtain ⟨B',h1,h2⟩:=h.live m g' e
   exact ⟨B',hle.μ _ _ h1,h2.mono hle⟩
 ·rcases hpt ea with ⟨a1,a2⟩ | ⟨a1,a2⟩ <;> rcases hpt eb with ⟨b1,b2⟩ | ⟨b1,b2⟩
  ·exact (hne (a1.trans b1.symm)).elim
  ·obtain ⟨c1,c2⟩:=hl b b1 lb
   exact h.inj k b B1 B2 (fun e=>c1 e.symm) lk c2 a2 b2
  ·obtain ⟨c1,c2⟩:=hl a a1 la
   exact h.inj a k B1 B2 c1 c2 lk a2 b2
  ·exact h.inj a b B1 B2 hne (hl a a1 la).2 (hl b b1 lb).2 a2 b2
 ·rcases hpt eB with ⟨a1,a2⟩ | ⟨a1,a2⟩
  ·exact h.apart k B' lk a2
  ·exact h.apart m B' (hl m a1 hm).2 a2
theorem Inv.ghost {gl:List Nat} {N:Nat} {Γ:Env} {s:St} {a:Act} {w:World} (h:Inv gl N Γ s a w) {g:Reg} (hg:Ghost g) :
  ∃ Γ' B,Γ'.μ s.rg.length=some B∧Ext Γ w Γ'∧Inv gl N Γ' {fr:=s.fr,rg:=putAt s.rg s.rg.length (some g)} a w:=by
 have h0:=h.nw s.rg.length (Nat.le_refl _)
 have hle:=Γ.le_add s.rg.length (Blk.none w) h0
 refine ⟨Γ.add s.rg.length (Blk.none w),_,Env.add_self _ _ _,Ext.add h0 (fun h=>by cases h),h.wr.ghost h0 hg,h.fr.mono hle,h.gl.mono hle,fun n hn=>?_,h.df.mono hle⟩
 have hn:(putAt s.rg s.rg.length (some g)).length≤n:=hn
 have:=(putAt_length s.rg s.rg.length (some g)).2
 have hne:n≠s.rg.length:=by omega
 have:(Γ.add s.rg.length (Blk.none w)).μ n=Γ.μ n:=by simp [Env.add,hne]
 rw [this]
 exact h.nw n (by omega)
structure More (Γ Γ' : Env):Prop where
 le:Γ.le Γ'
 ro:Γ'.ro=Γ.ro
 pt:∀ n B,Γ'.pt n=some B→∃ n',Γ.pt n'=some B
theorem More.refl (Γ:Env):More Γ Γ:=⟨Env.le.refl Γ,rfl,fun n B h=>⟨n,h⟩⟩
theorem More.trans {a b c:Env} (h:More a b) (k:More b c):More a c:=⟨h.le.trans k.le,k.ro.trans h.ro,fun n B hB=>by
 obtain ⟨n',h1⟩:=k.pt n B hB
 exact h.pt n' B h1⟩
theorem More.ext {Γ0 Γ Γ' : Env} {w0:World} (hE:Ext Γ0 w0 Γ) (h:More Γ Γ'):Ext Γ0 w0 Γ':=⟨hE.le.trans h.le,fun b hb=>hE.ro b (by rw [← h.ro]; exact hb),fun n B hB=>by
 obtain ⟨n',h1⟩:=h.pt n B hB
 exact hE.nw n' B h1⟩
theorem More.ghost {Γ:Env} (w:World) {nm:Nat} (h0:Γ.μ nm=none):More Γ (Γ.add nm (Blk.none w)):=by
 refine ⟨Γ.le_add nm _ h0,rfl,fun n B hB=>?_⟩
 by_cases e:n=nm
 ·obtain ⟨h1,h2⟩:=Env.pt_iff.1 hB
  rw [e,Env.add_self] at h1
  cases h1
  cases h2
 ·rw [Env.add_other e] at hB
  exact ⟨n,hB⟩
theorem More.move {Γ:Env} {nm k:Nat} {B:Blk} (h0:Γ.μ nm=none) (hB:Γ.μ k=some B):More Γ (Γ.add nm B):=by
 refine ⟨Γ.le_add nm _ h0,rfl,fun n B' hB'=>?_⟩
 by_cases e:n=nm
 ·obtain ⟨h1,h2⟩:=Env.pt_iff.1 hB'
  rw [e,Env.add_self] at h1
  cases h1
  exact ⟨k,Env.pt_iff.2 ⟨hB,h2⟩⟩
 ·rw [Env.add_other e] at hB'
  exact ⟨n,hB'⟩
theorem add_μ {Γ:Env} {nm n:Nat} {B:Blk} (h:n≠nm):(Γ.add nm B).μ n=Γ.μ n:=by simp [Env.add,h]
def rowOf:NC→Option (Nat × Nat)
 | .h k o n=>(match o with
   | 0=>some (k,n)
   | _=>none)
 | .hz k n=>some (k,n)
 | _=>none
theorem rowOf_hz {Γ:Env} {x:NC} {k n nm:Nat} {B:Blk} {v:Value} (h:rowOf x=some (k,n)) (h0:Γ.μ nm=none) (hB:Γ.μ k=some B) (hv:CR Γ x v):CR (Γ.add nm B) (.hz nm n) v:=by
 have hle:=Γ.le_add nm B h0
 have row:∀ B',Γ.wh k=some B'→(Γ.add nm B).wh nm=some B':=fun B' h1=>by
  obtain ⟨k1,k2⟩:=Env.wh_iff.1 h1
  rw [hB] at k1
  cases k1
  exact Env.wh_iff.2 ⟨Env.add_self _ _ _,k2⟩
 have hg:(Γ.add nm B).μ nm=some B:=Env.add_self _ _ _
 cases x <;> simp only [rowOf] at h
 case h r o len=>
  split at h
  ·cases h
   obtain ⟨⟨B',o,cap,h1,h2⟩,h3⟩:=hv
   exact ⟨.inr ⟨B',o,cap,row B' h1,h2⟩,h3⟩
  ·cases h
 case hz r len=>
  cases h
  obtain ⟨h1 | ⟨B',o,cap,h1,h2⟩,h3⟩:=hv
  ·exact ⟨.inl ⟨h1.1,h1.2.1,B,hg⟩,h3⟩
  ·exact ⟨.inr ⟨B',o,cap,row B' h1,h2⟩,h3⟩
 all_goals cases h
def isGh (g:Reg):Bool:=match g.body with
 | .ints _ xs=>xs.isEmpty
 | .recs _ xs=>xs.isEmpty
 | _=>false
theorem isGh_ok {g:Reg} (h:isGh g=true):Ghost g:=by
 unfold isGh at h
 split at h
 ·rename_i k xs e
  have:xs=[]:=by simpa using h
  subst this
  exact .inl ⟨k,e⟩
 ·rename_i ks xs e
  have:xs=[]:=by simpa using h
  subst this
  exact .inr (.inl ⟨ks,e⟩)
 ·cases h
def toEnd (g:Reg) (x:NC) (rg:List (Option Reg)):Option (NC × List (Option Reg)):=
 match x with
 | .sn=>(match isGh g with
   | true=>some (.hz rg.length 0,putAt rg rg.length (some g))
   | false=>none)
 | x=>(match rowOf x with
   | some (k,n)=>(match rg[k]? with
     | some (some gk)=>some (.hz rg.length n,putAt (putAt rg k none) rg.length (some gk))
     | _=>none)
   | none=>none)
structure Stp (Γ:Env) (rg:List (Option Reg)) (w:World) (Γ' : Env) (rg' : List (Option Reg)):Prop where
 ren:More Γ Γ'
 wr:WRel Γ' rg' w
 nw:∀ n,rg'.length≤n→Γ'.μ n=none
theorem toEnd_ok {Γ:Env} {g:Reg} {x y:NC} {rg rg' : List (Option Reg)} {w:World} (hW:WRel Γ rg w) (hF:∀ n,rg.length≤n→Γ.μ n=none) (h:toEnd g x rg=some (y,rg')) :
  ∃ Γ',Stp Γ rg w Γ' rg'∧(∀ v,CR Γ x v→CR Γ' y v)∧rg.length<rg'.length:=by
 have h0:=hF rg.length (Nat.le_refl _)
 have main:∀ k n,rowOf x=some (k,n)→(match rg[k]? with
   | some (some gk)=>some ((.hz rg.length n:NC),putAt (putAt rg k none) rg.length (some gk))
   | _=>none)=some (y,rg')→∃ Γ',Stp Γ rg w Γ' rg'∧(∀ v,CR Γ x v→CR Γ' y v)∧rg.length<rg'.length:=fun k n hx h=>by
  split at h
  case h_2=>cases h
  rename_i gk hk
  cases h
  obtain ⟨B,hB,-⟩:=hW.live k gk hk
  have hkl:k<rg.length:=(List.getElem?_eq_some_iff.1 hk).1
  have l1:=putAt_length rg k none
  have l2:=putAt_length (putAt rg k none) rg.length (some gk)
  refine ⟨Γ.add rg.length B,⟨More.move h0 hB,hW.move hk hB h0,fun m hm=>?_⟩,fun v hv=>rowOf_hz hx h0 hB hv,by omega⟩
  rw [add_μ (by omega)]
  exact hF m (by omega)
 unfold toEnd at h
 split at h
 ·split at h
  ·rename_i hg
   cases h
   have l1:=putAt_length rg rg.length (some g)
   refine ⟨Γ.add rg.length (Blk.none w),⟨More.ghost w h0,hW.ghost h0 (isGh_ok hg),fun n hn=>?_⟩,fun v hv=>⟨.inl ⟨rfl,hv.1,_,Env.add_self _ _ _⟩,hv.2⟩,by omega⟩
   rw [add_μ (by omega)]
   exact hF n (by omega)
  ·cases h
 ·split at h
  ·rename_i k n hx
   exact main k n hx h
  ·cases h
def cellEnd (c:Nat × Nat × Reg) (rg:List (Option Reg)):Option (List (Option Reg)):=
 match rg[c.1]? with
 | some (some ⟨st,e,.cells xs⟩)=>(match xs[c.2.1]? with
   | some x=>(match toEnd c.2.2 x rg with
     | some (y,rg1)=>(match rg1[c.1]? with
       | some (some ⟨st',e',.cells xs'⟩)=>(match decide (rg.length=c.1) with
         | false=>some (putAt rg1 c.1 (some ⟨st',e',.cells (xs'.set c.2.1 y)⟩))
         | true=>none)
       | _=>none)
     | none=>none)
   | none=>none)
 | _=>none
theorem toEnd_get {g:Reg} {x y:NC} {rg rg1:List (Option Reg)} {r:Nat} {z:Reg} (h:toEnd g x rg=some (y,rg1)) (hr:rg1[r]? = some (some z)) (hl:rg.length≠r):rg[r]? = some (some z):=by
 have main:∀ k n,(match rg[k]? with
   | some (some gk)=>some ((.hz rg.length n:NC),putAt (putAt rg k none) rg.length (some gk))
   | _=>none)=some (y,rg1)→rg[r]? = some (some z):=fun k n h=>by
  split at h
  case h_2=>cases h
  rename_i gk hk
  cases h
  rcases (putAt_get _ _ _ _ _).1 hr with ⟨e,-⟩ | ⟨-,h2⟩
  ·exact (hl e.symm).elim
  rcases (putAt_get _ _ _ _ _).1 h2 with ⟨-,h3⟩ | ⟨-,h3⟩
  ·cases h3
  ·exact h3
 unfold toEnd at h
 split at h
 ·split at h
  ·cases h
   rcases (putAt_get _ _ _ _ _).1 hr with ⟨e,-⟩ | ⟨-,h2⟩
   ·exact (hl e.symm).elim
   ·exact h2
  ·cases h
 ·split at h
  ·rename_i k n hx
   exact main k n h
  ·cases h
theorem cellEnd_ok {Γ:Env} {c:Nat × Nat × Reg} {rg rg' : List (Option Reg)} {w:World} (hW:WRel Γ rg w) (hF:∀ n,rg.length≤n→Γ.μ n=none) (h:cellEnd c rg=some rg'):∃ Γ',Stp Γ rg w Γ' rg':=by
 obtain ⟨r,j,g⟩:=c
 unfold cellEnd at h
 split at h
 case h_2=>cases h
 rename_i st e xs hr
 simp only at hr
 split at h
 case h_2=>cases h
 rename_i x hj
 simp only at hj
 split at h
 case h_2=>cases h
 rename_i y rg1 ht
 split at h
 case h_2=>cases h
 rename_i st' e' xs' hr'
 simp only at hr'
 split at h
 case h_2=>cases h
 rename_i hd
 cases h
 have hne:rg.length≠r:=of_decide_eq_false hd
 have hz:=toEnd_get ht hr' hne
 rw [hr] at hz
 cases hz
 obtain ⟨Γ',hs,hc,hl⟩:=toEnd_ok hW hF ht
 refine ⟨Γ',hs.ren,hs.wr.recell hr' (List.length_set ..) fun B cc l l2 hB hcc hdr hl1=>?_,fun n hn=>hs.nw n (Nat.le_trans (putAt_length _ r _).1 hn)⟩
 -- the cell's value was one of x in the environment ahead
 have hrl:r<rg.length:=(List.getElem?_eq_some_iff.1 hr).1
 obtain ⟨B0,hB0,hrr⟩:=hW.live r _ hr
 have hBB:B=B0:=by
  have:=hs.ren.le.μ _ _ hB0
  rw [hB] at this
  cases this
  rfl
 subst hBB
 rcases hrr with ⟨-,⟨k',hk⟩ | ⟨ks,hk⟩ | ⟨sch,hk,-⟩⟩ | ⟨h0,c1,h1,h2,h3,⟨l1,l2',h4,h5⟩,h6⟩ | ⟨-,hM⟩
 ·cases hk
 ·cases hk
 ·cases hk
 rotate_left
 ·obtain ⟨_,_,_,_,_,hk,-⟩:=hM.mp; cases hk
 rw [hcc] at h1
 cases h1
 have e1:l=l1:=by
  have a1:=hl1.length
  have a2:=h5.length
  rw [h4] at hdr
  exact ((List.append_inj hdr (by omega)).1).symm
 subst e1
 obtain ⟨u,hu,hcu⟩:=h5.get hj
 have:=hl1.set j (hc u hcu)
 have e2:l.set j u=l:=by
  apply List.ext_getElem?
  intro q
  rw [List.getElem?_set]
  split
  ·rename_i e; subst e
   split
   ·exact hu.symm
   ·rename_i hq; rw [List.getElem?_eq_none (by omega)] at hu; cases hu
  ·rfl
 rw [e2] at this
 exact this
def cellsEnd:List (Nat × Nat × Reg)→List (Option Reg)→Option (List (Option Reg))
 | [],rg=>some rg
 | c::cs,rg=>match cellEnd c rg with
   | some rg1=>cellsEnd cs rg1
   | none=>none
theorem Stp.refl {Γ:Env} {rg:List (Option Reg)} {w:World} (hW:WRel Γ rg w) (hF:∀ n,rg.length≤n→Γ.μ n=none):Stp Γ rg w Γ rg:=⟨More.refl Γ,hW,hF⟩
theorem Stp.trans {Γ Γ1 Γ2:Env} {rg rg1 rg2:List (Option Reg)} {w:World} (h:Stp Γ rg w Γ1 rg1) (k:Stp Γ1 rg1 w Γ2 rg2):Stp Γ rg w Γ2 rg2:=⟨h.ren.trans k.ren,k.wr,k.nw⟩
theorem cellsEnd_ok {w:World}:∀ (cs:List (Nat × Nat × Reg)) {Γ:Env} {rg rg' : List (Option Reg)},WRel Γ rg w→(∀ n,rg.length≤n→Γ.μ n=none)→cellsEnd cs rg=some rg'→∃ Γ',Stp Γ rg w Γ' rg'
 | [],Γ,rg,rg',hW,hF,h=>by cases h; exact ⟨Γ,Stp.refl hW hF⟩
 | c::cs,Γ,rg,rg',hW,hF,h=>by
   simp only [cellsEnd] at h
   split at h
   case h_2=>cases h
   rename_i rg1 h1
   obtain ⟨Γ1,s1⟩:=cellEnd_ok hW hF h1
   obtain ⟨Γ2,s2⟩:=cellsEnd_ok cs s1.wr s1.nw h
   exact ⟨Γ2,s1.trans s2⟩
def canonO (F:Nat) (cs:List (Nat × Nat × Reg)) (res:Option Reg) (o:Out):Tr Out:=
 match decide (o.rg.length≤F),cellsEnd cs (o.rg++List.replicate (F - o.rg.length) none) with
 | true,some rg=>(match res with
   | none=>.ret ⟨o.res,rg⟩
   | some g=>(match o.res with
     | .v (.c x)=>(match toEnd g x rg with
       | some (y,rg1)=>.ret ⟨.v (.c y),rg1⟩
       | none=>.fail)
     | _=>.fail))
 | _,_=>.fail
theorem canonO_ok {F:Nat} {cs:List (Nat × Nat × Reg)} {res:Option Reg} {o:Out} {R:Out→Prop} (h:(canonO F cs res o).run R):∃ o',WeakF o o'∧R o':=by
 unfold canonO at h
 split at h
 case h_2=>exact h.elim
 rename_i rg hd hcs
 have hd:=of_decide_eq_true hd
 have pad:∀ {Γ:Env} {w:World},WRel Γ o.rg w→(∀ n,o.rg.length≤n→Γ.μ n=none)→WRel Γ (o.rg++List.replicate (F - o.rg.length) none) w∧∀ n,(o.rg++List.replicate (F - o.rg.length) none).length≤n→Γ.μ n=none:=fun {Γ w} hW hF=>by
  refine ⟨hW.fewer fun n g hn=>?_,fun n hn=>hF n (by rw [List.length_append] at hn; omega)⟩
  by_cases hlt:n<o.rg.length
  ·rw [List.getElem?_append_left hlt] at hn; exact hn
  ·rw [List.getElem?_append_right (by omega),List.getElem?_replicate] at hn
   split at hn <;> simp at hn
 split at h
 ·refine ⟨_,fun Γ0 Γ w0 w v hE hS hW hF=>?_,h⟩
  obtain ⟨p1,p2⟩:=pad hW hF
  obtain ⟨Γ1,s1⟩:=cellsEnd_ok cs p1 p2 hcs
  exact ⟨Γ1,s1.ren.ext hE,hS.mono s1.ren.le,s1.wr,s1.nw⟩
 ·rename_i g
  split at h
  case h_2=>exact h.elim
  rename_i x hx
  split at h
  case h_2=>exact h.elim
  rename_i y rg1 ht
  refine ⟨_,fun Γ0 Γ w0 w v hE hS hW hF=>?_,h⟩
  obtain ⟨p1,p2⟩:=pad hW hF
  obtain ⟨Γ1,s1⟩:=cellsEnd_ok cs p1 p2 hcs
  obtain ⟨Γ2,s2,hc,-⟩:=toEnd_ok s1.wr s1.nw ht
  have hS1:SRel Γ1 o.res v:=hS.mono s1.ren.le
  rw [hx] at hS1
  exact ⟨Γ2,(s1.ren.trans s2.ren).ext hE,hc v hS1,s2.wr,s2.nw⟩
def canonT (F:Nat) (cs:List (Nat × Nat × Reg)) (res:Option Reg) (T:Con):Con:=fun args regs=>(T args regs).bind (canonO F cs res)
theorem KnownF.canon {P:Program} {gl:List Nat} {f:FuncId} {T:Con} (h:KnownF P gl f T) (F:Nat) (cs:List (Nat × Nat × Reg)) (res:Option Reg):KnownF P gl f (canonT F cs res T):=by
 refine h.weak fun args regs R hR=>?_
 unfold canonT at hR
 rw [Tr.run_bind] at hR
 exact Tr.run_mono _ (fun o ho=>canonO_ok ho) hR
theorem take_get {rg:List (Option Reg)} {m n:Nat} {g:Reg} (h:(rg.take m)[n]? = some (some g)):rg[n]? = some (some g):=by
 rw [List.getElem?_take] at h
 split at h
 ·exact h
 ·cases h
def SoftC (Γ:Env) (x y:NC):Prop:=∀ v,CR Γ x v→CR Γ y v
theorem SoftC.refl (Γ:Env) (x:NC):SoftC Γ x x:=fun _ h=>h
theorem R2.soft {Γ:Env} {xs ys:List NC} {l:List Value} (h:R2 (SoftC Γ) xs ys) (k:R2 (CR Γ) xs l):R2 (CR Γ) ys l:=by
 induction h generalizing l with
 | nil=>exact k
 | cons a _ ih=>
   cases k with
   | cons b k=>exact .cons (a _ b) (ih k)
def mapAt (φ:Nat→NC→NC):Nat→List NC→List NC
 | _,[]=>[]
 | j,x::xs=>φ j x::mapAt φ (j+1) xs
def mapSegs (φ:Nat→Nat→NC→NC):Nat→List Seg→List Seg
 | _,[]=>[]
 | i,.cells xs::l=>.cells (mapAt (φ i) 0 xs)::mapSegs φ (i+1) l
 | i,s::l=>s::mapSegs φ (i+1) l
def mapV (φ:Nat→Nat→NC→NC):NV→NV
 | .c x=>.c (φ 0 0 x)
 | .ag xs=>.ag (mapAt (φ 0) 0 xs)
 | .sg l=>.sg (mapSegs φ 0 l)
def mapVs (φ:Nat→Nat→Nat→NC→NC):Nat→List NV→List NV
 | _,[]=>[]
 | i,x::l=>mapV (φ i) x::mapVs φ (i+1) l
def mapS (φ:Nat→Nat→Nat→NC→NC):NS→NS
 | .v x=>.v (mapV (φ 0) x)
 | .tu l=>.tu (mapVs φ 0 l)
 | .dead=>.dead
def mapG (φ:Nat→Nat→NC→NC) (g:Reg):Reg:=
 match g.body with
 | .cells xs=>{g with body:=.cells (mapAt (φ 0) 0 xs)}
 | .sg l=>{g with body:=.sg (mapSegs φ 0 l)}
 | _=>g
def mapGs (φ:Nat→Nat→Nat→NC→NC):Nat→List (Option Reg)→List (Option Reg)
 | _,[]=>[]
 | i,none::l=>none::mapGs φ (i+1) l
 | i,some g::l=>some (mapG (φ i) g)::mapGs φ (i+1) l
def NS.ncs:NS→List NC
 | .v x=>x.ncs
 | .tu l=>l.flatMap NV.ncs
 | .dead=>[]
def Body.ncs:Body→List NC
 | .cells xs=>xs
 | .sg l=>segNcs l
 | _=>[]
def rgNcs:List (Option Reg)→List NC
 | []=>[]
 | none::l=>rgNcs l
 | some g::l=>g.body.ncs++rgNcs l
theorem segNcs_cons (s:Seg) (l:List Seg):segNcs (s::l)=s.ncs++segNcs l:=by cases l <;> simp [segNcs]
theorem mapAt_soft {Γ:Env} {φ:Nat→NC→NC}:∀ (xs:List NC) (j:Nat),(∀ j x,x∈xs→SoftC Γ x (φ j x))→R2 (SoftC Γ) xs (mapAt φ j xs)
 | [],_,_=>.nil
 | x::xs,j,h=>.cons (h j x (by simp)) (mapAt_soft xs (j+1) fun j y hy=>h j y (by simp [hy]))
theorem mapAt_length (φ:Nat→NC→NC):∀ (xs:List NC) (j:Nat),(mapAt φ j xs).length=xs.length
 | [],_=>rfl
 | _::xs,j=>by simp [mapAt,mapAt_length φ xs (j+1)]
theorem R2.soft_refl (Γ:Env):∀ xs:List NC,R2 (SoftC Γ) xs xs
 | []=>.nil
 | x::xs=>.cons (SoftC.refl Γ x) (R2.soft_refl Γ xs)
theorem mapSegs_soft {Γ:Env} {φ:Nat→Nat→NC→NC}:∀ (l:List Seg) (i:Nat),(∀ i j x,x∈segNcs l→SoftC Γ x (φ i j x))→R2 (SoftC Γ) (segFlat l) (segFlat (mapSegs φ i l))
 | [],_,_=>.nil
 | .cells xs::l,i,h=>by
   rw [mapSegs,segFlat_cons,segFlat_cons]
   exact (mapAt_soft xs 0 fun j x hx=>h i j x (by rw [segNcs_cons]; exact List.mem_append_left _ hx)).append (mapSegs_soft l (i+1) fun i j x hx=>h i j x (by rw [segNcs_cons]; exact List.mem_append_right _ hx))
 | .ints k n xs::l,i,h=>by
   rw [mapSegs,segFlat_cons,segFlat_cons]
   ·exact (R2.soft_refl Γ _).append (mapSegs_soft l (i+1) fun i j x hx=>h i j x (by rw [segNcs_cons]; exact List.mem_append_right _ hx))
   ·intro _ h; cases h
 | .recs ks n xs::l,i,h=>by
   rw [mapSegs,segFlat_cons,segFlat_cons]
   ·exact (R2.soft_refl Γ _).append (mapSegs_soft l (i+1) fun i j x hx=>h i j x (by rw [segNcs_cons]; exact List.mem_append_right _ hx))
   ·intro _ h; cases h
theorem mapSegs_ok (φ:Nat→Nat→NC→NC):∀ (l:List Seg) (i:Nat),SegOk l→SegOk (mapSegs φ i l)
 | [],_,h=>h
 | s::l,i,h=>by
   have h1:s.ok:=h s (by simp)
   have h2:=mapSegs_ok φ l (i+1) fun s hs=>h s (by simp [hs])
   cases s with
   | cells xs=>
     intro s hs
     simp only [mapSegs,List.mem_cons] at hs
     rcases hs with rfl | hs
     ·trivial
     ·exact h2 s hs
   | ints k n xs=>
     intro s hs
     simp only [mapSegs,List.mem_cons] at hs
     rcases hs with rfl | hs
     ·exact h1
     ·exact h2 s hs
   | recs ks n xs=>
     intro s hs
     simp only [mapSegs,List.mem_cons] at hs
     rcases hs with rfl | hs
     ·exact h1
     ·exact h2 s hs
theorem softSegs_size (φ:Nat→Nat→NC→NC):∀ (l:List Seg) (i:Nat),segSize (mapSegs φ i l)=segSize l
 | [],_=>rfl
 | s::l,i=>by
   have:=softSegs_size φ l (i+1)
   cases s <;> simp [mapSegs,segSize,Seg.size,mapAt_length,this]
theorem mapV_soft {Γ:Env} {φ:Nat→Nat→NC→NC} {x:NV} {v:Value} (h:∀ i j y,y∈x.ncs→SoftC Γ y (φ i j y)) (hv:VRel Γ x v):VRel Γ (mapV φ x) v:=by
 cases x with
 | c x=>exact h 0 0 x (by simp [NV.ncs]) v hv
 | ag xs=>
   obtain ⟨vs,h1,h2⟩:=hv
   exact ⟨vs,h1,(mapAt_soft xs 0 fun j x hx=>h 0 j x hx).soft h2⟩
 | sg l=>
   obtain ⟨vs,h1,h2,h3⟩:=hv
   exact ⟨vs,h1,(mapSegs_soft l 0 fun i j x hx=>h i j x hx).soft h2,mapSegs_ok φ l 0 h3⟩
theorem mapVs_soft {Γ:Env} {φ:Nat→Nat→Nat→NC→NC}:∀ (l:List NV) (vs:List Value) (i:Nat),(∀ i j k y,y∈l.flatMap NV.ncs→SoftC Γ y (φ i j k y))→R2 (VRel Γ) l vs→R2 (VRel Γ) (mapVs φ i l) vs
 | [],_,_,_,hv=>hv
 | x::l,_,i,h,hv=>by
   cases hv with
   | cons a hv=>exact .cons (mapV_soft (fun j k y hy=>h i j k y (by rw [List.flatMap_cons]; exact List.mem_append_left _ hy)) a) (mapVs_soft l _ (i+1) (fun i j k y hy=>h i j k y (by rw [List.flatMap_cons]; exact List.mem_append_right _ hy)) hv)
theorem mapS_soft {Γ:Env} {φ:Nat→Nat→Nat→NC→NC} {x:NS} {v:Value} (h:∀ i j k y,y∈x.ncs→SoftC Γ y (φ i j k y)) (hv:SRel Γ x v):SRel Γ (mapS φ x) v:=by
 cases x with
 | v x=>exact mapV_soft (fun j k y hy=>h 0 j k y hy) hv
 | tu l=>
   obtain ⟨vs,h1,h2⟩:=hv
   exact ⟨vs,h1,mapVs_soft l vs 0 h h2⟩
 | dead=>trivial
theorem mapG_soft {Γ:Env} {φ:Nat→Nat→NC→NC} {g:Reg} {B:Blk} {w:World} (h:∀ i j y,y∈g.body.ncs→SoftC Γ y (φ i j y)) (hr:RegRel Γ g B w):RegRel Γ (mapG φ g) B w:=by
 obtain ⟨st,e,body⟩:=g
 cases body with
 | cells xs=>
   rcases hr with ⟨-,⟨k,hk⟩ | ⟨ks,hk⟩ | ⟨sch,hk,-⟩⟩ | ⟨h0,c,h1,h2,h3,⟨l1,l2,h4,h5⟩,h6⟩ | ⟨-,hM⟩
   ·cases hk
   ·cases hk
   ·cases hk
   ·exact .inr (.inl ⟨h0,c,h1,h2,h3,⟨l1,l2,h4,(mapAt_soft xs 0 fun j x hx=>h 0 j x hx).soft h5⟩,h6.same (congrArg some (mapAt_length _ _ _)) rfl⟩)
   ·obtain ⟨_,_,_,_,_,hk,-⟩:=hM.mp; cases hk
 | sg l=>
   rcases hr with ⟨-,⟨k,hk⟩ | ⟨ks,hk⟩ | ⟨sch,hk,-⟩⟩ | ⟨h0,c,h1,h2,h3,⟨l1,l2,h4,h5,h7⟩,h6⟩ | ⟨-,hM⟩
   ·cases hk
   ·cases hk
   ·cases hk
   ·exact .inr (.inl ⟨h0,c,h1,h2,h3,⟨l1,l2,h4,(mapSegs_soft l 0 fun i j x hx=>h i j x hx).soft h5,mapSegs_ok φ l 0 h7⟩,h6.same (congrArg some (softSegs_size _ _ _)) rfl⟩)
   ·obtain ⟨_,_,_,_,_,hk,-⟩:=hM.mp; cases hk
 | ints k xs=>exact hr
 | recs ks xs=>exact hr
 | tab sch xs=>exact hr
 | mp ks sch xs=>exact hr
theorem mapGs_get {φ:Nat→Nat→Nat→NC→NC}:∀ (rg:List (Option Reg)) (i n:Nat) (g' : Reg),(mapGs φ i rg)[n]? = some (some g')→∃ g m,rg[n]? = some (some g)∧g'=mapG (φ m) g
 | [],_,_,_,h=>by simp [mapGs] at h
 | none::l,i,n,g',h=>by
   cases n with
   | zero=>simp [mapGs] at h
   | succ n=>simp only [mapGs,List.getElem?_cons_succ] at h; obtain ⟨g,m,h1,h2⟩:=mapGs_get l (i+1) n g' h; exact ⟨g,m,by simpa using h1,h2⟩
 | some g::l,i,n,g',h=>by
   cases n with
   | zero=>simp [mapGs] at h; exact ⟨g,i,by simp,h.symm⟩
   | succ n=>simp only [mapGs,List.getElem?_cons_succ] at h; obtain ⟨g,m,h1,h2⟩:=mapGs_get l (i+1) n g' h; exact ⟨g,m,by simpa using h1,h2⟩
theorem mapGs_length (φ:Nat→Nat→Nat→NC→NC):∀ (rg:List (Option Reg)) (i:Nat),(mapGs φ i rg).length=rg.length
 | [],_=>rfl
 | none::l,i=>by simp [mapGs,mapGs_length φ l (i+1)]
 | some g::l,i=>by simp [mapGs,mapGs_length φ l (i+1)]
theorem rgNcs_mem:∀ {rg:List (Option Reg)} {n:Nat} {g:Reg} {x:NC},rg[n]? = some (some g)→x∈g.body.ncs→x∈rgNcs rg
 | [],_,_,_,h,_=>by simp at h
 | none::l,n,g,x,h,hx=>by
   cases n with
   | zero=>simp at h
   | succ n=>exact rgNcs_mem (rg:=l) (n:=n) (by simpa using h) hx
 | some g'::l,n,g,x,h,hx=>by
   cases n with
   | zero=>simp at h; subst h; exact List.mem_append_left _ hx
   | succ n=>exact List.mem_append_right _ (rgNcs_mem (rg:=l) (n:=n) (by simpa using h) hx)
theorem mapGs_soft {Γ:Env} {φ:Nat→Nat→Nat→NC→NC} {rg:List (Option Reg)} {w:World} (h:∀ i j k y,y∈rgNcs rg→SoftC Γ y (φ i j k y)) (hW:WRel Γ rg w):WRel Γ (mapGs φ 0 rg) w:=by
 have hl:∀ n,Nx.live (mapGs φ 0 rg) n→Nx.live rg n:=fun n ⟨g,hg⟩=>by
  obtain ⟨g1,m,h1,-⟩:=mapGs_get rg 0 n g hg
  exact ⟨g1,h1⟩
 refine ⟨fun n g hn=>?_,fun a b Ba Bb hne la lb=>hW.inj a b Ba Bb hne (hl a la) (hl b lb),hW.kp,fun n B ln=>hW.apart n B (hl n ln),hW.ro⟩
 obtain ⟨g1,m,h1,rfl⟩:=mapGs_get rg 0 n g hn
 obtain ⟨B,hB,hr⟩:=hW.live n g1 h1
 exact ⟨B,hB,mapG_soft (fun i j y hy=>h m i j y (rgNcs_mem h1 hy)) hr⟩
def nilOf (ls:List (Nat × Nat × Nat × NC)) (q i j:Nat) (x:NC):NC:=
 match x with
 | .sn=>(match ls.find? fun p=>p.1==q&&p.2.1==i&&p.2.2.1==j with
   | some (_,_,_,.l k [])=>.l k []
   | some (_,_,_,.lr (c::ks) [])=>.lr (c::ks) []
   | _=>.sn)
 | x=>x
theorem nilOf_soft (Γ:Env) (ls:List (Nat × Nat × Nat × NC)) (q i j:Nat) (x:NC):SoftC Γ x (nilOf ls q i j x):=by
 unfold nilOf
 split
 ·split
  ·exact fun v h=>⟨⟨none,0,h.1,Nat.le_refl _,.inl rfl⟩,h.2⟩
  ·exact fun v h=>⟨⟨none,0,h.1,Nat.le_refl _,by simp,.inl rfl⟩,h.2⟩
  ·exact SoftC.refl _ _
 ·exact SoftC.refl _ _
def nilO (rs gs:List (Nat × Nat × Nat × NC)) (o:Out):Out:=⟨mapS (nilOf rs) o.res,mapGs (nilOf gs) 0 o.rg⟩
theorem nilO_weak (rs gs:List (Nat × Nat × Nat × NC)) (o:Out):Weak o (nilO rs gs o):=fun _ Γ _ _ _ h1 h2 h3=>
 ⟨Γ,h1,mapS_soft (fun i j k y _=>nilOf_soft Γ rs i j k y) h2,mapGs_soft (fun i j k y _=>nilOf_soft Γ gs i j k y) h3⟩
def Body.rowsN:Body→Option Nat
 | .ints _ xs=>some xs.length
 | .recs ks xs=>if 0<ks.length then some xs.length else none
 | .tab sch xs=>if 0<schSize sch then some xs.length else none
 | _=>none
def listC (b:Body) (x:NC):NC:=
 match b with
 | .ints q xs=>.l q xs
 | .recs ks xs=>.lr ks xs
 | .tab sch xs=>.lt sch xs
 | _=>x
def hits (k:Nat):NC→List Nat
 | .h r 0 n=>if r=k then [n] else []
 | .hz r n=>if r=k then [n] else []
 | _=>[]
def frzC (k:Nat) (b:Body):NC→NC
 | .h r 0 n=>if r=k then listC b (.h r 0 n) else .h r 0 n
 | .hz r n=>if r=k then listC b (.hz r n) else .hz r n
 | x=>x
theorem list_soft {Γ:Env} {k:Nat} {g:Reg} {B:Blk} {cs:Array Value} {m n:Nat} (hB:Γ.wh k=some B) (hst:B.st=g.st) (hb:BodyRel Γ g.st g.body cs.toList) (hr:Γ.ro B.blk=true) (hkp:Γ.kp B.blk=some (.cells cs g.e (0,0)))
  (hm:g.body.rowsN=some m) (hn:n=m):∀ v,(∃ B o cap,Γ.wh k=some B∧v=.slice (some ⟨B.blk,o,none⟩) n cap∧n≤cap∧cap≤maxLen∧(o=0 * B.st∧(0+cap) * B.st=B.sz∨cap=0))→CRel Γ (listC g.body (.h k 0 n)) v:=by
 rintro v ⟨B',o,cap,hB',rfl,hc,hcm,ho⟩
 rw [hB] at hB'
 cases hB'
 obtain ⟨st,e,body⟩:=g
 subst hn
 cases body with
 | ints q xs=>
   cases hm
   obtain ⟨hst1,l2,hl⟩:=hb
   refine ⟨_,cap,rfl,hc,?_⟩
   rcases ho with ⟨ho,_⟩ | ho
   ·refine .inr ⟨B.blk,0,by rw [ho,Nat.zero_mul],hr,cs,e,(0,0),hkp,fun j u hj=>?_⟩
    rw [Nat.zero_add,← Array.getElem?_toList,hl]
    exact prefix_get hj
   ·exact .inl (List.eq_nil_of_length_eq_zero (by omega))
 | recs ks xs=>
   simp only [Body.rowsN] at hm
   split at hm
   case isFalse=>cases hm
   cases hm
   obtain ⟨hst1,hks,l2,hl⟩:=hb
   refine ⟨_,cap,rfl,hc,hks,?_⟩
   rcases ho with ⟨ho,_⟩ | ho
   ·refine .inr ⟨B.blk,0,by rw [ho,Nat.zero_mul],hr,cs,e,(0,0),hkp,fun j u hj=>?_⟩
    rw [Nat.zero_add,← Array.getElem?_toList,hl]
    exact prefix_get hj
   ·exact .inl (List.eq_nil_of_length_eq_zero (by omega))
 | tab sch xs=>
   simp only [Body.rowsN] at hm
   split at hm
   case isFalse=>cases hm
   cases hm
   obtain ⟨hst1,hks,l1,l2,hl,h5,h6⟩:=hb
   refine ⟨_,cap,rfl,hc,hks,h6,?_⟩
   rcases ho with ⟨ho,_⟩ | ho
   ·refine .inr ⟨B.blk,0,l1,by rw [ho,Nat.zero_mul],⟨hr,cs,e,(0,0),hkp,fun j u hj=>?_⟩,h5⟩
    rw [Nat.zero_add,← Array.getElem?_toList,hl]
    exact prefix_get hj
   ·exact .inl (List.eq_nil_of_length_eq_zero (by omega))
 | cells xs=>cases hm
 | sg l=>cases hm
 | mp ks sch xs=>cases hm
theorem list_nil {Γ:Env} {b:Body} {x:NC} (hm:b.rowsN=some 0):CRel Γ (listC b x) (.slice none 0 0):=by
 cases b with
 | ints q xs=>
   simp only [Body.rowsN,Option.some.injEq] at hm
   have:xs=[]:=List.eq_nil_of_length_eq_zero hm
   subst this
   exact ⟨none,0,rfl,Nat.le_refl _,.inl rfl⟩
 | recs ks xs=>
   simp only [Body.rowsN] at hm
   split at hm
   case isFalse=>cases hm
   rename_i h0
   have:xs=[]:=List.eq_nil_of_length_eq_zero (by simpa using hm)
   subst this
   exact ⟨none,0,rfl,Nat.le_refl _,h0,.inl rfl⟩
 | tab sch xs=>
   simp only [Body.rowsN] at hm
   split at hm
   case isFalse=>cases hm
   rename_i h0
   have:xs=[]:=List.eq_nil_of_length_eq_zero (by simpa using hm)
   subst this
   exact ⟨none,0,rfl,Nat.le_refl _,h0,fun _ h=>by simp at h,.inl rfl⟩
 | cells xs=>cases hm
 | sg l=>cases hm
 | mp ks sch xs=>cases hm
theorem list_alt {b:Body} {m:Nat} (hm:b.rowsN=some m) (x y:NC):listC b x=listC b y:=by
 cases b <;> first | rfl | (cases hm; done)
theorem frz_env {Γ0 Γ:Env} {w0 w:World} {rg:List (Option Reg)} {k m:Nat} {g:Reg} (hE:Ext Γ0 w0 Γ) (hW:WRel Γ rg w) (hk:rg[k]? = some (some g)) (hm:g.body.rowsN=some m) :
  ∃ Γ',Ext Γ0 w0 Γ'∧Γ.le Γ'∧Γ'.μ=Γ.μ∧WRel Γ' (putAt rg k none) w∧∀ x,(∀ n∈hits k x,n=m)→SoftC Γ' x (frzC k g.body x):=by
 have hold:∀ (n:Nat) (g:Reg),(putAt rg k none)[n]? = some (some g)→n≠k∧rg[n]? = some (some g):=fun n g hn=>by
  rcases (putAt_get _ _ _ _ _).1 hn with ⟨_,he⟩ | ⟨h1,h2⟩
  ·cases he
  ·exact ⟨h1,h2⟩
 obtain ⟨B,hBμ,hrr⟩:=hW.live k g hk
 have hlen:g.body.len=none:=by cases hb:g.body <;> rw [hb] at hm <;> first | rfl | (cases hm; done)
 cases hgh:B.gh with
 | true=>
   have hno:Γ.wh k=none:=by
    cases hw:Γ.wh k with
    | none=>rfl
    | some B'=>
      obtain ⟨h1,h2,-⟩:=Env.wh_iff.1 hw
      rw [hBμ] at h1
      cases h1
      rw [hgh] at h2; cases h2
   refine ⟨Γ,hE,Env.le.refl Γ,rfl,hW.fewer fun n g h=>(hold n g h).2,fun x hx v hv=>?_⟩
   unfold frzC
   split
   ·rename_i r n
    split
    ·rename_i e
     subst e
     obtain ⟨⟨B',o,cap,hB',-⟩,-⟩:=hv
     rw [hno] at hB'; cases hB'
    ·exact hv
   ·rename_i r n
    split
    ·rename_i e
     subst e
     have hn:n=m:=hx n (by simp [hits])
     rcases hv with ⟨⟨h0,rfl,-⟩ | ⟨B',o,cap,hB',-⟩,hv⟩
     ·exact ⟨list_nil (by rw [hm,← hn,h0]),hv⟩
     ·rw [hno] at hB'; cases hB'
    ·exact hv
   ·exact hv
 | false=>
 have hB:Γ.pt k=some B:=Env.pt_iff.2 ⟨hBμ,hgh⟩
 have hBw:=hW.whole hB hk hlen
 obtain ⟨cs,hcs,hst,hsz,hbody⟩:=hW.atW hBw hk
 have hlive:live rg k:=⟨_,hk⟩
 have hk0:Γ.kp B.blk=none:=hW.apart k B hlive hB
 let Γ'' : Env:={Γ with kp:=fun b=>if b=B.blk then some (.cells cs g.e (0,0)) else Γ.kp b,ro:=fun b=>if b=B.blk then true else Γ.ro b}
 have hle:Γ.le Γ'':=⟨fun _ _ h=>h,fun b o h=>by
  show (if b=B.blk then _ else Γ.kp b)=some o
  by_cases hb:b=B.blk
  ·rw [hb,hk0] at h; cases h
  ·rw [if_neg hb]; exact h,fun b h=>by
  show (if b=B.blk then true else Γ.ro b)=true
  by_cases hb:b=B.blk
  ·rw [if_pos hb]
  ·rw [if_neg hb]; exact h,rfl⟩
 have hls:=fun n (hn:n=m)=>list_soft (Γ:=Γ'') (k:=k) (g:=g) (B:=B) (cs:=cs) (n:=n) (hle.wh hBw) hst (hbody.mono hle) (if_pos rfl) (if_pos rfl) hm hn
 refine ⟨Γ'',⟨hE.le.trans hle,fun b h=>?_,fun n B' h=>hE.nw n B' h⟩,hle,rfl,⟨fun n g h=>?_,fun a b Ba Bb hne la lb ha hb=>?_,fun b o h=>?_,fun n Bn hn hBn=>?_,fun b h=>?_⟩,fun x hx v hv=>?_⟩
 ·have h:(if b=B.blk then true else Γ.ro b)=true:=h
  by_cases hb:b=B.blk
  ·rcases hE.nw k B hB with h1 | ⟨n',B',h1,h2⟩
   ·rw [hb]; exact .inr (.inl h1)
   ·exact .inr (.inr ⟨n',B',h1,by rw [h2,hb]⟩)
  ·rw [if_neg hb] at h; exact hE.ro b h
 ·obtain ⟨hne,hg⟩:=hold n g h
  obtain ⟨Bn,hBn,hr⟩:=hW.live n g hg
  exact ⟨Bn,hBn,hr.mono hle⟩
 ·obtain ⟨ga,ha'⟩:=la
  obtain ⟨gb,hb'⟩:=lb
  exact hW.inj a b Ba Bb hne ⟨ga,(hold a ga ha').2⟩ ⟨gb,(hold b gb hb').2⟩ ha hb
 ·have h:(if b=B.blk then some (Obj.cells cs g.e (0,0)) else Γ.kp b)=some o:=h
  by_cases hb:b=B.blk
  ·rw [if_pos hb] at h
   cases h
   rw [hb]; exact hcs
  ·rw [if_neg hb] at h; exact hW.kp b o h
 ·obtain ⟨g',hg⟩:=hn
  obtain ⟨hne,hg⟩:=hold n g' hg
  show (if Bn.blk=B.blk then some _ else Γ.kp Bn.blk)=none
  rw [if_neg (hW.inj n k Bn B hne ⟨g',hg⟩ hlive hBn hB)]
  exact hW.apart n Bn ⟨g',hg⟩ hBn
 ·have h:(if b=B.blk then true else Γ.ro b)=true:=h
  show ∃ o,(if b=B.blk then some (Obj.cells cs g.e (0,0)) else Γ.kp b)=some o
  by_cases hb:b=B.blk
  ·exact ⟨_,by rw [if_pos hb]⟩
  ·rw [if_neg hb] at h ⊢; exact hW.ro b h
 ·unfold frzC
  split
  ·rename_i r n
   split
   ·rename_i e
    subst e
    exact ⟨hls n (hx n (by simp [hits])) v hv.1,hv.2⟩
   ·exact hv
  ·rename_i r n
   split
   ·rename_i e
    subst e
    have hn:n=m:=hx n (by simp [hits])
    rcases hv with ⟨⟨h0,rfl,-⟩ | h1,hv⟩
    ·exact ⟨list_nil (by rw [hm,← hn,h0]),hv⟩
    ·rw [list_alt hm _ (.h r 0 n)]
     exact ⟨hls n hn v h1,hv⟩
   ·exact hv
  ·exact hv
def frzO (k:Nat) (g:Reg) (o:Out):Out:=⟨mapS (fun _ _ _=>frzC k g.body) o.res,mapGs (fun _ _ _=>frzC k g.body) 0 (putAt o.rg k none)⟩
def outHits (k:Nat) (o:Out):List Nat:=(o.res.ncs++rgNcs o.rg).flatMap (hits k)
theorem frz_one {k m:Nat} {g:Reg} {o:Out} (hk:o.rg[k]? = some (some g)) (hm:g.body.rowsN=some m) (hh:∀ n∈outHits k o,n=m) {Γ0 Γ:Env} {w0 w:World} {v:Value} (hE:Ext Γ0 w0 Γ) (hS:SRel Γ o.res v) (hW:WRel Γ o.rg w) :
  ∃ Γ',Ext Γ0 w0 Γ'∧SRel Γ' (frzO k g o).res v∧WRel Γ' (frzO k g o).rg w∧Γ'.μ=Γ.μ:=by
 obtain ⟨Γ',h1,h2,h3,h4,h5⟩:=frz_env hE hW hk hm
 have hput:∀ x,x∈rgNcs (putAt o.rg k none)→x∈rgNcs o.rg:=fun x hx=>by
  have:∀ (l:List (Option Reg)) (n:Nat),x∈rgNcs (l.set n none)→x∈rgNcs l:=by
   intro l
   induction l with
   | nil=>intro n h; exact h
   | cons a l ih=>
     intro n h
     cases n with
     | zero=>
       cases a with
       | none=>exact h
       | some g=>exact List.mem_append_right _ h
     | succ n=>
       cases a with
       | none=>exact ih n h
       | some g=>
         rcases List.mem_append.1 h with h | h
         ·exact List.mem_append_left _ h
         ·exact List.mem_append_right _ (ih n h)
  have hl:k<o.rg.length:=by
   apply Classical.byContradiction
   intro hn
   rw [List.getElem?_eq_none (by omega)] at hk
   cases hk
  have e:putAt o.rg k none=o.rg.set k none:=by unfold putAt; rw [if_pos hl]
  rw [e] at hx
  exact this _ _ hx
 exact ⟨Γ',h1,mapS_soft (fun _ _ _ y hy=>h5 y fun n hn=>hh n (List.mem_flatMap.2 ⟨y,List.mem_append_left _ hy,hn⟩)) (hS.mono h2),
  mapGs_soft (fun _ _ _ y hy=>h5 y fun n hn=>hh n (List.mem_flatMap.2 ⟨y,List.mem_append_right _ (hput y hy),hn⟩)) h4,h3⟩
theorem frzO_weak {k m:Nat} {g:Reg} {o:Out} (hk:o.rg[k]? = some (some g)) (hm:g.body.rowsN=some m) (hh:∀ n∈outHits k o,n=m):Weak o (frzO k g o):=fun Γ0 Γ w0 w v h1 h2 h3=>by
 obtain ⟨Γ',h4,h5,h6,-⟩:=frz_one hk hm hh h1 h2 h3
 exact ⟨Γ',h4,h5,h6⟩
theorem frzO_weakF {k m:Nat} {g:Reg} {o:Out} (hk:o.rg[k]? = some (some g)) (hm:g.body.rowsN=some m) (hh:∀ n∈outHits k o,n=m):WeakF o (frzO k g o):=fun Γ0 Γ w0 w v h1 h2 h3 h4=>by
 obtain ⟨Γ',h5,h6,h7,h8⟩:=frz_one hk hm hh h1 h2 h3
 refine ⟨Γ',h5,h6,h7,fun n hn=>?_⟩
 rw [h8]
 refine h4 n (Nat.le_trans (putAt_length o.rg k none).1 ?_)
 rw [frzO,mapGs_length] at hn
 exact hn
def mustLens (m:Nat) {α:Type}:List Nat→Tr α→Tr α
 | [],t=>t
 | n::l,t=>.must (n=m) (mustLens m l t)
theorem mustLens_run {m:Nat} {α:Type} {t:Tr α} {R:α→Prop}:∀ {l:List Nat},(mustLens m l t).run R→(∀ n∈l,n=m)∧t.run R
 | [],h=>⟨fun _ h=>(by cases h),h⟩
 | n::l,h=>by
   obtain ⟨h1,h2⟩:=mustLens_run (l:=l) h.2
   refine ⟨fun x hx=>?_,h2⟩
   rcases List.mem_cons.1 hx with rfl | hx
   ·exact h.1
   ·exact h1 x hx
def frzT:List Nat→Out→Tr Out
 | [],o=>.ret o
 | k::ks,o=>match o.rg[k]? with
   | some (some g)=>(match g.body.rowsN with
     | some m=>mustLens m (outHits k o) (frzT ks (frzO k g o))
     | none=>.fail)
   | _=>frzT ks o
theorem frzT_ok:∀ {ks:List Nat} {o:Out} {R:Out→Prop},(frzT ks o).run R→∃ o',(Weak o o'∧WeakF o o')∧R o'
 | [],o,R,h=>⟨o,⟨Weak.refl o,WeakF.refl o⟩,h⟩
 | k::ks,o,R,h=>by
   unfold frzT at h
   split at h
   ·rename_i g hk
    split at h
    ·rename_i m hm
     obtain ⟨h1,h2⟩:=mustLens_run h
     obtain ⟨o',⟨h3,h4⟩,h5⟩:=frzT_ok h2
     exact ⟨o',⟨(frzO_weak hk hm h1).trans h3,(frzO_weakF hk hm h1).trans h4⟩,h5⟩
    ·exact h.elim
   ·exact frzT_ok h
def cutB (n:Nat):Body→Body
 | .ints k xs=>.ints k (xs.take n)
 | .recs ks xs=>.recs ks (xs.take n)
 | .tab sch xs=>.tab sch (xs.take n)
 | b=>b
def cutG (n:Nat) (g:Reg):Reg:={g with body:=cutB n g.body}
theorem rowsV_cut (ks:List CK) (xs:List (List Sc)) (n:Nat):rowsV ks xs=rowsV ks (xs.take n)++rowsV ks (xs.drop n):=by
 unfold rowsV
 rw [← List.flatMap_append,List.take_append_drop]
theorem tabNC_cut (sch:List Part) (xs:List (List FC)) (n:Nat):tabNC sch xs=tabNC sch (xs.take n)++tabNC sch (xs.drop n):=by
 unfold tabNC
 rw [← List.flatMap_append,List.take_append_drop]
theorem R2.cut2 {α β:Type} {R:α→β→Prop}:∀ {a b:List α} {l:List β},R2 R (a++b) l→∃ l1 l2,l=l1++l2∧R2 R a l1∧R2 R b l2
 | [],_,l,h=>⟨[],l,rfl,.nil,h⟩
 | x::a,b,_,h=>by
   cases h with
   | cons r h=>
     obtain ⟨l1,l2,rfl,h1,h2⟩:=R2.cut2 h
     exact ⟨_::l1,l2,rfl,.cons r h1,h2⟩
theorem cutG_rel {Γ:Env} {g:Reg} {B:Blk} {w:World} (n:Nat) (h:RegRel Γ g B w):RegRel Γ (cutG n g) B w:=by
 obtain ⟨st,e,body⟩:=g
 cases body with
 | ints k xs=>
   rcases h with ⟨hg,⟨k',hk⟩ | ⟨ks,hk⟩ | ⟨sch,hk,-⟩⟩ | ⟨h0,c,h1,h2,h3,⟨h4,l2,h5⟩,h6⟩ | ⟨-,hM⟩
   ·cases hk; exact .inl ⟨hg,.inl ⟨k,by simp [cutG,cutB]⟩⟩
   ·cases hk
   ·cases hk
   ·refine .inr (.inl ⟨h0,c,h1,h2,h3,⟨h4,(xs.drop n).map (.int k)++l2,?_⟩,h6.same rfl rfl⟩)
    rw [h5,← List.append_assoc,← List.map_append,List.take_append_drop]
   ·obtain ⟨_,_,_,_,_,hk,-⟩:=hM.mp; cases hk
 | recs ks xs=>
   rcases h with ⟨hg,⟨k',hk⟩ | ⟨ks',hk⟩ | ⟨sch,hk,-⟩⟩ | ⟨h0,c,h1,h2,h3,⟨h4,h7,l2,h5⟩,h6⟩ | ⟨-,hM⟩
   ·cases hk
   ·cases hk; exact .inl ⟨hg,.inr (.inl ⟨ks,by simp [cutG,cutB]⟩)⟩
   ·cases hk
   ·refine .inr (.inl ⟨h0,c,h1,h2,h3,⟨h4,h7,rowsV ks (xs.drop n)++l2,?_⟩,h6.same rfl rfl⟩)
    rw [h5,← List.append_assoc,← rowsV_cut]
   ·obtain ⟨_,_,_,_,_,hk,-⟩:=hM.mp; cases hk
 | tab sch xs=>
   rcases h with ⟨hg,⟨k',hk⟩ | ⟨ks',hk⟩ | ⟨sch',hk,hp⟩⟩ | ⟨h0,c,h1,h2,h3,⟨h4,h7,l1,l2,h5,h8,h9⟩,h6⟩ | ⟨-,hM⟩
   ·cases hk
   ·cases hk
   ·cases hk; exact .inl ⟨hg,.inr (.inr ⟨sch,by simp [cutG,cutB],hp⟩)⟩
   ·rw [tabNC_cut sch xs n] at h8
    obtain ⟨m1,m2,rfl,h10,-⟩:=R2.cut2 h8
    refine .inr (.inl ⟨h0,c,h1,h2,h3,⟨h4,h7,m1,m2++l2,?_,h10,fun r hr=>h9 r (List.mem_of_mem_take hr)⟩,h6.same rfl rfl⟩)
    rw [h5,List.append_assoc]
   ·obtain ⟨_,_,_,_,_,hk,-⟩:=hM.mp; cases hk
 | cells xs=>exact h
 | sg l=>exact h
 | mp ks sch xs=>exact h
def trimO (k:Nat) (o:Out):Out:=
 match o.rg[k]?,(o.res.ncs++rgNcs o.rg).flatMap (hits k) with
 | some (some g),[n]=>⟨o.res,putAt o.rg k (some (cutG n g))⟩
 | _,_=>o
theorem trimO_weak (k:Nat) (o:Out):Weak o (trimO k o)∧WeakF o (trimO k o):=by
 unfold trimO
 split
 case h_2=>exact ⟨Weak.refl o,WeakF.refl o⟩
 rename_i g n hk _
 have key:∀ (Γ:Env) (w:World),WRel Γ o.rg w→WRel Γ (putAt o.rg k (some (cutG n g))) w:=fun Γ w hW=>by
  have hl:∀ m,Nx.live (putAt o.rg k (some (cutG n g))) m→Nx.live o.rg m:=fun m hm=>by
   rcases (putAt_live _ _ _ _).1 hm with ⟨rfl,-⟩ | ⟨-,h⟩
   ·exact ⟨_,hk⟩
   ·exact h
  refine ⟨fun m g' hm=>?_,fun a b Ba Bb hne la lb=>hW.inj a b Ba Bb hne (hl a la) (hl b lb),hW.kp,fun m B ln=>hW.apart m B (hl m ln),hW.ro⟩
  rcases (putAt_get _ _ _ _ _).1 hm with ⟨rfl,he⟩ | ⟨h1,h2⟩
  ·cases he
   obtain ⟨B,hB,hr⟩:=hW.live m g hk
   exact ⟨B,hB,cutG_rel n hr⟩
  ·exact hW.live m g' h2
 exact ⟨fun _ Γ _ _ _ h1 h2 h3=>⟨Γ,h1,h2,key Γ _ h3⟩,fun _ Γ _ _ _ h1 h2 h3 h4=>⟨Γ,h1,h2,key Γ _ h3,fun m hm=>h4 m (Nat.le_trans (putAt_length o.rg k _).1 hm)⟩⟩
def trimL:List Nat→Out→Out
 | [],o=>o
 | k::ks,o=>trimL ks (trimO k o)
theorem trimL_weak:∀ (ks:List Nat) (o:Out),Weak o (trimL ks o)∧WeakF o (trimL ks o)
 | [],o=>⟨Weak.refl o,WeakF.refl o⟩
 | k::ks,o=>⟨(trimO_weak k o).1.trans (trimL_weak ks _).1,(trimO_weak k o).2.trans (trimL_weak ks _).2⟩
def softT (tr:List Nat) (fz:List Nat) (rs gs:List (Nat × Nat × Nat × NC)) (F:Nat) (T:Con):Con:=fun args regs=>(T args regs).bind fun o=>(frzT fz (trimL tr o)).bind fun o=>.ret ⟨(nilO rs gs o).res,(nilO rs gs o).rg.take F⟩
theorem KnownF.soft {P:Program} {gl:List Nat} {f:FuncId} {T:Con} (h:KnownF P gl f T) (tr fz:List Nat) (rs gs:List (Nat × Nat × Nat × NC)) (F:Nat):Known P gl f (softT tr fz rs gs F T):=by
 refine h.known.weak fun args regs R hR=>?_
 refine Tr.run_mono _ (fun o ho=>?_) (Eq.mp (Tr.run_bind _ _ _) hR)
 obtain ⟨o',⟨h1,-⟩,h2⟩:=frzT_ok (Eq.mp (Tr.run_bind _ _ _) ho)
 exact ⟨_,(trimL_weak tr o).1.trans <| h1.trans ((nilO_weak rs gs o').trans (Weak.drop fun n g hn=>take_get hn)),h2⟩
theorem Known.soft {P:Program} {gl:List Nat} {f:FuncId} {T:Con} (h:Known P gl f T) (tr fz:List Nat) (rs gs:List (Nat × Nat × Nat × NC)) (F:Nat):Known P gl f (softT tr fz rs gs F T):=by
 refine h.weak fun args regs R hR=>?_
 refine Tr.run_mono _ (fun o ho=>?_) (Eq.mp (Tr.run_bind _ _ _) hR)
 obtain ⟨o',⟨h1,-⟩,h2⟩:=frzT_ok (Eq.mp (Tr.run_bind _ _ _) ho)
 exact ⟨_,(trimL_weak tr o).1.trans <| h1.trans ((nilO_weak rs gs o').trans (Weak.drop fun n g hn=>take_get hn)),h2⟩
end Go.Nx
namespace Go.Proofs.YtbmpbafemefepaaGreatDoor
namespace sto
open Go Go.Nx pk ac
noncomputable def t_stGet:Con:=fun args regs=>nfun Tryz.prog GL (fun _=>Option.none) [] Tryz.f79 args regs
theorem k_stGet:Known Tryz.prog GL 79 t_stGet:=known_inl Tryz.func79 rfl (by kernel_rfl) mixed con_none (by kernel_rfl)
noncomputable def t_stPin:Con:=fun args regs=>nfun Tryz.prog GL (fun _=>Option.none) [] Tryz.f135 args regs
theorem k_stPin:Known Tryz.prog GL 135 t_stPin:=known_inl Tryz.func135 rfl (by kernel_rfl) mixed con_none (by kernel_rfl)
noncomputable def t_stFree:Con:=fun args regs=>nfun Tryz.prog GL (fun _=>Option.none) [] Tryz.f101 args regs
theorem k_stFree:Known Tryz.prog GL 101 t_stFree:=known_inl Tryz.func101 rfl (by kernel_rfl) mixed con_none (by kernel_rfl)
noncomputable def t_dropF:Con:=fun args regs=>nfun Tryz.prog GL (fun _=>Option.none) [] Tryz.f232 args regs
theorem k_dropF:Known Tryz.prog GL 232 t_dropF:=known_inl Tryz.func232 rfl (by kernel_rfl) mixed con_none (by kernel_rfl)
abbrev Ky:=Int × Int × Int
def kyRow (k:Ky):List Sc:=[.i k.1,.i k.2.1,.i k.2.2]
def kyRows (l:List Ky):List (List Sc):=l.map kyRow
def kyFC (k:Ky):List FC:=[.i k.1,.i k.2.1,.i k.2.2]
def kyNC (k:Ky):List NC:=[.i .i64 k.1,.i .i64 k.2.1,.i .i64 k.2.2]
def kyEq (a b:Ky):Bool:=(a.1==b.1)&&((a.2.1==b.2.1)&&((a.2.2==b.2.2)&&true))
theorem kyEq_iff {a b:Ky}:kyEq a b=true↔a=b:=by
 obtain ⟨a1,a2,a3⟩:=a
 obtain ⟨b1,b2,b3⟩:=b
 simp [kyEq]
def ky0:Ky:=(0,0,0)
def bxK (k:Ky):Reg:=⟨3,40,.cells [.i .i64 k.1,.i .i64 k.2.1,.i .i64 k.2.2]⟩
def ordReg (l:List (List Sc)):Reg:=⟨3,40,.recs K3 l⟩
theorem kyRows_length (l:List Ky):(kyRows l).length=l.length:=by simp [kyRows]
theorem kyRows_getD {l:List Ky} {i:Nat} (h:i<l.length):(kyRows l).getD i []=kyRow (l.getD i ky0):=by
 rw [List.getD_eq_getElem?_getD,List.getD_eq_getElem?_getD,kyRows,List.getElem?_map,List.getElem?_eq_getElem h]
 rfl
theorem sT {x:Bool} {p q:Prop} (hx:x=true) (h:p):sel x p q:=sel_iff.2 (.inl ⟨hx,h⟩)
theorem sF {x:Bool} {p q:Prop} (hx:x=false) (h:q):sel x p q:=sel_iff.2 (.inr ⟨hx,h⟩)
noncomputable abbrev f_ix:=Tryz.f272
noncomputable def c_ix:FuncId→Option Con:=conOf [(232,t_dropF)]
theorem kc_ix:∀ f T,c_ix f=some T→Known Tryz.prog GL f T:=(Knowns.cons k_dropF .nil).get
noncomputable def X_ix:Cx:={P:=Tryz.prog,con:=c_ix,glob:=GL,m:=1,loops:=[]}
abbrev clF (r:Nat):NC:=.cl 232 [(r,0,0)]
noncomputable def s_ix (L:List (List Sc)) (k:Ky) (i:Int):St:={fr:=frame 19 [(0,.v (.c (.lr K3 L))),(1,.v (.c (clF 0))),(7,.v (.c (.i .i64 L.length))),(8,.v (.c (.i .i64 i)))],rg:=[some (bxK k)]}
def eqK (r:List Sc) (k:Ky):Bool:=keyEq plSch [.i (r.getD 0 (.i 0)).n,.i (r.getD 1 (.i 0)).n,.i (r.getD 2 (.i 0)).n] [.i k.1,.i k.2.1,.i k.2.2] 0
theorem eqK_ky (x k:Ky):eqK (kyRow x) k=kyEq x k:=rfl
def rowAt (L:List (List Sc)) (i:Int) (N:Prop):Prop:=sel (decide (0≤i)) (sel (decide (i<(L.length:Int))) (sel (decide (i.toNat<L.length)) N False) False) False
theorem round_ix (L:List (List Sc)) (k:Ky) (i:Int) (R:RO→Prop):(roundT X_ix 0 [0,1,7,8] [4] (bodyLoop f_ix 0) (s_ix L k i)).run R =
 sel (decide (i<(L.length:Int))) (rowAt L i (sel (eqK (L.getD i.toNat []) k) (R (.done .ret {fr:=frame 19 [(4,.v (.c (.i .i64 i)))],rg:=[some (bxK k)]})) (R (.next (s_ix L k (IntKind.i64.wrap (i+1)))))))
  (R (.done .normal {fr:=frame 19 [],rg:=[some (bxK k)]})):=by kernel_rfl
noncomputable def e_ix (k:Ky) (j:Int):St:={fr:=frame 19 [(4,.v (.c (.i .i64 j)))],rg:=[some (bxK k)]}
noncomputable def n_ix (k:Ky):St:={fr:=frame 19 [],rg:=[some (bxK k)]}
def ixOf (k:Ky):List Ky→Int→Int
 | [],_=>-1
 | x::l,i=>if kyEq x k then i else ixOf k l (i+1)
def anyK (k:Ky) (l:List Ky):Bool:=l.any fun x=>kyEq x k
theorem any_yes {k x:Ky} {l:List Ky} (h:kyEq x k=true):anyK k (x::l)=true:=by
 unfold anyK
 rw [List.any_cons,h]
 rfl
theorem any_no {k x:Ky} {l:List Ky} (h:kyEq x k=false):anyK k (x::l)=anyK k l:=by
 unfold anyK
 rw [List.any_cons,h]
 rfl
theorem ix_yes {k x:Ky} {i:Int} {l:List Ky} (h:kyEq x k=true):ixOf k (x::l) i=i:=by
 unfold ixOf
 rw [if_pos h]
theorem ix_no {k x:Ky} {i:Int} {l:List Ky} (h:kyEq x k=false):ixOf k (x::l) i=ixOf k l (i+1):=by
 rw [ixOf,if_neg (by rw [h]; exact Bool.false_ne_true)]
structure AX where
 l:List Ky
 k:Ky
 i:Int
def preX (x:AX) (R:NExit × St→Prop):Prop:=(0≤x.i∧x.i≤(x.l.length:Int))∧x.l.length≤1000000∧
 sel (anyK x.k (x.l.drop x.i.toNat)) (R (.ret,e_ix x.k (ixOf x.k (x.l.drop x.i.toNat) x.i))) (R (.normal,n_ix x.k))
def toKy (r:List Sc):Ky:=((r.getD 0 (.i 0)).n,(r.getD 1 (.i 0)).n,(r.getD 2 (.i 0)).n)
def rdX (s:St):Option (List (List Sc) × Ky):=match s.fr[(0:Nat)]?,s.rg with
 | some (.v (.c (.lr _ L))),[some ⟨_,_,.cells [.i _ a,.i _ b,.i _ c]⟩]=>some (L,(a,b,c))
 | _,_=>none
noncomputable def l_ix (s:St):Tr (NExit × St):=match rdX s with
 | some (L,k)=>.must (s=s_ix (kyRows (L.map toKy)) k 0∧L.length≤1000000) (.br (anyK k (L.map toKy)) (.ret (.ret,e_ix k (ixOf k (L.map toKy) 0))) (.ret (.normal,n_ix k)))
 | none=>.fail
theorem toKy_map (l:List Ky):(kyRows l).map toKy=l:=by
 rw [kyRows,List.map_map]
 exact List.map_id l
theorem loop_ix:LOk Tryz.prog GL 1 0 (bodyLoop f_ix 0) l_ix:=by
 refine loop_ok (X:=X_ix) kc_ix mixed (LAll.none (by kernel_rfl)) [0,1,7,8] [4] (fun x:AX=>s_ix (kyRows x.l) x.k x.i) (fun x=>((x.l.length:Int) - x.i).toNat) preX ?_ ?_
 ·intro s R h
  unfold l_ix at h
  split at h
  case h_2=>exact h.elim
  rename_i L k hrd
  obtain ⟨⟨hs,hl⟩,hR⟩:=h
  exact ⟨⟨L.map toKy,k,0⟩,hs,⟨by simp only; omega,by simp only; omega⟩,by simpa using hl,hR⟩
 ·intro x R h
  obtain ⟨l,k,i⟩:=x
  obtain ⟨⟨h0,hle⟩,hl,hR⟩:=h
  simp only at h0 hle hl hR
  refine Tr.run_mono _ (fun o ho=>ho) (Box.of_eq (round_ix (kyRows l) k i _) ?_).out
  by_cases hlt:i<(l.length:Int)
  ·have hj:i.toNat<l.length:=by omega
   have hd:l.drop i.toNat=l.getD i.toNat ky0::l.drop (i+1).toNat:=by
    rw [List.drop_eq_getElem_cons hj,List.getD_eq_getElem?_getD,List.getElem?_eq_getElem hj,show (i+1).toNat=i.toNat+1 by omega]
    rfl
   have hw:IntKind.i64.wrap (i+1)=i+1:=by rw [IntKind.wrap_i64]; omega
   refine sT (decide_eq_true (by rw [kyRows_length]; exact hlt)) (sT (decide_eq_true h0) (sT (decide_eq_true (by rw [kyRows_length]; exact hlt)) (sT (decide_eq_true (by rw [kyRows_length]; exact hj)) ?_)))
   rw [hd] at hR
   rw [kyRows_getD hj,eqK_ky]
   cases he:kyEq (l.getD i.toNat ky0) k with
   | true=>
     rw [any_yes he,ix_yes he] at hR
     exact sT rfl hR
   | false=>
     rw [any_no he,ix_no he] at hR
     rw [hw]
     exact sF rfl ⟨⟨l,k,i+1⟩,rfl,by simp only; omega,⟨by simp only; omega,by simp only; omega⟩,hl,hR⟩
  ·rw [List.drop_eq_nil_iff.2 (by omega)] at hR
   exact sF (decide_eq_false (by rw [kyRows_length]; exact hlt)) hR
noncomputable def t_ixF:Con:=fun args regs=>if regs.length=1 then nfun Tryz.prog GL c_ix [(0,[0,1,7,8],l_ix)] f_ix args regs else .fail
theorem k_ixF:Known Tryz.prog GL 272 t_ixF:=known_loops 1 Tryz.func272 rfl (by kernel_rfl) mixed kc_ix (LAll.one (id:=0) (body:=bodyLoop f_ix 0) (by kernel_rfl) rfl loop_ix)
def oIx (k:Ky) (j:Int):Out:=⟨.v (.c (.i .i64 j)),[some (bxK k)]⟩
theorem ixF_tree (L:List (List Sc)) (k:Ky) (R:Out→Prop):(t_ixF [.c (.lr K3 L),.c (clF 0)] [bxK k]).run R =
 ((s_ix L k 0=s_ix (kyRows (L.map toKy)) k 0∧L.length≤1000000)∧sel (anyK k (L.map toKy)) (R (oIx k (ixOf k (L.map toKy) 0))) (R (oIx k (-1)))):=by kernel_rfl
noncomputable def tIx:Con:=fun args regs=>match args,regs with
 | [.c (.lr _ L),.c (.cl _ [(0,0,0)])],[⟨_,_,.cells [.i .i64 a,.i .i64 b,.i .i64 c]⟩]=>.must ((args=[.c (.lr K3 L),.c (clF 0)]∧regs=[bxK (a,b,c)])∧L=kyRows (L.map toKy)∧L.length≤1000000) (.br (anyK (a,b,c) (L.map toKy)) (.ret (oIx (a,b,c) (ixOf (a,b,c) (L.map toKy) 0))) (.ret (oIx (a,b,c) (-1))))
 | _,_=>.fail
attribute [local irreducible] t_ixF in
theorem kIx:Known Tryz.prog GL 272 tIx:=by
 refine k_ixF.less fun args regs R h=>Box.out ?_
 unfold tIx at h
 split at h
 case h_2=>exact h.elim
 rename_i a b c
 obtain ⟨⟨⟨h1,h2⟩,h3,h4⟩,h5⟩:=h
 rw [h1,h2]
 exact Box.of_eq (ixF_tree _ (a,b,c) R) ⟨⟨congrArg (fun L=>s_ix L (a,b,c) 0) h3,h4⟩,h5⟩
noncomputable abbrev f_df:=Tryz.f231
noncomputable def c_df:FuncId→Option Con:=conOf [(272,tIx),(232,t_dropF)]
theorem kc_df:∀ f T,c_df f=some T→Known Tryz.prog GL f T:=(Knowns.cons kIx (.cons k_dropF .nil)).get
noncomputable def X_df:Cx:={P:=Tryz.prog,con:=c_df,glob:=GL,m:=2,loops:=[]}
noncomputable def s_df (n:Nat) (L:List (List Sc)) (k:Ky) (i j:Int):St:={fr:=frame 42 [(0,.v (.c (.hz 0 n))),(1,.v (.c (clF 1))),(5,.v (.c (.i .i64 i))),(6,.v (.c (.i .i64 j)))],rg:=[some (ordReg L),some (bxK k)]}
noncomputable def e_df (n:Nat) (L:List (List Sc)) (k:Ky) (i:Int):St:={fr:=frame 42 [(0,.v (.c (.hz 0 n))),(5,.v (.c (.i .i64 i)))],rg:=[some (ordReg L),some (bxK k)]}
def rowN (n:Nat) (L:List (List Sc)) (i:Int) (N:Prop):Prop:=sel (decide (0≤i)) (sel (decide (i<(n:Int))) (sel (decide (i.toNat<L.length)) N False) False) False
theorem round_df (n:Nat) (L:List (List Sc)) (k:Ky) (i j:Int) (R:RO→Prop):(roundT X_df 0 [0,1,5,6] [0,5] (bodyLoop f_df 0) (s_df n L k i j)).run R =
 sel (decide (j<(n:Int))) (rowN n L j (sel (!eqK (L.getD j.toNat []) k) (rowN n L i (R (.next (s_df n (L.set i.toNat (kyRow (toKy (L.getD j.toNat [])))) k (IntKind.i64.wrap (i+1)) (IntKind.i64.wrap (j+1)))))) (R (.next (s_df n L k i (IntKind.i64.wrap (j+1)))))))
  (R (.done .normal (e_df n L k i))):=by kernel_rfl
def delGo (k:Ky):Nat→List Ky→Nat→Nat→List Ky × Nat
 | 0,l,i,_=>(l,i)
 | q+1,l,i,j=>match kyEq (l.getD j ky0) k with
   | true=>delGo k q l i (j+1)
   | false=>delGo k q (l.set i (l.getD j ky0)) (i+1) (j+1)
theorem drop_cons {l:List Ky} {j:Nat} (h:j<l.length):l.drop j=l.getD j ky0::l.drop (j+1):=by
 rw [List.drop_eq_getElem_cons h,List.getD_eq_getElem?_getD,List.getElem?_eq_getElem h]
 rfl
theorem delGo_spec (k:Ky):∀ (q:Nat) (l:List Ky) (i j:Nat),i≤j→j+q=l.length→
  (delGo k q l i j).1.length=l.length∧(delGo k q l i j).2≤l.length∧(delGo k q l i j).1.take (delGo k q l i j).2=l.take i++(l.drop j).filter (fun x=>!kyEq x k)
 | 0,l,i,j,h,hq=>by
   have:l.drop j=[]:=List.drop_eq_nil_iff.2 (by omega)
   rw [this]
   exact ⟨rfl,by show i≤_; omega,by simp [delGo]⟩
 | q+1,l,i,j,h,hq=>by
   rw [drop_cons (by omega:j<l.length),delGo]
   cases he:kyEq (l.getD j ky0) k with
   | true=>
     obtain ⟨h1,h2,h3⟩:=delGo_spec k q l i (j+1) (by omega) (by omega)
     refine ⟨h1,h2,?_⟩
     rw [h3,List.filter_cons_of_neg (by rw [he]; decide)]
   | false=>
     obtain ⟨h1,h2,h3⟩:=delGo_spec k q (l.set i (l.getD j ky0)) (i+1) (j+1) (by omega) (by rw [List.length_set]; omega)
     rw [List.length_set] at h1 h2
     refine ⟨h1,h2,?_⟩
     have e1:(l.set i (l.getD j ky0)).take (i+1)=l.take i++[l.getD j ky0]:=by
      rw [List.take_add_one,List.take_set_of_le (Nat.le_refl _),List.getElem?_set_self (by omega)]
      rfl
     have e2:(l.set i (l.getD j ky0)).drop (j+1)=l.drop (j+1):=by rw [List.drop_set_of_lt (by omega)]
     rw [h3,e1,e2,List.filter_cons_of_pos (by rw [he]; decide),List.append_assoc]
     rfl
structure AD where
 l:List Ky
 k:Ky
 i:Nat
 j:Nat
def preD (x:AD) (R:NExit × St→Prop):Prop:=(x.i≤x.j∧x.j≤x.l.length∧x.l.length≤1000000)∧
 R (.normal,e_df x.l.length (kyRows (delGo x.k (x.l.length - x.j) x.l x.i x.j).1) x.k ((delGo x.k (x.l.length - x.j) x.l x.i x.j).2:Int))
def rdD (s:St):Option (List (List Sc) × Ky × Int × Int):=match s.fr[(5:Nat)]?,s.fr[(6:Nat)]?,s.rg with
 | some (.v (.c (.i _ i))),some (.v (.c (.i _ j))),[some ⟨_,_,.recs _ L⟩,some ⟨_,_,.cells [.i _ a,.i _ b,.i _ c]⟩]=>some (L,(a,b,c),i,j)
 | _,_,_=>none
noncomputable def l_df (s:St):Tr (NExit × St):=match rdD s with
 | some (L,k,i,j)=>.must (s=s_df (L.map toKy).length (kyRows (L.map toKy)) k (i.toNat:Int) (j.toNat:Int)∧i.toNat≤j.toNat∧j.toNat≤(L.map toKy).length∧L.length≤1000000)
    (.ret (.normal,e_df (L.map toKy).length (kyRows (delGo k ((L.map toKy).length - j.toNat) (L.map toKy) i.toNat j.toNat).1) k ((delGo k ((L.map toKy).length - j.toNat) (L.map toKy) i.toNat j.toNat).2:Int)))
 | none=>.fail
theorem toKy_row (k:Ky):toKy (kyRow k)=k:=rfl
theorem kyRows_set (l:List Ky) (i:Nat) (k:Ky):(kyRows l).set i (kyRow k)=kyRows (l.set i k):=by rw [kyRows,kyRows,List.map_set]
theorem rowN_of {n:Nat} {L:List (List Sc)} {i:Int} {N:Prop} (h0:0≤i) (h1:i<(n:Int)) (h2:n=L.length) (h:N):rowN n L i N:=sT (decide_eq_true h0) (sT (decide_eq_true h1) (sT (decide_eq_true (by omega)) h))
attribute [local irreducible] roundT in
theorem loop_df:LOk Tryz.prog GL 2 0 (bodyLoop f_df 0) l_df:=by
 refine loop_ok (X:=X_df) kc_df mixed (LAll.none (by kernel_rfl)) [0,1,5,6] [0,5] (fun x:AD=>s_df x.l.length (kyRows x.l) x.k x.i x.j) (fun x=>x.l.length - x.j) preD ?_ ?_
 ·intro s R h
  unfold l_df at h
  split at h
  case h_2=>exact h.elim
  rename_i L k i j hrd
  obtain ⟨⟨hs,h1,h2,h3⟩,hR⟩:=h
  exact ⟨⟨L.map toKy,k,i.toNat,j.toNat⟩,hs,⟨h1,h2,by simpa using h3⟩,hR⟩
 ·intro x R h
  obtain ⟨l,k,i,j⟩:=x
  obtain ⟨⟨h0,hle,hl⟩,hR⟩:=h
  simp only at h0 hle hl hR
  refine Tr.run_mono _ (fun o ho=>ho) (Box.of_eq (round_df l.length (kyRows l) k i j _) ?_).out
  by_cases hlt:j<l.length
  ·have hw:IntKind.i64.wrap ((j:Int)+1)=((j+1:Nat):Int):=by rw [IntKind.wrap_i64]; omega
   have hw2:IntKind.i64.wrap ((i:Int)+1)=((i+1:Nat):Int):=by rw [IntKind.wrap_i64]; omega
   have hq:l.length - j=(l.length - (j+1))+1:=by omega
   rw [hq] at hR
   refine sT (decide_eq_true (by omega)) (rowN_of (by omega) (by omega) (kyRows_length l).symm ?_)
   rw [Int.toNat_natCast,Int.toNat_natCast,kyRows_getD hlt,eqK_ky,toKy_row,kyRows_set,hw,hw2]
   cases he:kyEq (l.getD j ky0) k with
   | true=>
     simp only [delGo,he] at hR
     exact sF rfl ⟨⟨l,k,i,j+1⟩,rfl,by simp only; omega,⟨by simp only; omega,by simp only; omega,hl⟩,hR⟩
   | false=>
     simp only [delGo,he] at hR
     refine sT rfl (rowN_of (by omega) (by omega) (kyRows_length l).symm ?_)
     refine ⟨⟨l.set i (l.getD j ky0),k,i+1,j+1⟩,by simp only [List.length_set],by simp only [List.length_set]; omega,⟨by simp only; omega,by simp only [List.length_set]; omega,by simp only [List.length_set]; exact hl⟩,?_⟩
     simp only [List.length_set]
     exact hR
  ·have hq:l.length - j=0:=by omega
   rw [hq] at hR
   exact sF (decide_eq_false (by omega)) hR
noncomputable def t_dfF:Con:=fun args regs=>if regs.length=2 then nfun Tryz.prog GL c_df [(0,[0,1,5,6],l_df)] f_df args regs else .fail
theorem k_dfF:KnownF Tryz.prog GL 231 t_dfF:=known_loopsF 2 Tryz.func231 rfl (by kernel_rfl) mixed kc_df (LAll.one (id:=0) (body:=bodyLoop f_df 0) (by kernel_rfl) rfl loop_df)
def tkL (l:List Ky):List (List Sc):=List.take l.length (kyRows l)
def mpL (l:List Ky):List Ky:=(kyRows l).map toKy
def ixL (k:Ky) (l:List Ky):Int:=ixOf k ((tkL l).map toKy) 0
def jxL (k:Ky) (l:List Ky):Int:=IntKind.i64.wrap (ixL k l+1)
def gL (k:Ky) (l:List Ky):List Ky × Nat:=delGo k ((mpL l).length - (jxL k l).toNat) (mpL l) (ixL k l).toNat (jxL k l).toNat
def gN (k:Ky) (l:List Ky):Int:=((gL k l).2:Int)
def z3:List Sc:=[.i 0,.i 0,.i 0]
def oDf (k:Ky) (X:List (List Sc)) (m:Nat):Out:=⟨.v (.c (.hz 2 m)),[none,some (bxK k),some (ordReg (X.take m))]⟩
noncomputable def t_dfC:Con:=softT [2] [] [] [] 3 (canonT 2 [] (some (ordReg [])) t_dfF)
theorem k_dfC:Known Tryz.prog GL 231 t_dfC:=(k_dfF.canon 2 [] (some (ordReg []))).soft [2] [] [] [] 3
theorem df_tree (l:List Ky) (k:Ky) (R:Out→Prop):(t_dfC [.c (.hz 0 l.length),.c (clF 1)] [ordReg (kyRows l),bxK k]).run R =
 sel (decide (l.length≤(kyRows l).length)) ((([NV.c (.lr K3 (tkL l)),.c (clF 0)]=[NV.c (.lr K3 (tkL l)),.c (clF 0)]∧[bxK k]=[bxK k])∧tkL l=kyRows ((tkL l).map toKy)∧(tkL l).length≤1000000)∧
  sel (anyK k ((tkL l).map toKy)) (sel (ixL k l==-1) (R (oDf k (kyRows l) l.length))
   ((s_df l.length (kyRows l) k (ixL k l) (jxL k l)=s_df (mpL l).length (kyRows (mpL l)) k ((ixL k l).toNat:Int) ((jxL k l).toNat:Int)∧(ixL k l).toNat≤(jxL k l).toNat∧(jxL k l).toNat≤(mpL l).length∧(kyRows l).length≤1000000)∧
   sel (decide (0<(mpL l).length)) (sel (decide (gN k l≤((mpL l).length:Int))) (sel (decide ((gN k l).toNat+((mpL l).length - (gN k l).toNat)≤(kyRows (gL k l).1).length)) (sel (decide (0<(mpL l).length)) (sel (decide (gN k l≤((mpL l).length:Int)))
    (R (oDf k (splice (kyRows (gL k l).1) (gN k l).toNat (List.replicate ((mpL l).length - (gN k l).toNat) z3)) (gL k l).2)) False) False) False) False) False))
  (R (oDf k (kyRows l) l.length))) False:=by kernel_rfl
def dropK (k:Ky) (l:List Ky):List Ky:=l.filter fun x=>!kyEq x k
theorem dropK_none {k:Ky}:∀ {l:List Ky},anyK k l=false→dropK k l=l
 | [],_=>rfl
 | x::l,h=>by
   have h:(kyEq x k||anyK k l)=false:=h
   rw [Bool.or_eq_false_iff] at h
   unfold dropK
   rw [List.filter_cons_of_pos (by rw [h.1]; rfl)]
   exact congrArg (x::·) (dropK_none h.2)
theorem ix_spec {k:Ky}:∀ {l:List Ky} (b:Int),anyK k l=true→∃ i:Nat,ixOf k l b=b+i∧i<l.length∧dropK k l=l.take i++dropK k (l.drop (i+1))
 | [],_,h=>by cases h
 | x::l,b,h=>by
   cases he:kyEq x k with
   | true=>
     refine ⟨0,by rw [ix_yes he]; simp,by simp,?_⟩
     unfold dropK
     rw [List.filter_cons_of_neg (by rw [he]; decide)]
     rfl
   | false=>
     rw [any_no he] at h
     obtain ⟨i,h1,h2,h3⟩:=ix_spec (b+1) h
     refine ⟨i+1,by rw [ix_no he,h1]; omega,by simpa using h2,?_⟩
     show dropK k (x::l)=x::(l.take i++dropK k (l.drop (i+1)))
     rw [← h3]
     unfold dropK
     rw [List.filter_cons_of_pos (by rw [he]; rfl)]
def oDk (k:Ky) (l:List Ky):Out:=⟨.v (.c (.hz 2 l.length)),[none,some (bxK k),some (ordReg (kyRows l))]⟩
noncomputable def tDf:Con:=fun args regs=>match args,regs with
 | [.c (.hz 0 _),.c (.cl _ [(1,0,0)])],[⟨_,_,.recs _ L⟩,⟨_,_,.cells [.i .i64 a,.i .i64 b,.i .i64 c]⟩]=>
   .must (args=[.c (.hz 0 (L.map toKy).length),.c (clF 1)]∧regs=[ordReg (kyRows (L.map toKy)),bxK (a,b,c)]∧L.length≤1000000) (.ret (oDk (a,b,c) (dropK (a,b,c) (L.map toKy))))
 | _,_=>.fail
theorem splice_take {l:List (List Sc)} {m:Nat} {r:List (List Sc)} (h:m≤l.length):(splice l m r).take m=l.take m:=by
 unfold splice
 rw [List.take_append_of_le_length (by rw [List.length_append,List.length_take]; omega),List.take_append_of_le_length (by rw [List.length_take]; omega),List.take_take,Nat.min_self]
theorem df_in {l:List Ky} {k:Ky} {R:Out→Prop} (hl:l.length≤1000000) (h:R (oDk k (dropK k l))):Box ((t_dfC [.c (.hz 0 l.length),.c (clF 1)] [ordReg (kyRows l),bxK k]).run R):=by
 have hL:=kyRows_length l
 have hT:tkL l=kyRows l:=by unfold tkL; rw [← hL,List.take_length]
 have hM:mpL l=l:=toKy_map l
 refine Box.of_eq (df_tree l k R) (sT (decide_eq_true (by omega)) ⟨⟨⟨rfl,rfl⟩,by rw [hT,toKy_map],by rw [hT,hL]; exact hl⟩,?_⟩)
 have hTm:(tkL l).map toKy=l:=by rw [hT,toKy_map]
 cases ha:anyK k l with
 | false=>
   refine sF (by rw [hTm]; exact ha) ?_
   rw [dropK_none ha] at h
   unfold oDf
   rw [← hL,List.take_length,hL]
   exact h
 | true=>
   refine sT (by rw [hTm]; exact ha) ?_
   obtain ⟨i,h1,h2,h3⟩:=ix_spec (k:=k) (l:=l) 0 ha
   rw [Int.zero_add] at h1
   have hi:ixL k l=(i:Int):=by unfold ixL; rw [hTm,h1]
   have hj:jxL k l=((i+1:Nat):Int):=by unfold jxL; rw [hi,IntKind.wrap_i64]; omega
   have hg:gL k l=delGo k (l.length - (i+1)) l i (i+1):=by unfold gL; rw [hM,hi,hj,Int.toNat_natCast,Int.toNat_natCast]
   obtain ⟨s1,s2,s3⟩:=delGo_spec k (l.length - (i+1)) l i (i+1) (by omega) (by omega)
   rw [← hg] at s1 s2 s3
   have e3:(gL k l).1.take (gL k l).2=dropK k l:=by rw [s3,h3]; rfl
   have hgn:(gN k l).toNat=(gL k l).2:=by unfold gN; rw [Int.toNat_natCast]
   rw [hgn,hM,hi,hj,Int.toNat_natCast,Int.toNat_natCast]
   refine sF (beq_eq_false_iff_ne.2 (by omega)) ⟨⟨rfl,by omega,by omega,by rw [hL]; exact hl⟩,sT (decide_eq_true (by omega)) (sT (decide_eq_true (by unfold gN; omega)) (sT (decide_eq_true (by rw [kyRows_length]; omega)) (sT (decide_eq_true (by omega)) (sT (decide_eq_true (by unfold gN; omega)) ?_))))⟩
   have el:(gL k l).2=(dropK k l).length:=by rw [← e3,List.length_take]; omega
   unfold oDf
   rw [splice_take (by rw [kyRows_length]; omega)]
   have:(kyRows (gL k l).1).take (gL k l).2=kyRows (dropK k l):=by rw [← e3,kyRows,kyRows,List.map_take]
   rw [this,el]
   exact h
attribute [local irreducible] t_dfC in
theorem kDf:Known Tryz.prog GL 231 tDf:=by
 refine k_dfC.less fun args regs R h=>Box.out ?_
 unfold tDf at h
 split at h
 case h_2=>exact h.elim
 rename_i L a b c
 obtain ⟨⟨h1,h2,h3⟩,h5⟩:=h
 rw [h1,h2]
 exact df_in (by simpa using h3) h5
theorem k_stDropF:KnownF Tryz.prog GL 204 (fun args regs=>nfun Tryz.prog GL (conOf [(231,tDf)]) [] Tryz.f204 args regs):=
 known_inlF Tryz.func204 rfl (by kernel_rfl) mixed (Knowns.cons kDf .nil).get (by kernel_rfl)
noncomputable def t_drC:Con:=canonT 8 [(0,2,ordReg [])] none (fun args regs=>nfun Tryz.prog GL (conOf [(231,tDf)]) [] Tryz.f204 args regs)
theorem k_drC:KnownF Tryz.prog GL 204 t_drC:=k_stDropF.canon 8 [(0,2,ordReg [])] none
structure Sto where
 most:Int
 pin:Ky
 pd:Bool
 m:List (List FC × List FC)
 l:List Ky
noncomputable def stG (s:Sto) (x:NC):Reg:=stReg s.most 1 x s.pin.1 s.pin.2.1 s.pin.2.2 s.pd
noncomputable def inS (s:Sto):List Reg:=[stG s (.hz 2 s.l.length),mpReg s.m,ordReg (kyRows s.l)]
noncomputable def outS (s:Sto):List (Option Reg):=[some (stG s (.hz 8 s.l.length)),some (mpReg s.m),none,none,none,none,none,none,some (ordReg (kyRows s.l))]
def dropS (k:Ky) (s:Sto):Sto:={s with m:=mpDel plSch (kyFC k) s.m,l:=dropK k s.l}
def rdS:List Reg→Option Sto
 | [⟨_,_,.cells [.i .i64 most,.m _,.hz _ _,.i .i64 a,.i .i64 b,.i .i64 c,.b pd]⟩,⟨_,_,.mp _ _ M⟩,⟨_,_,.recs _ L⟩]=>some ⟨most,(a,b,c),pd,M,L.map toKy⟩
 | _=>none
def onS (regs:List Reg) (f:Sto→Tr Out):Tr Out:=
 match rdS regs with
 | some s=>.must (regs=inS s∧s.l.length≤1000000) (f s)
 | none=>.fail
theorem onS_elim {regs:List Reg} {f:Sto→Tr Out} {R:Out→Prop} (h:(onS regs f).run R):∃ s,regs=inS s∧s.l.length≤1000000∧(f s).run R:=by
 unfold onS at h
 split at h
 ·rename_i s hs
  exact ⟨s,h.1.1,h.1.2,h.2⟩
 ·exact h.elim
theorem dr_tree (s:Sto) (k:Ky) (R:Out→Prop):(t_drC [.c (.p 0 0 0),.ag (kyNC k)] (inS s)).run R =
 (([NV.c (.hz 0 s.l.length),.c (clF 1)]=[.c (.hz 0 (mpL s.l).length),.c (clF 1)]∧[ordReg (kyRows s.l),bxK k]=[ordReg (kyRows (mpL s.l)),bxK k]∧(kyRows s.l).length≤1000000)∧
   R ⟨.tu [],[some (stG s (.hz 8 (dropK k (mpL s.l)).length)),some (mpReg (mpDel plSch (kyFC k) s.m)),none,none,none,none,none,none,some (ordReg (kyRows (dropK k (mpL s.l))))]⟩):=by kernel_rfl
noncomputable def tDr:Con:=fun args regs=>match args with
 | [.c (.p 0 0 0),.ag [.i .i64 a,.i .i64 b,.i .i64 c]]=>onS regs fun s=>.ret ⟨.tu [],outS (dropS (a,b,c) s)⟩
 | _=>.fail
theorem mpL_eq (l:List Ky):mpL l=l:=toKy_map l
attribute [local irreducible] t_drC in
theorem kDrF:KnownF Tryz.prog GL 204 tDr:=by
 refine k_drC.less fun args regs R h=>Box.out ?_
 unfold tDr at h
 split at h
 case h_2=>exact h.elim
 rename_i a b c
 obtain ⟨s,rfl,hl,h⟩:=onS_elim h
 refine Box.of_eq (dr_tree s (a,b,c) R) ?_
 rw [mpL_eq]
 exact ⟨⟨rfl,rfl,by rw [kyRows_length]; exact hl⟩,h⟩
theorem kDr:Known Tryz.prog GL 204 tDr:=kDrF.known
noncomputable abbrev f_vi:=Tryz.f205
noncomputable def X_vi:Cx:={P:=Tryz.prog,con:=fun _=>Option.none,glob:=GL,m:=3,loops:=[]}
def plReg (k:Ky):Reg:=bxK k
noncomputable def s_vi (s:Sto) (k z:Ky) (i:Int):St:={fr:=frame 37 [(0,.v (.c (.p 0 0 0))),(3,.v (.c (.p 3 0 0))),(4,.v (.c (.p 4 0 0))),(10,.v (.c (.hz 2 s.l.length))),(11,.v (.c (.i .i64 s.l.length))),(12,.v (.c (.i .i64 i)))],rg:=(inS s).map some++[some (bxK k),some (bxK z)]}
noncomputable def e_vi (s:Sto) (k z:Ky):St:={fr:=frame 37 [(3,.v (.c (.p 3 0 0))),(4,.v (.c (.p 4 0 0)))],rg:=(inS s).map some++[some (bxK k),some (bxK z)]}
theorem round_vi (s:Sto) (k z:Ky) (i:Int) (R:RO→Prop):(roundT X_vi 0 [0,3,4,10,11,12] [3,4] (bodyLoop f_vi 0) (s_vi s k z i)).run R =
 sel (decide (i<(s.l.length:Int))) (rowN s.l.length (kyRows s.l) i (sel (!eqK ((kyRows s.l).getD i.toNat []) k)
  (sel s.pd (sel (!eqK ((kyRows s.l).getD i.toNat []) s.pin) (R (.done .ret (e_vi s k (toKy ((kyRows s.l).getD i.toNat []))))) (R (.next (s_vi s k z (IntKind.i64.wrap (i+1))))))
    (R (.done .ret (e_vi s k (toKy ((kyRows s.l).getD i.toNat []))))))
  (R (.next (s_vi s k z (IntKind.i64.wrap (i+1)))))))
  (R (.done .normal (e_vi s k z))):=by kernel_rfl
def goesK (s:Sto) (k x:Ky):Bool:=!kyEq x k&&!(s.pd&&kyEq x s.pin)
def vicK (s:Sto) (k:Ky) (l:List Ky):Ky:=(l.find? (goesK s k)).getD k
theorem vic_yes {s:Sto} {k x:Ky} {l:List Ky} (h:goesK s k x=true):vicK s k (x::l)=x:=by unfold vicK; rw [List.find?_cons,h]; rfl
theorem vic_no {s:Sto} {k x:Ky} {l:List Ky} (h:goesK s k x=false):vicK s k (x::l)=vicK s k l:=by unfold vicK; rw [List.find?_cons,h]
theorem vany_yes {s:Sto} {k x:Ky} {l:List Ky} (h:goesK s k x=true):(x::l).any (goesK s k)=true:=by rw [List.any_cons,h]; rfl
theorem vany_no {s:Sto} {k x:Ky} {l:List Ky} (h:goesK s k x=false):(x::l).any (goesK s k)=l.any (goesK s k):=by rw [List.any_cons,h]; rfl
structure AV where
 s:Sto
 k:Ky
 z:Ky
 i:Nat
def preV (x:AV) (R:NExit × St→Prop):Prop:=(x.i≤x.s.l.length∧x.s.l.length≤1000000)∧
 sel ((x.s.l.drop x.i).any (goesK x.s x.k)) (R (.ret,e_vi x.s x.k (vicK x.s x.k (x.s.l.drop x.i)))) (R (.normal,e_vi x.s x.k x.z))
def rdV (s:St):Option (Sto × Ky × Ky):=match s.rg with
 | [some g0,some g1,some g2,some ⟨_,_,.cells [.i _ a,.i _ b,.i _ c]⟩,some ⟨_,_,.cells [.i _ x,.i _ y,.i _ z]⟩]=>(match rdS [g0,g1,g2] with
   | some s=>some (s,(a,b,c),(x,y,z))
   | none=>none)
 | _=>none
noncomputable def l_vi (s:St):Tr (NExit × St):=match rdV s with
 | some (t,k,z)=>.must (s=s_vi t k z 0∧t.l.length≤1000000) (.br (t.l.any (goesK t k)) (.ret (.ret,e_vi t k (vicK t k t.l))) (.ret (.normal,e_vi t k z)))
 | none=>.fail
attribute [local irreducible] roundT in
theorem loop_vi:LOk Tryz.prog GL 3 0 (bodyLoop f_vi 0) l_vi:=by
 refine loop_ok (X:=X_vi) con_none mixed (LAll.none (by kernel_rfl)) [0,3,4,10,11,12] [3,4] (fun x:AV=>s_vi x.s x.k x.z x.i) (fun x=>x.s.l.length - x.i) preV ?_ ?_
 ·intro s R h
  unfold l_vi at h
  split at h
  case h_2=>exact h.elim
  rename_i t k z hrd
  obtain ⟨⟨hs,h3⟩,hR⟩:=h
  exact ⟨⟨t,k,z,0⟩,hs,⟨Nat.zero_le _,h3⟩,hR⟩
 ·intro x R h
  obtain ⟨s,k,z,i⟩:=x
  obtain ⟨⟨hle,hl⟩,hR⟩:=h
  simp only at hle hl hR
  refine Tr.run_mono _ (fun o ho=>ho) (Box.of_eq (round_vi s k z i _) ?_).out
  by_cases hlt:i<s.l.length
  ·have hw:IntKind.i64.wrap ((i:Int)+1)=((i+1:Nat):Int):=by rw [IntKind.wrap_i64]; omega
   refine sT (decide_eq_true (by omega)) (rowN_of (by omega) (by omega) (kyRows_length s.l).symm ?_)
   rw [Int.toNat_natCast,kyRows_getD hlt,eqK_ky,eqK_ky,toKy_row,hw]
   rw [drop_cons hlt] at hR
   have next:goesK s k (s.l.getD i ky0)=false→∃ b:AV,s_vi s k z ((i+1:Nat):Int)=s_vi b.s b.k b.z b.i∧b.s.l.length - b.i<s.l.length - i∧preV b R:=fun hg=>by
    rw [vany_no hg,vic_no hg] at hR
    exact ⟨⟨s,k,z,i+1⟩,rfl,by simp only; omega,⟨by simp only; omega,hl⟩,hR⟩
   have done:goesK s k (s.l.getD i ky0)=true→R (.ret,e_vi s k (s.l.getD i ky0)):=fun hg=>by
    rw [vany_yes hg,vic_yes hg] at hR
    exact hR
   cases h1:kyEq (s.l.getD i ky0) k with
   | true=>exact sF rfl (next (by unfold goesK; rw [h1]; rfl))
   | false=>
     refine sT rfl ?_
     cases h2:s.pd with
     | false=>exact sF rfl (done (by unfold goesK; rw [h1,h2]; rfl))
     | true=>
       refine sT rfl ?_
       cases h3:kyEq (s.l.getD i ky0) s.pin with
       | true=>exact sF rfl (next (by unfold goesK; rw [h1,h2,h3]; rfl))
       | false=>exact sT rfl (done (by unfold goesK; rw [h1,h2,h3]; rfl))
  ·rw [List.drop_eq_nil_iff.2 (by omega)] at hR
   exact sF (decide_eq_false (by omega)) hR
noncomputable def t_viF:Con:=fun args regs=>if regs.length=3 then nfun Tryz.prog GL (fun _=>Option.none) [(0,[0,3,4,10,11,12],l_vi)] f_vi args regs else .fail
theorem k_viF:Known Tryz.prog GL 205 t_viF:=known_loops 3 Tryz.func205 rfl (by kernel_rfl) mixed con_none (LAll.one (id:=0) (body:=bodyLoop f_vi 0) (by kernel_rfl) rfl loop_vi)
noncomputable def oVi (s:Sto) (x:Ky):Out:=⟨.v (.ag (kyNC x)),(inS s).map some⟩
def mpS (s:Sto):Sto:={s with l:=mpL s.l}
theorem mpS_eq (s:Sto):mpS s=s:=by unfold mpS; rw [mpL_eq]
noncomputable def t_viC:Con:=softT [] [] [] [] 3 t_viF
theorem k_viC:Known Tryz.prog GL 205 t_viC:=k_viF.soft [] [] [] [] 3
theorem vi_tree (s:Sto) (k:Ky) (R:Out→Prop):(t_viC [.c (.p 0 0 0),.ag (kyNC k)] (inS s)).run R =
 ((s_vi s k ky0 0=s_vi (mpS s) k ky0 0∧(mpS s).l.length≤1000000)∧sel ((mpS s).l.any (goesK (mpS s) k)) (R (oVi (mpS s) (vicK (mpS s) k (mpS s).l))) (R (oVi (mpS s) k))):=by kernel_rfl
noncomputable def tVi:Con:=fun args regs=>match args with
 | [.c (.p 0 0 0),.ag [.i .i64 a,.i .i64 b,.i .i64 c]]=>onS regs fun s=>.ret (oVi s (vicK s (a,b,c) s.l))
 | _=>.fail
theorem vic_none {s:Sto} {k:Ky}:∀ {l:List Ky},l.any (goesK s k)=false→vicK s k l=k
 | [],_=>rfl
 | x::l,h=>by
   rw [List.any_cons,Bool.or_eq_false_iff] at h
   rw [vic_no h.1]
   exact vic_none h.2
attribute [local irreducible] t_viC in
theorem kVi:Known Tryz.prog GL 205 tVi:=by
 refine k_viC.less fun args regs R h=>Box.out ?_
 unfold tVi at h
 split at h
 case h_2=>exact h.elim
 rename_i a b c
 obtain ⟨s,rfl,hl,h⟩:=onS_elim h
 refine Box.of_eq (vi_tree s (a,b,c) R) ?_
 rw [mpS_eq]
 refine ⟨⟨rfl,hl⟩,?_⟩
 cases ha:s.l.any (goesK s (a,b,c)) with
 | true=>exact sT rfl h
 | false=>
   have h:R (oVi s (vicK s (a,b,c) s.l)):=h
   rw [vic_none ha] at h
   exact sF rfl h
noncomputable def c_pu:FuncId→Option Con:=conOf [(204,tDr),(205,tVi)]
theorem kc_pu:∀ f T,c_pu f=some T→Known Tryz.prog GL f T:=(Knowns.cons kDr (.cons kVi .nil)).get
noncomputable def t_puF:Con:=fun args regs=>nfun Tryz.prog GL c_pu [] Tryz.f169 args regs
theorem k_puF:KnownF Tryz.prog GL 169 t_puF:=known_inlF Tryz.func169 rfl (by kernel_rfl) mixed kc_pu (by kernel_rfl)
def kyP (p:Pg):Ky:=(p.mg,p.pn,p.sb)
def pgV (p:Pg):NV:=.sg (pgSegs p (.lr K3 p.ex) [] fun q=>[.cells q])
noncomputable def t_puC:Con:=canonT 8 [(0,2,ordReg [])] none t_puF
theorem k_puC:KnownF Tryz.prog GL 169 t_puC:=k_puF.canon 8 [(0,2,ordReg [])] none
def rwP (k:Ky) (d:Sto):List (List Sc):=List.take d.l.length (kyRows d.l)++[kyRow k]
def putP (p:Pg) (d:Sto):Sto:={d with m:=mpSet plSch p.key p.row d.m,l:=(rwP (kyP p) d).map toKy}
noncomputable def rgP (p:Pg) (d:Sto):List Reg:=[stG d (.hz 2 (d.l.length+1)),mpReg (putP p d).m,ordReg (rwP (kyP p) d)]
noncomputable def ouP (p:Pg) (d:Sto):List (Option Reg):=[some (stG d (.hz 8 (d.l.length+1))),some (mpReg (putP p d).m),none,none,none,none,none,none,some (ordReg (rwP (kyP p) d))]
theorem pu_tree (s:Sto) (p:Pg) (R:Out→Prop):(t_puC [.c (.p 0 0 0),.ag (kyNC (kyP p)),pgV p] (inS s)).run R =
 ((inS s=inS (mpS s)∧(mpS s).l.length≤1000000)∧
   sel (decide ((dropS (kyP p) (mpS s)).l.length≤(kyRows (dropS (kyP p) (mpS s)).l).length)) (sel (decide (((dropS (kyP p) (mpS s)).l.length+1) * bytesT Tryz.prog 40≤140737488355328)) (sel (decide ((dropS (kyP p) (mpS s)).l.length+1≤9223372036854775807))
   (sel (decide ((((dropS (kyP p) (mpS s)).l.length+1:Nat):Int)≤(dropS (kyP p) (mpS s)).most))
     (R ⟨.tu [.ag (kyNC ky0),.c (.b false)],ouP p (dropS (kyP p) (mpS s))⟩)
     ((rgP p (dropS (kyP p) (mpS s))=inS (putP p (dropS (kyP p) (mpS s)))∧(putP p (dropS (kyP p) (mpS s))).l.length≤1000000)∧
      (inS (putP p (dropS (kyP p) (mpS s)))=inS (mpS (putP p (dropS (kyP p) (mpS s))))∧(mpS (putP p (dropS (kyP p) (mpS s)))).l.length≤1000000)∧
       R ⟨.tu [.ag (kyNC (vicK (putP p (dropS (kyP p) (mpS s))) (kyP p) (putP p (dropS (kyP p) (mpS s))).l)),.c (.b true)],outS (dropS (vicK (putP p (dropS (kyP p) (mpS s))) (kyP p) (putP p (dropS (kyP p) (mpS s))).l) (mpS (putP p (dropS (kyP p) (mpS s)))))⟩)) False) False) False):=by kernel_rfl
structure Sp where
 most:Int
 pin:Ky
 pd:Bool
 L:List Pg
def ents (L:List Pg):List (List FC × List FC):=L.map fun p=>(p.key,p.row)
def Sp.sto (x:Sp):Sto:=⟨x.most,x.pin,x.pd,ents x.L,x.L.map kyP⟩
noncomputable def inP (x:Sp):List Reg:=inS x.sto
noncomputable def outP (x:Sp):List (Option Reg):=outS x.sto
def ofRow (r:List FC):Pg:=⟨(r.getD 0 (.i 0)).n,(r.getD 1 (.i 0)).n,(r.getD 2 (.i 0)).n,(r.getD 3 (.i 0)).lr,(r.getD 4 (.i 0)).n,(r.getD 5 (.i 0)).li,(r.getD 6 (.i 0)).lr,(r.getD 7 (.i 0)).lr,(r.getD 8 (.i 0)).lr,(r.getD 9 (.i 0)).t,(r.getD 10 (.i 0)).n⟩
def Sp.ok (x:Sp):Prop:=x.L.length≤1000000∧(x.L.map kyP).Nodup
def onP (regs:List Reg) (f:Sp→Tr Out):Tr Out:=
 match rdS regs with
 | some s=>.must (regs=inP ⟨s.most,s.pin,s.pd,s.m.map fun e=>ofRow e.2⟩∧Sp.ok ⟨s.most,s.pin,s.pd,s.m.map fun e=>ofRow e.2⟩) (f ⟨s.most,s.pin,s.pd,s.m.map fun e=>ofRow e.2⟩)
 | none=>.fail
theorem onP_elim {regs:List Reg} {f:Sp→Tr Out} {R:Out→Prop} (h:(onP regs f).run R):∃ x,regs=inP x∧x.ok∧(f x).run R:=by
 unfold onP at h
 split at h
 ·exact ⟨_,h.1.1,h.1.2,h.2⟩
 ·exact h.elim
theorem ents_back (L:List Pg):(ents L).map (fun e=>ofRow e.2)=L:=by
 rw [ents,List.map_map]
 exact List.map_id L
def nk (k:Ky) (p:Pg):Bool:=!kyEq (kyP p) k
def Sp.drop (k:Ky) (x:Sp):Sp:={x with L:=x.L.filter (nk k)}
def Sp.push (p:Pg) (x:Sp):Sp:={x with L:=x.L++[p]}
def Sp.vic (x:Sp) (k:Ky):Ky:=vicK x.sto k (x.L.map kyP)
def Sp.put (p:Pg) (x:Sp):Sp:=
 match decide ((((x.drop (kyP p)).push p).L.length:Int)≤x.most) with
 | true=>(x.drop (kyP p)).push p
 | false=>((x.drop (kyP p)).push p).drop (((x.drop (kyP p)).push p).vic (kyP p))
theorem key_eq (k:Ky) (p:Pg):keyEq plSch (kyFC k) p.key 0=kyEq k (kyP p):=rfl
theorem kyEq_comm (a b:Ky):kyEq a b=kyEq b a:=by
 cases h:kyEq b a with
 | true=>rw [kyEq_iff] at h ⊢; exact h.symm
 | false=>
   cases h2:kyEq a b with
   | false=>rfl
   | true=>rw [kyEq_iff.1 h2] at h; rw [kyEq_iff.2 rfl] at h; cases h
theorem filter_far {k:Ky}:∀ {L:List Pg},k ∉ L.map kyP→L.filter (nk k)=L
 | [],_=>rfl
 | p::L,h=>by
   rw [List.map_cons,List.mem_cons,not_or] at h
   have:nk k p=true:=by
    unfold nk
    cases hk:kyEq (kyP p) k with
    | false=>rfl
    | true=>exact (h.1 (kyEq_iff.1 hk).symm).elim
   rw [List.filter_cons_of_pos this,filter_far h.2]
theorem mpDel_ents {k:Ky}:∀ {L:List Pg},(L.map kyP).Nodup→mpDel plSch (kyFC k) (ents L)=ents (L.filter (nk k))
 | [],_=>rfl
 | p::L,h=>by
   rw [List.map_cons,List.nodup_cons] at h
   show (match keyEq plSch (kyFC k) p.key 0 with | true=>ents L | false=>(p.key,p.row)::mpDel plSch (kyFC k) (ents L))=_
   rw [key_eq,kyEq_comm]
   cases hk:kyEq (kyP p) k with
   | true=>
     rw [List.filter_cons_of_neg (by unfold nk; rw [hk]; decide),filter_far (by rw [← kyEq_iff.1 hk]; exact h.1)]
   | false=>
     rw [List.filter_cons_of_pos (by unfold nk; rw [hk]; rfl)]
     show (p.key,p.row)::mpDel plSch (kyFC k) (ents L)=_
     rw [mpDel_ents h.2]
     rfl
theorem mpSet_ents {p:Pg}:∀ {L:List Pg},kyP p ∉ L.map kyP→mpSet plSch p.key p.row (ents L)=ents (L++[p])
 | [],_=>rfl
 | q::L,h=>by
   rw [List.map_cons,List.mem_cons,not_or] at h
   show (match keyEq plSch (kyFC (kyP p)) q.key 0 with | true=>(p.key,p.row)::ents L | false=>(q.key,q.row)::mpSet plSch p.key p.row (ents L))=_
   rw [key_eq]
   cases hk:kyEq (kyP p) (kyP q) with
   | true=>exact (h.1 (kyEq_iff.1 hk)).elim
   | false=>
     show (q.key,q.row)::mpSet plSch p.key p.row (ents L)=_
     rw [mpSet_ents h.2]
     rfl
theorem drop_sto {x:Sp} (k:Ky) (h:(x.L.map kyP).Nodup):dropS k x.sto=(x.drop k).sto:=by
 have e1:mpDel plSch (kyFC k) (ents x.L)=ents (x.L.filter (nk k)):=mpDel_ents h
 have e2:dropK k (x.L.map kyP)=(x.L.filter (nk k)).map kyP:=by unfold dropK; rw [List.filter_map]; rfl
 unfold dropS Sp.sto Sp.drop
 simp only [e1,e2]
theorem drop_nodup {x:Sp} (k:Ky) (h:(x.L.map kyP).Nodup):((x.drop k).L.map kyP).Nodup:=h.sublist (List.filter_sublist.map kyP)
theorem drop_not {x:Sp} (k:Ky):k ∉ (x.drop k).L.map kyP:=by
 intro h
 obtain ⟨p,hp,rfl⟩:=List.mem_map.1 h
 have:=(List.mem_filter.1 hp).2
 unfold nk at this
 rw [kyEq_iff.2 rfl] at this
 cases this
theorem push_nodup {x:Sp} {p:Pg} (h:(x.L.map kyP).Nodup) (hn:kyP p ∉ x.L.map kyP):((x.push p).L.map kyP).Nodup:=by
 show ((x.L++[p]).map kyP).Nodup
 rw [List.map_append,List.nodup_append]
 refine ⟨h,by simp,fun a ha b hb=>?_⟩
 rw [List.map_singleton,List.mem_singleton] at hb
 subst hb
 exact fun e=>hn (e ▸ ha)
theorem rwP_sto (k:Ky) (x:Sp):rwP k x.sto=kyRows (x.L.map kyP++[k]):=by
 unfold rwP
 have:x.sto.l=x.L.map kyP:=rfl
 rw [this]
 have hl:=kyRows_length (x.L.map kyP)
 rw [← hl,List.take_length]
 unfold kyRows
 rw [List.map_append]
 rfl
theorem putP_sto {x:Sp} {p:Pg} (hn:kyP p ∉ x.L.map kyP):putP p x.sto=(x.push p).sto:=by
 have e1:mpSet plSch p.key p.row (ents x.L)=ents (x.L++[p]):=mpSet_ents hn
 have e2:(rwP (kyP p) x.sto).map toKy=(x.L++[p]).map kyP:=by rw [rwP_sto,toKy_map,List.map_append]; rfl
 unfold putP
 rw [e2]
 show ({x.sto with m:=mpSet plSch p.key p.row (ents x.L),l:=(x.L++[p]).map kyP}:Sto)=_
 rw [e1]
 rfl
theorem put_nodup {x:Sp} {p:Pg} (h:(x.L.map kyP).Nodup):((x.put p).L.map kyP).Nodup:=by
 have h2:=push_nodup (drop_nodup (kyP p) h) (drop_not (x:=x) (kyP p))
 unfold Sp.put
 split
 ·exact h2
 ·exact drop_nodup _ h2
theorem drop_len (x:Sp) (k:Ky):(x.drop k).L.length≤x.L.length:=List.length_filter_le _ _
def Sp.gone (p:Pg) (x:Sp):Ky × Bool:=
 match decide ((((x.drop (kyP p)).push p).L.length:Int)≤x.most) with
 | true=>(ky0,false)
 | false=>(((x.drop (kyP p)).push p).vic (kyP p),true)
def rdPg:NV→Option Pg
 | .sg [.cells [.i _ mg,.i _ pn,.i _ sb],.recs _ _ c,.cells [.i _ op],.ints _ _ rows,.recs _ _ th,.cells [.lr _ ex],.recs _ _ lk,.cells [.b ld,.i _ df]]=>some ⟨mg,pn,sb,c,op,rows,th,ex,lk,ld,df⟩
 | _=>none
noncomputable def oPu (p:Pg) (x:Sp):Out:=⟨.tu [.ag (kyNC (x.gone p).1),.c (.b (x.gone p).2)],outP (x.put p)⟩
noncomputable def tPu:Con:=fun args regs=>match args with
 | [_,_,v]=>(match rdPg v with
   | some p=>.must (args=[.c (.p 0 0 0),.ag (kyNC (kyP p)),pgV p]) (onP regs fun x=>.must (x.L.length<1000000) (.ret (oPu p x)))
   | none=>.fail)
 | _=>.fail
theorem bytes3:bytesT Tryz.prog 40=24:=by kernel_rfl
theorem pu_in {x:Sp} {p:Pg} {R:Out→Prop} (hx:x.ok) (hl:x.L.length<1000000) (h:R (oPu p x)):Box ((t_puC [.c (.p 0 0 0),.ag (kyNC (kyP p)),pgV p] (inP x)).run R):=by
 refine Box.of_eq (pu_tree x.sto p R) ?_
 have hm:mpS x.sto=x.sto:=mpS_eq _
 have hd:=drop_sto (kyP p) hx.2
 rw [hm,hd]
 have hn:=drop_not (x:=x) (kyP p)
 have hp:putP p (x.drop (kyP p)).sto=((x.drop (kyP p)).push p).sto:=putP_sto hn
 have hnd:=push_nodup (drop_nodup (kyP p) hx.2) hn
 have hlen:(x.drop (kyP p)).sto.l.length=(x.drop (kyP p)).L.length:=List.length_map ..
 have hle:=drop_len x (kyP p)
 have hpl:((x.drop (kyP p)).push p).L.length=(x.drop (kyP p)).L.length+1:=by show ((x.drop (kyP p)).L++[p]).length=_; rw [List.length_append]; rfl
 have hrw:rwP (kyP p) (x.drop (kyP p)).sto=kyRows (((x.drop (kyP p)).push p).L.map kyP):=by
  rw [rwP_sto]
  show _=kyRows (((x.drop (kyP p)).L++[p]).map kyP)
  rw [List.map_append]
  rfl
 have hrg:rgP p (x.drop (kyP p)).sto=inS ((x.drop (kyP p)).push p).sto:=by
  unfold rgP inS
  rw [hp,hrw,hlen,← hpl]
  show [stG (x.drop (kyP p)).sto _,_,_]=[stG ((x.drop (kyP p)).push p).sto (.hz 2 (((x.drop (kyP p)).push p).L.map kyP).length),_,_]
  rw [List.length_map]
  rfl
 have hou:ouP p (x.drop (kyP p)).sto=outP ((x.drop (kyP p)).push p):=by
  unfold ouP outP outS
  rw [hp,hrw,hlen,← hpl]
  show [some (stG (x.drop (kyP p)).sto _),_,_,_,_,_,_,_,_]=[some (stG ((x.drop (kyP p)).push p).sto (.hz 8 (((x.drop (kyP p)).push p).L.map kyP).length)),_,_,_,_,_,_,_,_]
  rw [List.length_map]
  rfl
 have hb:=bytes3
 refine ⟨⟨rfl,by rw [show x.sto.l.length=x.L.length from List.length_map ..]; exact hx.1⟩,sT (decide_eq_true (by rw [kyRows_length]; exact Nat.le_refl _)) (sT (decide_eq_true (by rw [hb,hlen]; omega)) (sT (decide_eq_true (by rw [hlen]; omega)) ?_))⟩
 unfold oPu Sp.gone Sp.put at h
 by_cases hc:(((x.drop (kyP p)).push p).L.length:Int)≤x.most
 ·rw [decide_eq_true hc] at h
  refine sT (decide_eq_true (by rw [hlen,← hpl]; exact hc)) ?_
  rw [hou]
  exact h
 ·rw [decide_eq_false hc] at h
  refine sF (decide_eq_false (by rw [hlen,← hpl]; exact hc)) ?_
  rw [hrg,hp,mpS_eq]
  have hll:((x.drop (kyP p)).push p).sto.l.length≤1000000:=by
   show (((x.drop (kyP p)).push p).L.map kyP).length≤_
   rw [List.length_map]
   omega
  refine ⟨⟨rfl,hll⟩,⟨rfl,hll⟩,?_⟩
  have e:=drop_sto (x:=(x.drop (kyP p)).push p) (((x.drop (kyP p)).push p).vic (kyP p)) hnd
  have h:R ⟨.tu [.ag (kyNC (((x.drop (kyP p)).push p).vic (kyP p))),.c (.b true)],outS (((x.drop (kyP p)).push p).drop (((x.drop (kyP p)).push p).vic (kyP p))).sto⟩:=h
  rw [← e] at h
  exact h
attribute [local irreducible] t_puC in
theorem kPu:KnownF Tryz.prog GL 169 tPu:=by
 refine k_puC.less fun args regs R h=>Box.out ?_
 unfold tPu at h
 split at h
 case h_2=>exact h.elim
 split at h
 case h_2=>exact h.elim
 rename_i p hp
 have ha:=h.1
 obtain ⟨x,rfl,hx,h⟩:=onP_elim h.2
 rw [ha]
 exact pu_in hx h.1 h.2
noncomputable def t_geC:Con:=softT [] [] [(0,5,0,.lr K3 [])] [] 3 t_stGet
theorem k_geC:Known Tryz.prog GL 79 t_geC:=k_stGet.soft [] [] [(0,5,0,.lr K3 [])] [] 3
theorem ge_tree (s:Sto) (k:Ky) (R:Out→Prop):(t_geC [.c (.p 0 0 0),.ag (kyNC k)] (inS s)).run R =
 sel (mpHas plSch (kyFC k) s.m) (R ⟨.tu [pgV (ofRow (mpGet plSch (kyFC k) s.m)),.c (.b true)],(inS s).map some⟩) (R ⟨.tu [pgV pgZ,.c (.b false)],(inS s).map some⟩):=by kernel_rfl
def Sp.get (k:Ky) (x:Sp):Pg × Bool:=match x.L.find? (fun p=>kyEq k (kyP p)) with
 | some p=>(p,true)
 | none=>(pgZ,false)
noncomputable def tGe:Con:=fun args regs=>match args with
 | [.c (.p 0 0 0),.ag [.i .i64 a,.i .i64 b,.i .i64 c]]=>onP regs fun x=>.ret ⟨.tu [pgV (x.get (a,b,c)).1,.c (.b (x.get (a,b,c)).2)],(inP x).map some⟩
 | _=>.fail
theorem mp_find (k:Ky):∀ L:List Pg,match L.find? (fun p=>kyEq k (kyP p)) with
  | some p=>mpHas plSch (kyFC k) (ents L)=true∧ofRow (mpGet plSch (kyFC k) (ents L))=p
  | none=>mpHas plSch (kyFC k) (ents L)=false
 | []=>rfl
 | q::L=>by
   have ih:=mp_find k L
   have e1:mpHas plSch (kyFC k) (ents (q::L))=(kyEq k (kyP q)||mpHas plSch (kyFC k) (ents L)):=rfl
   have e2:mpGet plSch (kyFC k) (ents (q::L))=match kyEq k (kyP q) with | true=>q.row | false=>mpGet plSch (kyFC k) (ents L):=by
    unfold mpGet ents
    rw [List.map_cons,List.find?_cons]
    show (match (match kyEq k (kyP q) with | true=>some (q.key,q.row) | false=>_) with | some x=>x.2 | none=>[])=_
    cases kyEq k (kyP q) <;> rfl
   rw [List.find?_cons,e1,e2]
   cases hk:kyEq k (kyP q) with
   | true=>exact ⟨rfl,rfl⟩
   | false=>
     simp only [Bool.false_or]
     exact ih
attribute [local irreducible] t_geC in
theorem kGe:Known Tryz.prog GL 79 tGe:=by
 refine k_geC.less fun args regs R h=>Box.out ?_
 unfold tGe at h
 split at h
 case h_2=>exact h.elim
 rename_i a b c
 obtain ⟨x,rfl,hx,h⟩:=onP_elim h
 refine Box.of_eq (ge_tree x.sto (a,b,c) R) ?_
 have hf:=mp_find (a,b,c) x.L
 have h:R ⟨.tu [pgV (x.get (a,b,c)).1,.c (.b (x.get (a,b,c)).2)],(inP x).map some⟩:=h
 unfold Sp.get at h
 cases hq:x.L.find? (fun p=>kyEq (a,b,c) (kyP p)) with
 | some p=>
   rw [hq] at h hf
   have hf:=hf
   refine sT hf.1 ?_
   rw [show ofRow (mpGet plSch (kyFC (a,b,c)) x.sto.m)=p from hf.2]
   exact h
 | none=>
   rw [hq] at h hf
   exact sF hf h
noncomputable def tPin:Con:=fun args regs=>match args with
 | [.c (.p 0 0 0),.ag [.i .i64 a,.i .i64 b,.i .i64 c]]=>onP regs fun x=>.ret ⟨.tu [],(inP {x with pin:=(a,b,c),pd:=true}).map some⟩
 | _=>.fail
theorem pin_tree (s:Sto) (k:Ky) (R:Out→Prop):(t_stPin [.c (.p 0 0 0),.ag (kyNC k)] (inS s)).run R=R ⟨.tu [],(inS {s with pin:=k,pd:=true}).map some⟩:=by kernel_rfl
theorem kPin:Known Tryz.prog GL 135 tPin:=by
 refine k_stPin.less fun args regs R h=>Box.out ?_
 unfold tPin at h
 split at h
 case h_2=>exact h.elim
 rename_i a b c
 obtain ⟨x,rfl,hx,h⟩:=onP_elim h
 exact Box.of_eq (pin_tree x.sto (a,b,c) R) h
noncomputable def tFree:Con:=fun args regs=>match args with
 | [.c (.p 0 0 0)]=>onP regs fun x=>.ret ⟨.tu [],(inP {x with pd:=false}).map some⟩
 | _=>.fail
theorem free_tree (s:Sto) (R:Out→Prop):(t_stFree [.c (.p 0 0 0)] (inS s)).run R=R ⟨.tu [],(inS {s with pd:=false}).map some⟩:=by kernel_rfl
theorem kFree:Known Tryz.prog GL 101 tFree:=by
 refine k_stFree.less fun args regs R h=>Box.out ?_
 unfold tFree at h
 split at h
 case h_2=>exact h.elim
 obtain ⟨x,rfl,hx,h⟩:=onP_elim h
 exact Box.of_eq (free_tree x.sto R) h
theorem k_clT:KnownF Tryz.prog GL 136 (fun args regs=>nfun Tryz.prog GL (fun _=>Option.none) [] Tryz.f136 args regs):=known_inlF Tryz.func136 rfl (by kernel_rfl) mixed con_none (by kernel_rfl)
noncomputable def t_clT:Con:=softT [] [0] [(0,0,0,.lr K3 [])] [] 0 (fun args regs=>nfun Tryz.prog GL (fun _=>Option.none) [] Tryz.f136 args regs)
theorem kt_clT:Known Tryz.prog GL 136 t_clT:=k_clT.soft [] [0] [(0,0,0,.lr K3 [])] [] 0
theorem clT_tree (xs:List (List Sc)) (R:Out→Prop):(t_clT [.c (.lr K3 xs)] []).run R =
 sel xs.isEmpty (∀ y:Bool,True→sel y (R ⟨.v (.c (.lr K3 [])),[]⟩) (sel (decide ((0+xs.length) * bytesT Tryz.prog 112≤140737488355328)) (sel (decide (0+xs.length≤9223372036854775807)) (0+xs.length=xs.length∧R ⟨.v (.c (.lr K3 xs)),[]⟩) False) False))
  (sel (decide ((0+xs.length) * bytesT Tryz.prog 112≤140737488355328)) (sel (decide (0+xs.length≤9223372036854775807)) (0+xs.length=xs.length∧R ⟨.v (.c (.lr K3 xs)),[]⟩) False) False):=by kernel_rfl
theorem bytesB:bytesT Tryz.prog 5=1:=by kernel_rfl
theorem bytesTr:bytesT Tryz.prog 112=24:=by kernel_rfl
noncomputable def tclTV:Con:=fun args regs=>match args,regs with
 | [.c (.lr _ xs)],[]=>.must (args=[.c (.lr K3 xs)]∧xs.length≤1000000) (.ret ⟨.v (.c (.lr K3 xs)),[]⟩)
 | _,_=>.fail
theorem kclTV:Known Tryz.prog GL 136 tclTV:=by
 refine kt_clT.less fun args regs R h=>Box.out ?_
 unfold tclTV at h
 split at h
 case h_2=>exact h.elim
 rename_i xs
 obtain ⟨⟨h1,hl⟩,h⟩:=h
 rw [h1]
 refine Box.of_eq (clT_tree xs R) ?_
 have hb:=bytesTr
 have key:sel (decide ((0+xs.length) * bytesT Tryz.prog _≤140737488355328)) (sel (decide (0+xs.length≤9223372036854775807)) (0+xs.length=xs.length∧R ⟨.v (.c (.lr K3 xs)),[]⟩) False) False:=sT (decide_eq_true (by rw [hb]; omega)) (sT (decide_eq_true (by omega)) ⟨by omega,h⟩)
 cases hx:xs.isEmpty with
 | false=>exact sF rfl key
 | true=>
   refine sT rfl fun y _=>?_
   have e:xs=[]:=List.isEmpty_iff.1 hx
   subst e
   cases y with
   | true=>exact sT rfl h
   | false=>exact sF rfl key
theorem k_clP:KnownF Tryz.prog GL 72 (fun args regs=>nfun Tryz.prog GL (fun _=>Option.none) [] Tryz.f72 args regs):=known_inlF Tryz.func72 rfl (by kernel_rfl) mixed con_none (by kernel_rfl)
noncomputable def t_clP:Con:=canonT 1 [] (some (ordReg [])) (fun args regs=>nfun Tryz.prog GL (fun _=>Option.none) [] Tryz.f72 args regs)
theorem kt_clP:KnownF Tryz.prog GL 72 t_clP:=k_clP.canon 1 [] (some (ordReg []))
def oRw (xs:List (List Sc)) (n:Nat):Out:=⟨.v (.c (.hz 1 n)),[none,some (ordReg xs)]⟩
noncomputable def clPm (xs:List (List Sc)) (R:Out→Prop):Prop:=sel (decide ((0+xs.length) * bytesT Tryz.prog 40≤140737488355328)) (sel (decide (0+xs.length≤9223372036854775807)) (R (oRw xs (0+xs.length))) False) False
theorem clP_tree (xs:List (List Sc)) (R:Out→Prop):(t_clP [.c (.lr K3 xs)] []).run R =
 sel xs.isEmpty (∀ y:Bool,True→sel y (R (oRw [] 0)) (clPm xs R)) (clPm xs R):=by kernel_rfl
noncomputable def tClP:Con:=fun args regs=>match args,regs with
 | [.c (.lr _ xs)],[]=>.must (args=[.c (.lr K3 xs)]∧xs.length≤1000000) (.ret (oRw xs xs.length))
 | _,_=>.fail
theorem kClP:KnownF Tryz.prog GL 72 tClP:=by
 refine kt_clP.less fun args regs R h=>Box.out ?_
 unfold tClP at h
 split at h
 case h_2=>exact h.elim
 rename_i xs
 obtain ⟨⟨h1,hl⟩,h⟩:=h
 rw [h1]
 refine Box.of_eq (clP_tree xs R) ?_
 have hb:=bytes3
 have key:clPm xs R:=sT (decide_eq_true (by rw [hb]; omega)) (sT (decide_eq_true (by omega)) (by rw [Nat.zero_add]; exact h))
 cases hx:xs.isEmpty with
 | false=>exact sF rfl key
 | true=>
   refine sT rfl fun y _=>?_
   have e:xs=[]:=List.isEmpty_iff.1 hx
   subst e
   cases y with
   | true=>exact sT rfl h
   | false=>exact sF rfl key
theorem k_keF:KnownF Tryz.prog GL 33 (fun args regs=>nfun Tryz.prog GL (conOf [(72,tClP)]) [] Tryz.f33 args regs):=known_inlF Tryz.func33 rfl (by kernel_rfl) mixed (Knowns.cons kClP.known .nil).get (by kernel_rfl)
noncomputable def t_keC:Con:=canonT 4 [] (some (ordReg [])) (fun args regs=>nfun Tryz.prog GL (conOf [(72,tClP)]) [] Tryz.f33 args regs)
theorem k_keC:KnownF Tryz.prog GL 33 t_keC:=k_keF.canon 4 [] (some (ordReg []))
noncomputable def oKe (s:Sto) (xs:List (List Sc)) (n:Nat):Out:=⟨.v (.c (.hz 4 n)),(inS s).map some++[none,some (ordReg xs)]⟩
theorem ke_tree (s:Sto) (R:Out→Prop):(t_keC [.c (.p 0 0 0)] (inS s)).run R =
 sel (decide (s.l.length≤(kyRows s.l).length)) (([NV.c (.lr K3 (List.take s.l.length (kyRows s.l)))]=[NV.c (.lr K3 (List.take s.l.length (kyRows s.l)))]∧(List.take s.l.length (kyRows s.l)).length≤1000000)∧
  R (oKe s (List.take s.l.length (kyRows s.l)) (List.take s.l.length (kyRows s.l)).length)) False:=by kernel_rfl
noncomputable def tKe:Con:=fun args regs=>match args with
 | [.c (.p 0 0 0)]=>onP regs fun x=>.ret (oKe x.sto (kyRows (x.L.map kyP)) x.L.length)
 | _=>.fail
theorem kKe:KnownF Tryz.prog GL 33 tKe:=by
 refine k_keC.less fun args regs R h=>Box.out ?_
 unfold tKe at h
 split at h
 case h_2=>exact h.elim
 obtain ⟨x,rfl,hx,h⟩:=onP_elim h
 refine Box.of_eq (ke_tree x.sto R) ?_
 have hl:x.sto.l=x.L.map kyP:=rfl
 have e1:List.take x.sto.l.length (kyRows x.sto.l)=kyRows (x.L.map kyP):=by rw [hl,← kyRows_length,List.take_length]
 rw [e1]
 have e2:(kyRows (x.L.map kyP)).length=x.L.length:=by rw [kyRows_length,List.length_map]
 rw [e2]
 exact sT (decide_eq_true (by rw [kyRows_length]; exact Nat.le_refl _)) ⟨⟨rfl,hx.1⟩,h⟩
end sto
end Go.Proofs.YtbmpbafemefepaaGreatDoor
namespace Go.Nx
open Go
theorem LAll.three {X:Cx} {c:Code} {i1 i2 i3:Nat} {b1 b2 b3:Code} {l1 l2 l3:List Nat} {L1 L2 L3:St→Tr (NExit × St)} (hl:loopsIn c=[(i1,b1),(i2,b2),(i3,b3)]) (hx:X.loops=[(i1,l1,L1),(i2,l2,L2),(i3,l3,L3)]) (hne:i1≠i2∧i1≠i3∧i2≠i3)
  (h1:LOk X.P X.glob X.m i1 b1 L1) (h2:LOk X.P X.glob X.m i2 b2 L2) (h3:LOk X.P X.glob X.m i3 b3 L3) (hr:rangesIn c=[]:=by kernel_rfl):LAll X c:=
 LAll.list hl (hr:=hr) fun p hp x hf=>by
  rw [hx] at hf
  simp only [List.mem_cons,List.not_mem_nil,or_false] at hp
  rcases hp with rfl | rfl | rfl
  ·simp at hf; subst hf; exact h1
  ·simp [hne.1] at hf; subst hf; exact h2
  ·simp [hne.2.1,hne.2.2] at hf; subst hf; exact h3
end Go.Nx
namespace Go.Proofs.YtbmpbafemefepaaGreatDoor
namespace hd
open Go Go.Nx
def mapF (g:Nat→Int→Int) (i:Nat):Nat→List Int→List Int
 | _,[]=>[]
 | k,x::xs=>(bif Nat.blt k i then x else g k x)::mapF g i (k+1) xs
theorem blt_t {k i:Nat} (h:k<i):Nat.blt k i=true:=by rw [Nat.blt_eq]; exact h
theorem blt_f {k i:Nat} (h:¬ k<i):Nat.blt k i=false:=by rw [← Bool.not_eq_true,Nat.blt_eq]; exact h
theorem mapF_over (g:Nat→Int→Int) (i i2:Nat):∀ (k:Nat) (xs:List Int),i≤k→i2≤k→mapF g i k xs=mapF g i2 k xs
 | _,[],_,_=>rfl
 | k,x::xs,h,h2=>by
   show (bif Nat.blt k i then _ else _)::_=(bif Nat.blt k i2 then _ else _)::_
   rw [mapF_over g i i2 (k+1) xs (by omega) (by omega),blt_f (by omega),blt_f (by omega)]
theorem mapF_set (g:Nat→Int→Int) (i:Nat) (y:Int):∀ (k:Nat) (xs:List Int) (j:Nat),k+j=i→j<xs.length→y=g i (xs.getD j 0)→mapF g (i+1) k (xs.set j y)=mapF g i k xs
 | _,[],_,_,h,_=>by simp at h
 | k,x::xs,0,h,_,hy=>by
   have e:k=i:=by omega
   subst e
   have hy:y=g k x:=hy
   show (bif Nat.blt k (k+1) then y else _)::mapF g (k+1) (k+1) xs=(bif Nat.blt k k then _ else g k x)::mapF g k (k+1) xs
   rw [blt_t (by omega),blt_f (by omega),mapF_over g (k+1) k (k+1) xs (by omega) (by omega),hy]
   rfl
 | k,x::xs,j+1,h,hl,hy=>by
   have h1:=mapF_set g i y (k+1) xs j (by omega) (by simpa using hl) (by simpa using hy)
   show (bif Nat.blt k (i+1) then x else _)::mapF g (i+1) (k+1) (xs.set j y)=(bif Nat.blt k i then x else _)::_
   rw [h1,blt_t (by omega),blt_t (by omega)]
theorem mapF_length (g:Nat→Int→Int) (i:Nat):∀ (k:Nat) (xs:List Int),(mapF g i k xs).length=xs.length
 | _,[]=>rfl
 | k,x::xs=>by show (mapF g i (k+1) xs).length+1=_; rw [mapF_length g i (k+1) xs]; rfl
end hd
namespace pge
open Go Go.Nx pk ac sto hd
def isOd (b:Int):Bool:=pcTo b.toNat 8 % 2==1
theorem odd_tree (b:Int) (R:Out→Prop):(t_podd [.c (.i .u8 b)] []).run R=sel (decide (0≤b)) (sel (decide (b<(tab.size:Int))) (R ⟨.v (.c (.b ((IntKind.i64.wrap (byteAt tab b.toNat)).tmod 2==1))),[]⟩) False) False:=by kernel_rfl
theorem tab_odd:∀ n<256,((IntKind.i64.wrap (byteAt tab n)).tmod 2==1)=isOd (Int.ofNat n):=by decide +kernel
noncomputable def tOd:Con:=fun args regs=>match args,regs with
 | [.c (.i _ b)],[]=>.must (args=[.c (.i .u8 b)]∧0≤b∧b<256) (.ret ⟨.v (.c (.b (isOd b))),[]⟩)
 | _,_=>.fail
theorem kOd:Known Tryz.prog GL 141 tOd:=by
 refine (known_gl k_podd).less fun args regs R h=>Box.out ?_
 unfold tOd at h
 split at h
 case h_2=>exact h.elim
 rename_i b
 obtain ⟨⟨h0,h1⟩,h2⟩:=h
 rw [h0]
 refine Box.of_eq (odd_tree b R) (selT (dT h1.1) (selT (dT (by rw [tab_size]; exact h1.2)) ?_))
 obtain ⟨n,hn,rfl⟩:=byte_nat h1
 rw [show (Int.ofNat n).toNat=n from rfl,tab_odd n hn]
 exact h2
noncomputable abbrev f_mg:=Tryz.f172
noncomputable def c_mg:FuncId→Option Con:=conOf [(141,tOd)]
theorem kc_mg:∀ f T,c_mg f=some T→Known Tryz.prog GL f T:=(Knowns.cons kOd .nil).get
noncomputable def X_mg:Cx:={P:=Tryz.prog,con:=c_mg,glob:=GL,m:=0,loops:=[]}
def a40 (xs:List Int):Reg:=⟨40,83,.sg [.ints .u8 40 xs]⟩
noncomputable def s_mg (ds:List Int) (had:Bool) (old z out:List Int) (i:Int):St:={fr:=frame 39 [(1,.v (.c (.l .u8 ds))),(2,.v (.c (.b had))),(3,.v (.c (.p 0 0 0))),(6,.v (.c (.p 1 0 0))),(7,.v (.c (.p 2 0 0))),(10,.v (.c (.i .i64 i)))],rg:=[some (a40 old),some (a40 z),some (a40 out)]}
noncomputable def ixq (i:Int):Nat:=addJ 0 (mulQ i.toNat (sizeT Tryz.prog 5))
theorem sz8:sizeT Tryz.prog 5=1:=by kernel_rfl
theorem ixq_eq (i:Int):ixq i=i.toNat:=by
 unfold ixq
 rw [sz8]
 simp [addJ,mulQ]
noncomputable def chkI (i:Int) (N:Prop):Prop:=sel (decide (0≤i)) (sel (decide (i<((40:Nat):Int))) (sel (decide (ixq i<40)) N False) False) False
theorem chkI_of {i:Int} {N:Prop} (h0:0≤i) (h1:i<40) (h:N):chkI i N:=by
 unfold chkI
 rw [ixq_eq]
 exact sT (decide_eq_true h0) (sT (decide_eq_true (by omega)) (sT (decide_eq_true (by omega)) h))
noncomputable def nx_mg (ds:List Int) (had:Bool) (old z out:List Int) (i:Int) (y:Int) (R:RO→Prop):Prop:=R (.next (s_mg ds had old z (out.set (ixq i) y) (IntKind.i64.wrap (i+1))))
noncomputable def or_mg (ds:List Int) (had:Bool) (old z out:List Int) (i:Int) (R:RO→Prop):Prop:=sel had (chkI i (chkI i (nx_mg ds had old z out i (old.getD (ixq i) 0) R))) (chkI i (nx_mg ds had old z out i 32 R))
noncomputable def e_mg (z out:List Int):St:={fr:=frame 39 [(6,.v (.c (.p 0 0 0))),(7,.v (.c (.p 1 0 0)))],rg:=[some (a40 z),some (a40 out)]}
theorem round_mg (ds:List Int) (had:Bool) (old z out:List Int) (i:Int) (R:RO→Prop):(roundT X_mg 0 [1,2,3,6,7,10] [6,7] (bodyLoop f_mg 0) (s_mg ds had old z out i)).run R =
 sel (decide (i<40)) (sel (decide (i<(ds.length:Int))) (sel (decide (0≤i)) (sel (decide (i<(ds.length:Int))) (sel (decide (i.toNat<ds.length))
  (([NV.c (.i .u8 (ds.getD i.toNat 0))]=[NV.c (.i .u8 (ds.getD i.toNat 0))]∧0≤ds.getD i.toNat 0∧ds.getD i.toNat 0<256)∧sel (isOd (ds.getD i.toNat 0)) (chkI i (nx_mg ds had old z out i (bits .and .u8 (ds.getD i.toNat 0) 127) R)) (or_mg ds had old z out i R)) False) False) False)
  (([NV.c (.i .u8 0)]=[NV.c (.i .u8 0)]∧(0:Int)≤0∧(0:Int)<256)∧or_mg ds had old z out i R))
 (R (.done .normal (e_mg z out))):=by kernel_rfl
noncomputable def mgB (old ds:List Int) (had:Bool) (k:Nat):Int:=
 match decide (k<ds.length)&&isOd (ds.getD k 0) with
 | true=>bits .and .u8 (ds.getD k 0) 127
 | false=>match had with
   | true=>old.getD k 0
   | false=>32
theorem mapF_stop (g:Nat→Int→Int) (i:Nat):∀ (k:Nat) (xs:List Int),k+xs.length≤i→mapF g i k xs=xs
 | _,[],_=>rfl
 | k,x::xs,h=>by
   have h:k+(xs.length+1)≤i:=h
   show (bif Nat.blt k i then x else _)::_=_
   rw [mapF_stop g i (k+1) xs (by omega),blt_t (by omega)]
   rfl
structure AM where
 ds:List Int
 had:Bool
 old:List Int
 z:List Int
 out:List Int
 i:Nat
noncomputable def gMg (old ds:List Int) (had:Bool) (k:Nat) (_:Int):Int:=mgB old ds had k
def preM (x:AM) (R:NExit × St→Prop):Prop:=(x.i≤40∧x.out.length=40∧∀ b∈x.ds,0≤b∧b<256)∧R (.normal,e_mg x.z (mapF (gMg x.old x.ds x.had) x.i 0 x.out))
def rdM (s:St):Option (List Int × Bool × List Int × List Int × List Int):=match s.fr[(1:Nat)]?,s.fr[(2:Nat)]?,s.rg with
 | some (.v (.c (.l _ ds))),some (.v (.c (.b had))),[some ⟨_,_,.sg [.ints _ _ old]⟩,some ⟨_,_,.sg [.ints _ _ z]⟩,some ⟨_,_,.sg [.ints _ _ out]⟩]=>some (ds,had,old,z,out)
 | _,_,_=>none
noncomputable def l_mg (s:St):Tr (NExit × St):=match rdM s with
 | some (ds,had,old,z,out)=>.must (s=s_mg ds had old z out 0∧out.length=40∧∀ b∈ds,0≤b∧b<256) (.ret (.normal,e_mg z (mapF (gMg old ds had) 0 0 out)))
 | none=>.fail
theorem getD_mem {ds:List Int} {k:Nat} (h:k<ds.length):ds.getD k 0∈ds:=by
 rw [List.getD_eq_getElem?_getD,List.getElem?_eq_getElem h]
 exact List.getElem_mem h
attribute [local irreducible] roundT in
theorem loop_mg:LOk Tryz.prog GL 0 0 (bodyLoop f_mg 0) l_mg:=by
 refine loop_ok (X:=X_mg) kc_mg mixed (LAll.none (by kernel_rfl)) [1,2,3,6,7,10] [6,7] (fun x:AM=>s_mg x.ds x.had x.old x.z x.out x.i) (fun x=>40 - x.i) preM ?_ ?_
 ·intro s R h
  unfold l_mg at h
  split at h
  case h_2=>exact h.elim
  rename_i ds had old z out hrd
  obtain ⟨⟨hs,h1,h2⟩,hR⟩:=h
  exact ⟨⟨ds,had,old,z,out,0⟩,hs,⟨Nat.zero_le _,h1,h2⟩,hR⟩
 ·intro x R h
  obtain ⟨ds,had,old,z,out,i⟩:=x
  obtain ⟨⟨hle,hl,hb⟩,hR⟩:=h
  simp only at hle hl hb hR
  refine Tr.run_mono _ (fun o ho=>ho) (Box.of_eq (round_mg ds had old z out i _) ?_).out
  by_cases hlt:i<40
  ·have hw:IntKind.i64.wrap ((i:Int)+1)=((i+1:Nat):Int):=by rw [IntKind.wrap_i64]; omega
   have next:∀ y,y=mgB old ds had i→chkI i (nx_mg ds had old z out i y fun o=>match o with
     | .next s=>∃ b:AM,s=s_mg b.ds b.had b.old b.z b.out b.i∧40 - b.i<40 - i∧preM b R
     | .done e s=>R (e,s)):=fun y hy=>by
    refine chkI_of (by omega) (by omega) ?_
    unfold nx_mg
    rw [hw,ixq_eq,Int.toNat_natCast]
    refine ⟨⟨ds,had,old,z,out.set i y,i+1⟩,rfl,by simp only; omega,⟨by simp only; omega,by simp only [List.length_set]; exact hl,hb⟩,?_⟩
    simp only
    rw [mapF_set (gMg old ds had) i y 0 out i (by omega) (by omega) hy]
    exact hR
   have other:(decide (i<ds.length)&&isOd (ds.getD i 0))=false→or_mg ds had old z out i fun o=>match o with
     | .next s=>∃ b:AM,s=s_mg b.ds b.had b.old b.z b.out b.i∧40 - b.i<40 - i∧preM b R
     | .done e s=>R (e,s):=fun hn=>by
    unfold or_mg
    cases had with
    | true=>
      refine sT rfl (chkI_of (by omega) (by omega) (next _ ?_))
      rw [ixq_eq,Int.toNat_natCast]
      unfold mgB
      rw [hn]
    | false=>
      refine sF rfl (next _ ?_)
      unfold mgB
      rw [hn]
   refine sT (decide_eq_true (by omega)) ?_
   by_cases hd:i<ds.length
   ·refine sT (decide_eq_true (by omega)) (sT (decide_eq_true (by omega)) (sT (decide_eq_true (by omega)) (sT (decide_eq_true (by omega)) ?_)))
    rw [Int.toNat_natCast]
    refine ⟨⟨rfl,hb _ (getD_mem hd)⟩,?_⟩
    cases ho:isOd (ds.getD i 0) with
    | true=>
      refine sT rfl (next _ ?_)
      unfold mgB
      rw [ho,decide_eq_true hd]
      rfl
    | false=>exact sF rfl (other (by rw [ho,Bool.and_false]))
   ·refine sF (decide_eq_false (by omega)) ⟨⟨rfl,by omega,by omega⟩,other ?_⟩
    rw [decide_eq_false hd]
    rfl
  ·rw [mapF_stop _ i 0 out (by omega)] at hR
   exact sF (decide_eq_false (by omega)) hR
noncomputable def t_mg:Con:=fun args regs=>if regs.length=0 then nfun Tryz.prog GL c_mg [(0,[1,2,3,6,7,10],l_mg)] f_mg args regs else .fail
theorem k_mg:Known Tryz.prog GL 172 t_mg:=known_loops 0 Tryz.func172 rfl (by kernel_rfl) mixed kc_mg (LAll.one (id:=0) (body:=bodyLoop f_mg 0) (by kernel_rfl) rfl loop_mg)
noncomputable def mergeV (old ds:List Int) (had:Bool):List Int:=mapF (gMg old ds had) 0 0 (List.replicate 40 0)
theorem mg_tree (old ds:List Int) (had:Bool) (R:Out→Prop):(t_mg [.sg [.ints .u8 40 old],.c (.l .u8 ds),.c (.b had)] []).run R =
 ((s_mg ds had old (List.replicate 40 0) (List.replicate 40 0) 0=s_mg ds had old (List.replicate 40 0) (List.replicate 40 0) 0∧(List.replicate 40 (0:Int)).length=40∧∀ b∈ds,0≤b∧b<256)∧R ⟨.v (.sg [.ints .u8 40 (mergeV old ds had)]),[]⟩):=by kernel_rfl
noncomputable def tMg:Con:=fun args regs=>match args,regs with
 | [.sg [.ints _ _ old],.c (.l _ ds),.c (.b had)],[]=>.must (args=[.sg [.ints .u8 40 old],.c (.l .u8 ds),.c (.b had)]∧∀ b∈ds,0≤b∧b<256) (.ret ⟨.v (.sg [.ints .u8 40 (mergeV old ds had)]),[]⟩)
 | _,_=>.fail
attribute [local irreducible] t_mg in
theorem kMg:Known Tryz.prog GL 172 tMg:=by
 refine k_mg.less fun args regs R h=>Box.out ?_
 unfold tMg at h
 split at h
 case h_2=>exact h.elim
 rename_i _ _ old _ ds had
 obtain ⟨⟨h0,h1⟩,h2⟩:=h
 rw [h0]
 exact Box.of_eq (mg_tree old ds had R) ⟨⟨rfl,rfl,h1⟩,h2⟩
noncomputable def c_pgRow0:FuncId→Option Con:=conOf [(136,tclTV),(172,tMg)]
theorem kc_pgRow0:∀ f T,c_pgRow0 f=some T→Known Tryz.prog GL f T:=(Knowns.cons kclTV (.cons kMg .nil)).get
noncomputable def t_pgRow0:Con:=fun args regs=>nfun Tryz.prog GL c_pgRow0 [] Tryz.f132 args regs
theorem k_pgRow0:Known Tryz.prog GL 132 t_pgRow0:=known_inl Tryz.func132 rfl (by kernel_rfl) mixed kc_pgRow0 (by kernel_rfl)
def oPg (p:Pg):Out:=⟨.v (pgV p),[]⟩
def ckA (row:Int) (N:Prop):Prop:=sel (decide (0≤row)) (sel (decide (row<((25:Nat):Int))) (sel (decide (row.toNat * 40+40≤1000)) N False) False) False
def ckB (row:Int) (N:Prop):Prop:=sel (decide (0≤row)) (sel (decide (row<((25:Nat):Int))) (sel (decide (row.toNat<25)) N False) False) False
theorem ckA_of {row:Int} {N:Prop} (h0:0≤row) (h1:row<25) (h:N):ckA row N:=sT (decide_eq_true h0) (sT (decide_eq_true (by omega)) (sT (decide_eq_true (by omega)) h))
theorem ckB_of {row:Int} {N:Prop} (h0:0≤row) (h1:row<25) (h:N):ckB row N:=sT (decide_eq_true h0) (sT (decide_eq_true (by omega)) (sT (decide_eq_true (by omega)) h))
def r40 (p:Pg) (n:Nat):List Int:=List.take 40 (List.drop (n * 40) p.rows)
def thB (p:Pg) (n:Nat):Bool:=((p.th.getD n []).getD 0 (.i 0)).t
noncomputable def Pg.setR (p:Pg) (n:Nat) (ds:List Int):Pg:={p with rows:=spl p.rows (n * 40) 40 (mergeV (r40 p n) ds (thB p n)),th:=p.th.set n [.b true]}
theorem pgRow_tree (p:Pg) (row:Int) (ds:List Int) (R:Out→Prop):(t_pgRow0 [pgV p,.c (.i .i64 row),.c (.l .u8 ds)] []).run R =
 (([NV.c (.lr K3 p.ex)]=[NV.c (.lr K3 p.ex)]∧p.ex.length≤1000000)∧sel (decide (row<1)) (R (oPg p)) (sel (decide (row > 24)) (R (oPg p))
   (ckA row (ckB row (([NV.sg [.ints .u8 40 (r40 p row.toNat)],.c (.l .u8 ds),.c (.b (thB p row.toNat))]=[NV.sg [.ints .u8 40 (r40 p row.toNat)],.c (.l .u8 ds),.c (.b (thB p row.toNat))]∧∀ b∈ds,0≤b∧b<256)∧
     ckA row (ckB row (R (oPg (Pg.setR p row.toNat ds))))))))):=by kernel_rfl
noncomputable def rowP (p:Pg) (row:Int) (ds:List Int):Pg:=match decide (row<1),decide (row > 24) with
 | false,false=>Pg.setR p row.toNat ds
 | _,_=>p
noncomputable def tPgRow:Con:=fun args regs=>match args,regs with
 | [v,.c (.i _ row),.c (.l _ ds)],[]=>(match rdPg v with
   | some p=>.must (args=[pgV p,.c (.i .i64 row),.c (.l .u8 ds)]∧p.ex.length≤1000000∧∀ b∈ds,0≤b∧b<256) (.ret (oPg (rowP p row ds)))
   | none=>.fail)
 | _,_=>.fail
theorem kPgRow:Known Tryz.prog GL 132 tPgRow:=by
 refine k_pgRow0.less fun args regs R h=>Box.out ?_
 unfold tPgRow at h
 split at h
 case h_2=>exact h.elim
 split at h
 case h_2=>exact h.elim
 rename_i p hp
 obtain ⟨⟨h1,h2,h3⟩,h⟩:=h
 rw [h1]
 refine Box.of_eq (pgRow_tree p _ _ R) ⟨⟨rfl,h2⟩,?_⟩
 rename_i row _ ds _
 have h:R (oPg (rowP p row ds)):=h
 unfold rowP at h
 by_cases c1:row<1
 ·rw [decide_eq_true c1] at h
  exact sT (decide_eq_true c1) h
 ·rw [decide_eq_false c1] at h
  refine sF (decide_eq_false c1) ?_
  by_cases c2:row > 24
  ·rw [decide_eq_true c2] at h
   exact sT (decide_eq_true c2) h
  ·rw [decide_eq_false c2] at h
   exact sF (decide_eq_false c2) (ckA_of (by omega) (by omega) (ckB_of (by omega) (by omega) ⟨⟨rfl,h3⟩,ckA_of (by omega) (by omega) (ckB_of (by omega) (by omega) h)⟩))
def trReg (l:List (List Sc)):Reg:=⟨3,112,.recs K3 l⟩
noncomputable def t_clTz:Con:=canonT 1 [] (some (trReg [])) (fun args regs=>nfun Tryz.prog GL (fun _=>Option.none) [] Tryz.f136 args regs)
theorem kt_clTz:KnownF Tryz.prog GL 136 t_clTz:=k_clT.canon 1 [] (some (trReg []))
def oRt (xs:List (List Sc)) (n:Nat):Out:=⟨.v (.c (.hz 1 n)),[none,some (trReg xs)]⟩
noncomputable def clTm (xs:List (List Sc)) (R:Out→Prop):Prop:=sel (decide ((0+xs.length) * bytesT Tryz.prog 112≤140737488355328)) (sel (decide (0+xs.length≤9223372036854775807)) (R (oRt xs (0+xs.length))) False) False
theorem clTz_tree (xs:List (List Sc)) (R:Out→Prop):(t_clTz [.c (.lr K3 xs)] []).run R =
 sel xs.isEmpty (∀ y:Bool,True→sel y (R (oRt [] 0)) (clTm xs R)) (clTm xs R):=by kernel_rfl
noncomputable def tClTz:Con:=fun args regs=>match args,regs with
 | [.c (.lr _ xs)],[]=>.must (args=[.c (.lr K3 xs)]∧xs.length≤1000000) (.ret (oRt xs xs.length))
 | _,_=>.fail
theorem kClTz:KnownF Tryz.prog GL 136 tClTz:=by
 refine kt_clTz.less fun args regs R h=>Box.out ?_
 unfold tClTz at h
 split at h
 case h_2=>exact h.elim
 rename_i xs
 obtain ⟨⟨h1,hl⟩,h⟩:=h
 rw [h1]
 refine Box.of_eq (clTz_tree xs R) ?_
 have hb:=bytesTr
 have key:clTm xs R:=sT (decide_eq_true (by rw [hb]; omega)) (sT (decide_eq_true (by omega)) (by rw [Nat.zero_add]; exact h))
 cases hx:xs.isEmpty with
 | false=>exact sF rfl key
 | true=>
   refine sT rfl fun y _=>?_
   have e:xs=[]:=List.isEmpty_iff.1 hx
   subst e
   cases y with
   | true=>exact sT rfl h
   | false=>exact sF rfl key
noncomputable abbrev f_ex:=Tryz.f178
noncomputable def c_ex:FuncId→Option Con:=conOf [(136,tClTz)]
theorem kc_ex:∀ f T,c_ex f=some T→Known Tryz.prog GL f T:=(Knowns.cons kClTz.known .nil).get
noncomputable def X_ex:Cx:={P:=Tryz.prog,con:=c_ex,glob:=GL,m:=0,loops:=[]}
noncomputable def pgReg (p:Pg) (x:NC):Reg:=⟨1061,89,.sg (pgSegs p x [] fun q=>[.cells q])⟩
noncomputable def s_ex (code:Int) (l:List (List Sc)) (p:Pg) (E:List (List Sc)) (n:Nat):St:={fr:=frame 43 [(1,.v (.c (.i .i64 code))),(2,.v (.c (.lr K3 l))),(3,.v (.c (.p 0 0 0))),(6,.v (.c (.p 2 0 0)))],rg:=[some (pgReg p (.hz 1 n)),some (trReg E),some (pgReg pgZ .sn)]}
def wdE (code:Int):Int:=IntKind.i64.wrap (13 * IntKind.i64.wrap (code+1))
theorem round_ex (code:Int) (l:List (List Sc)) (p:Pg) (E:List (List Sc)) (n:Nat) (R:RO→Prop):(roundT X_ex 0 [1,2,3,6] [1,2,3,6] (bodyLoop f_ex 0) (s_ex code l p E n)).run R =
 sel (decide ((n:Int)<wdE code)) (sel (decide (n≤E.length)) (sel (decide ((n+1) * bytesT Tryz.prog 112≤140737488355328)) (sel (decide (n+1≤9223372036854775807))
  (R (.next (s_ex code l p (List.take n E++[z3]) (n+1)))) False) False) False)
 (R (.done .normal (s_ex code l p E n))):=by kernel_rfl
def padE (m:Nat) (E:List (List Sc)):List (List Sc):=E++List.replicate (m - E.length) z3
theorem padE_step {m:Nat} {E:List (List Sc)} (h:E.length<m):padE m (E++[z3])=padE m E:=by
 unfold padE
 rw [List.length_append,List.append_assoc]
 have:m - E.length=(m - (E.length+1))+1:=by omega
 rw [this,List.replicate_succ]
 rfl
theorem padE_stop {m:Nat} {E:List (List Sc)} (h:m≤E.length):padE m E=E:=by
 unfold padE
 rw [Nat.sub_eq_zero_of_le h]
 simp
theorem padE_length (m:Nat) (E:List (List Sc)):(padE m E).length=max E.length m:=by
 unfold padE
 rw [List.length_append,List.length_replicate]
 omega
structure AE where
 code:Int
 l:List (List Sc)
 p:Pg
 E:List (List Sc)
def preE (x:AE) (R:NExit × St→Prop):Prop:=(x.E.length≤1000000∧wdE x.code≤1000000)∧R (.normal,s_ex x.code x.l x.p (padE (wdE x.code).toNat x.E) (padE (wdE x.code).toNat x.E).length)
def rdSg:List Seg→Option (Pg × NC)
 | [.cells [.i _ mg,.i _ pn,.i _ sb],.recs _ _ c,.cells [.i _ op],.ints _ _ rows,.recs _ _ th,.cells [x],.recs _ _ lk,.cells [.b ld,.i _ df]]=>some (⟨mg,pn,sb,c,op,rows,th,[],lk,ld,df⟩,x)
 | _=>none
def rdE (s:St):Option (Int × List (List Sc) × Pg × List (List Sc)):=match s.fr[(1:Nat)]?,s.fr[(2:Nat)]?,s.rg with
 | some (.v (.c (.i _ code))),some (.v (.c (.lr _ l))),[some ⟨_,_,.sg sg⟩,some ⟨_,_,.recs _ E⟩,some _]=>(match rdSg sg with
   | some (p,_)=>some (code,l,p,E)
   | none=>none)
 | _,_,_=>none
noncomputable def l_ex (s:St):Tr (NExit × St):=match rdE s with
 | some (code,l,p,E)=>.must (s=s_ex code l p E E.length∧E.length≤1000000∧wdE code≤1000000) (.ret (.normal,s_ex code l p (padE (wdE code).toNat E) (padE (wdE code).toNat E).length))
 | none=>.fail
attribute [local irreducible] roundT in
theorem loop_ex:LOk Tryz.prog GL 0 0 (bodyLoop f_ex 0) l_ex:=by
 refine loop_ok (X:=X_ex) kc_ex mixed (LAll.none (by kernel_rfl)) [1,2,3,6] [1,2,3,6] (fun x:AE=>s_ex x.code x.l x.p x.E x.E.length) (fun x=>(wdE x.code).toNat - x.E.length) preE ?_ ?_
 ·intro s R h
  unfold l_ex at h
  split at h
  case h_2=>exact h.elim
  rename_i code l p E hrd
  obtain ⟨⟨hs,h1,h2⟩,hR⟩:=h
  exact ⟨⟨code,l,p,E⟩,hs,⟨h1,h2⟩,hR⟩
 ·intro x R h
  obtain ⟨code,l,p,E⟩:=x
  obtain ⟨⟨h1,h2⟩,hR⟩:=h
  simp only at h1 h2 hR
  have hb:=bytesTr
  refine Tr.run_mono _ (fun o ho=>ho) (Box.of_eq (round_ex code l p E E.length _) ?_).out
  by_cases hlt:(E.length:Int)<wdE code
  ·refine sT (decide_eq_true hlt) (sT (decide_eq_true (Nat.le_refl _)) (sT (decide_eq_true (by rw [hb]; omega)) (sT (decide_eq_true (by omega)) ?_)))
   refine ⟨⟨code,l,p,E++[z3]⟩,by simp only [List.take_length,List.length_append]; rfl,by simp only [List.length_append,List.length_singleton]; omega,⟨by simp only [List.length_append,List.length_singleton]; omega,h2⟩,?_⟩
   simp only
   rw [padE_step (by omega)]
   exact hR
  ·rw [padE_stop (by omega)] at hR
   exact sF (decide_eq_false hlt) hR
noncomputable def t_ex1:Con:=fun args regs=>if regs.length=0 then nfun Tryz.prog GL c_ex [(0,[1,2,3,6],l_ex)] f_ex args regs else .fail
theorem k_ex1:Known Tryz.prog GL 178 t_ex1:=known_loops 0 Tryz.func178 rfl (by kernel_rfl) mixed kc_ex (LAll.one (id:=0) (body:=bodyLoop f_ex 0) (by kernel_rfl) rfl loop_ex)
noncomputable def t_exC:Con:=softT [] [0] [(0,5,0,.lr K3 [])] [] 0 t_ex1
theorem k_exC:Known Tryz.prog GL 178 t_exC:=k_ex1.soft [] [0] [(0,5,0,.lr K3 [])] [] 0
noncomputable def exP (code:Int) (E:List (List Sc)):List (List Sc):=padE (wdE code).toNat E
def c13 (code:Int):Int:=IntKind.i64.wrap (13 * code)
noncomputable def exA (code:Int) (E:List (List Sc)):List (List Sc):=splice (exP code E) (c13 code).toNat (List.replicate 13 z3)
noncomputable def exB (code:Int) (E l:List (List Sc)):List (List Sc):=splice (exA code E) (c13 code).toNat (List.take 13 l)
theorem ex_tree (p:Pg) (code:Int) (l:List (List Sc)) (R:Out→Prop):(t_exC [pgV p,.c (.i .i64 code),.c (.lr K3 l)] []).run R =
 (([NV.c (.lr K3 p.ex)]=[NV.c (.lr K3 p.ex)]∧p.ex.length≤1000000)∧sel (decide (code<0)) (p.ex.length=p.ex.length∧R (oPg p)) (sel (decide (code ≥ 16)) (p.ex.length=p.ex.length∧R (oPg p))
   ((s_ex code l p p.ex p.ex.length=s_ex code l p p.ex p.ex.length∧p.ex.length≤1000000∧wdE code≤1000000)∧
     sel (decide (0<(exP code p.ex).length)) (sel (decide (0≤c13 code)) (sel (decide (c13 code≤((exP code p.ex).length:Int))) (sel (decide (13≤(((exP code p.ex).length - (c13 code).toNat:Nat):Int))) (sel (decide ((c13 code).toNat+13≤(exP code p.ex).length)) (sel (decide ((c13 code).toNat+13≤(exA code p.ex).length))
      ((exP code p.ex).length=(exB code p.ex l).length∧R (oPg {p with ex:=exB code p.ex l})) False) False) False) False) False) False))):=by kernel_rfl
def exV (n:Nat) (E l:List (List Sc)):List (List Sc):=splice (splice (padE (13 * (n+1)) E) (13 * n) (List.replicate 13 z3)) (13 * n) (l.take 13)
noncomputable def extraP (p:Pg) (code:Int) (l:List (List Sc)):Pg:=match decide (0≤code∧code<16) with
 | true=>{p with ex:=exV code.toNat p.ex l}
 | false=>p
theorem splice_len13 {xs ys:List (List Sc)} {o:Nat} (h:o+ys.length≤xs.length):(splice xs o ys).length=xs.length:=by
 unfold splice
 rw [List.length_append,List.length_append,List.length_take,List.length_drop]
 omega
noncomputable def tExt:Con:=fun args regs=>match args,regs with
 | [v,.c (.i _ code),.c (.lr _ l)],[]=>(match rdPg v with
   | some p=>.must (args=[pgV p,.c (.i .i64 code),.c (.lr K3 l)]∧p.ex.length≤1000000) (.ret (oPg (extraP p code l)))
   | none=>.fail)
 | _,_=>.fail
theorem ext_in {p:Pg} {code:Int} {l:List (List Sc)} {R:Out→Prop} (hl:p.ex.length≤1000000) (h:R (oPg (extraP p code l))):Box ((t_exC [pgV p,.c (.i .i64 code),.c (.lr K3 l)] []).run R):=by
 refine Box.of_eq (ex_tree p code l R) ⟨⟨rfl,hl⟩,?_⟩
 unfold extraP at h
 by_cases c1:code<0
 ·rw [decide_eq_false (by omega)] at h
  exact sT (decide_eq_true c1) ⟨rfl,h⟩
 ·refine sF (decide_eq_false c1) ?_
  by_cases c2:code ≥ 16
  ·rw [decide_eq_false (by omega)] at h
   exact sT (decide_eq_true c2) ⟨rfl,h⟩
  ·rw [decide_eq_true (by omega)] at h
   refine sF (decide_eq_false c2) ?_
   have w1:wdE code=13 * (code+1):=by unfold wdE; rw [IntKind.wrap_i64,IntKind.wrap_i64]; omega
   have w2:c13 code=13 * code:=by unfold c13; rw [IntKind.wrap_i64]; omega
   have n1:(wdE code).toNat=13 * (code.toNat+1):=by omega
   have n2:(c13 code).toNat=13 * code.toNat:=by omega
   have eP:exP code p.ex=padE (13 * (code.toNat+1)) p.ex:=by unfold exP; rw [n1]
   have lP:13 * (code.toNat+1)≤(exP code p.ex).length:=by rw [eP,padE_length]; omega
   have lP2:(exP code p.ex).length=max p.ex.length (13 * (code.toNat+1)):=by rw [eP,padE_length]
   have lA:(exA code p.ex).length=(exP code p.ex).length:=splice_len13 (by rw [List.length_replicate]; omega)
   have lB:(exB code p.ex l).length=(exP code p.ex).length:=by
    rw [← lA]
    refine splice_len13 ?_
    rw [List.length_take]
    omega
   have eB:exB code p.ex l=exV code.toNat p.ex l:=by
    unfold exB exA exV
    rw [eP,n2]
   refine ⟨⟨rfl,hl,by omega⟩,sT (decide_eq_true (by omega)) (sT (decide_eq_true (by omega)) (sT (decide_eq_true (by omega)) (sT (decide_eq_true (by omega)) (sT (decide_eq_true (by omega)) (sT (decide_eq_true (by omega)) ⟨lB.symm,?_⟩)))))⟩
   rw [eB]
   exact h
attribute [local irreducible] t_exC in
theorem kExt:Known Tryz.prog GL 178 tExt:=by
 refine k_exC.less fun args regs R h=>Box.out ?_
 unfold tExt at h
 split at h
 case h_2=>exact h.elim
 split at h
 case h_2=>exact h.elim
 obtain ⟨⟨h1,h2⟩,h⟩:=h
 rw [h1]
 exact ext_in h2 h
end pge
end Go.Proofs.YtbmpbafemefepaaGreatDoor
