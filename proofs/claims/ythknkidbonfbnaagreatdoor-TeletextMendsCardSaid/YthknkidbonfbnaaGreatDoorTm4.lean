/-
  Joined: EngC, Pbits, Pbv, Eng25, Num, PkA, PkB, PkC, PkD, PkE, AcA, Eng32, Eng33, Eng34, Eng35, AqA, AqB, AqC, AqD, AqE, AqF, MapF, AqG, AqH, AqI.
-/
import Derived.Test.YthknkidbonfbnaaGreatDoorTm3
import Derived.RowKit3
import Derived.Below
import Derived.ChangeArms
import Derived.ProofKit
import Derived.OpenShut
import Derived.ShutString
import Derived.ChangeOld
import Derived.Carry
import Derived.OrdersIn
import Derived.Laws.Bits128
import Derived.LaidLaws
import Derived.LaidMore
import Derived.Test.YthknkidbonfbnaaGreatDoorRows
set_option maxRecDepth 100000
set_option linter.unusedVariables false
open Array renaming getElem?_toList->ayM
open BitVec renaming eq_of_toNat_eq->azg,ofInt->ay7,ofInt_natCast->ay9,toNat_ofInt->ay8
open Bool renaming and_eq_true->ayu
open Go.DataW renaming TrodAll->ay6,trod->ay2
open Int renaming emod_nonneg->azc,fdiv_eq_ediv_of_nonneg->aze,ofNat->azi,pow_pos->aza,tmod->azh,toNat_natCast->azd,toNat_of_nonneg->azb
open Go.IntKind renaming wrap_i64->ay',wrap_u8->azf
open List renaming any_cons->ayA,append_assoc->axC,drop_drop->ayG,drop_zero->axZ,eq_nil_of_length_eq_zero->ayb,filter_cons_of_neg->azm,filter_cons_of_pos->azn,find?_cons->azj,getD_eq_getElem?_getD->axF,getElem?_eq_getElem->axP,length_append->axG,length_map->azq,length_set->axV,length_take->ax7,map_append->ayr,map_cons->ay4,mem_append->ayC,mem_append_left->azk,mem_append_right->azl,mem_cons->ayD,mem_singleton->ayx,range->axy,replicate->axx,take->azo,take_add->ay3,take_append_drop->axE,take_length->azp,take_of_length_le->axN
open Nat renaming blt->azr,le_refl->axB,le_trans->ay5,zero_add->ayf
open Option renaming none->ay1
namespace Go.Nx
open Go Go.RowKit
def topEnv (w:World) (er:Nat->Option Value):Env:={μ:=fun _=>none,kp:=fun b=>w.heap[b]?,ro:=fun b=>decide (b<w.heap.size),er:=er}
theorem Tf (w:World) (er:Nat->Option Value):aQ (topEnv w er) [] w:=by
 refine ⟨fun n g h=>by simp at h,fun n m B B' _ h=>?_,fun b o h=>h,fun n B h=>?_,fun b h=>?_⟩
 ·obtain ⟨g,h⟩:=h; simp at h
 ·obtain ⟨g,h⟩:=h; simp at h
 ·have hb:b<w.heap.size:=by simpa [topEnv] using h
  exact ⟨w.heap[b],Array.getElem?_eq_getElem hb⟩
structure LY {α:Type} (t:Tr α) (R:α->Prop):Prop where
 run:t.run R
theorem ah {P:Program} {gl:List Nat} {f:FuncId} {fn:Func} {c:Code} {con:FuncId->Option au} (hf:P.funcs[f]? = some fn) (hb:fn.body=some c) (lT:(fn.name=="runtime.NumGoroutine")=false) (hm:P.follows .mixedOrders=true)
  (cy:∀ f T,con f=some T->Known P gl f T) (hl:bY c=[]):Known P gl f (fun args I=>aD P gl con [] fn args I):=
 FX hf hb lT hm fun _ _ _ h=>⟨con,[],cy,⟨fun id body hi=>(by rw [hl] at hi; cases hi),fun id body _ x hx=>(by cases hx)⟩,h⟩
theorem dp {P:Program} {gl:List Nat} {f:FuncId} {fn:Func} {c:Code} {con:FuncId->Option au} (hf:P.funcs[f]? = some fn) (hb:fn.body=some c) (lT:(fn.name=="runtime.NumGoroutine")=false) (hm:P.follows .mixedOrders=true)
  (cy:∀ f T,con f=some T->Known P gl f T) (hl:bY c=[]):bP P gl f (fun args I=>aD P gl con [] fn args I):=
 um hf hb lT hm fun _ _ _ h=>⟨con,[],cy,⟨fun id body hi=>(by rw [hl] at hi; cases hi),fun id body _ x hx=>(by cases hx)⟩,h⟩
theorem aM.list {X:Cx} {c:Code} {ls:List (Nat × Code)} (hl:bY c=ls) (h:∀ p∈ls,∀ x,X.loops.find? (·.1==p.1)=some x->jL X.P X.glob X.m p.1 p.2 x.2.2) (hr:cG c=[]:=by kernel_rfl):aM X c:=by
 refine ⟨fun id body hb x hx=>?_,fun id body hb=>by rw [hr] at hb; cases hb⟩
 rw [hl] at hb
 exact h (id,body) hb x hx
theorem aM.none {X:Cx} {c:Code} (hl:bY c=[]) (hr:cG c=[]:=by kernel_rfl):aM X c:=aM.list hl (fun p hp=>by cases hp) hr
theorem aM.one {X:Cx} {c:Code} {id:Nat} {body:Code} {live:List Nat} {L:St->Tr (aj × St)} (hl:bY c=[(id,body)]) (hx:X.loops=[(id,live,L)]) (h:jL X.P X.glob X.m id body L) (hr:cG c=[]:=by kernel_rfl):aM X c:=
 aM.list hl (hr:=hr) fun p hp x hf=>by
  rw [ayx] at hp
  subst hp
  rw [hx] at hf
  simp at hf
  subst hf
  exact h
theorem av {P:Program} {gl:List Nat} {f:FuncId} {fn:Func} {c:Code} {con:FuncId->Option au} {loops:List (Nat × List Nat × (St->Tr (aj × St)))} (m:Nat) (hf:P.funcs[f]? = some fn) (hb:fn.body=some c) (lT:(fn.name=="runtime.NumGoroutine")=false) (hm:P.follows .mixedOrders=true)
  (cy:∀ f T,con f=some T->Known P gl f T) (hl:aM {P:=P,con:=con,glob:=gl,m:=m,loops:=loops} c):Known P gl f (fun args I=>if I.length=m then aD P gl con loops fn args I else .fail):=
 FX hf hb lT hm fun args I R h=>by
  by_cases e:I.length=m
  ·rw [if_pos e] at h
   exact ⟨con,loops,cy,e ▸ hl,h⟩
  ·rw [if_neg e] at h
   exact h.elim
theorem sK {P:Program} {gl:List Nat} {f:FuncId} {fn:Func} {c:Code} {con:FuncId->Option au} {loops:List (Nat × List Nat × (St->Tr (aj × St)))} (m:Nat) (hf:P.funcs[f]? = some fn) (hb:fn.body=some c) (lT:(fn.name=="runtime.NumGoroutine")=false) (hm:P.follows .mixedOrders=true)
  (cy:∀ f T,con f=some T->Known P gl f T) (hl:aM {P:=P,con:=con,glob:=gl,m:=m,loops:=loops} c):bP P gl f (fun args I=>if I.length=m then aD P gl con loops fn args I else .fail):=
 um hf hb lT hm fun args I R h=>by
  by_cases e:I.length=m
  ·rw [if_pos e] at h
   exact ⟨con,loops,cy,e ▸ hl,h⟩
  ·rw [if_neg e] at h
   exact h.elim
theorem bP.less {P:Program} {gl:List Nat} {f:FuncId} {T T' : au} (hk:bP P gl f T) (h:∀ args I R,(T' args I).run R->(T args I).run R):bP P gl f T':=
 ⟨hk.qV,fun args I R hr=>hk.sound args I R (h args I R hr)⟩
theorem Known.less {P:Program} {gl:List Nat} {f:FuncId} {T T' : au} (hk:Known P gl f T) (h:∀ args I R,(T' args I).run R->(T args I).run R):Known P gl f T':=
 ⟨hk.qV,fun args I R hr=>hk.sound args I R (h args I R hr)⟩
theorem az {P:Program} {gl:List Nat}:∀ (f:FuncId) (T:au),(fun _=>ay1:FuncId->Option au) f=some T->Known P gl f T:=fun _ _ h=>by cases h
end Go.Nx
namespace Go.Nx
open Go
inductive cE where
 | i (n:Int)
 | b (x:Bool)
 | s (z:ByteArray)
 | l (xs:List Int)
 | r (xs:List (List Sc))
 | n (k:Nat)
inductive gw where
 | dead
 | i (k:IntKind)
 | b
 | s
 | l (k:IntKind)
 | lr (ks:List CK)
 | h (r off:Nat)
 | p (r i c:Nat)
 | sn
 | pn
 | en
 | rs (ks:List CK) (n:Nat)
 | is (k:IntKind) (n:Nat)
 | ag (ks:List CK)
inductive q5 where
 | cells (l:List gw)
 | ints (k:IntKind) (n:Nat)
 | aA (ks:List CK) (n:Nat)
inductive lU where
 | gone
 | ints (st:Nat) (e:TypeId) (k:IntKind)
 | aA (st:Nat) (e:TypeId) (ks:List CK)
 | cells (st:Nat) (e:TypeId) (l:List gw)
 | sg (st:Nat) (e:TypeId) (l:List q5)
def gw.vE:gw->NC->Option (List cE)
 | .i k,.i k' n=>if k=k' then some [.i n] else none
 | .b,.b x=>some [.b x]
 | .s,.s z=>some [.s z]
 | .l k,.l k' xs=>if k=k' then some [.l xs] else none
 | .lr ks,.lr nT xs=>if ks=nT then some [.r xs] else none
 | .h r o,.h r' o' n=>if r=r'∧o=o' then some [.n n] else none
 | .p r j c,.p r' j' c'=>if r=r'∧j=j'∧c=c' then some [] else none
 | .sn,.sn=>some []
 | .pn,.pn=>some []
 | .en,.en=>some []
 | _,_=>none
def gw.LZ:gw->List cE->NC
 | .i k,.i n::_=>.i k n
 | .b,.b x::_=>.b x
 | .s,.s z::_=>.s z
 | .l k,.l xs::_=>.l k xs
 | .lr ks,.r xs::_=>.lr ks xs
 | .h r o,.n n::_=>.h r o n
 | .p r j c,_=>.p r j c
 | .sn,_=>.sn
 | .pn,_=>.pn
 | _,_=>.en
def gw.size:gw->Nat
 | .i _ | .b | .s | .l _ | .lr _ | .h _ _ | .rs _ _ | .is _ _ | .ag _=>1
 | _=>0
theorem gw.q6 {p:gw} {x:NC} {l:List cE} (h:p.vE x=some l):l.length=p.size∧∀ m,p.LZ (l++m)=x:=by
 unfold gw.vE at h
 split at h
 all_goals first
  | (cases h; done)
  | (cases h; exact ⟨rfl,fun _=>rfl⟩)
  | (split at h
     ·rename_i e
      cases h
      first
       | (subst e; exact ⟨rfl,fun _=>rfl⟩)
       | (obtain ⟨rfl,rfl⟩:=e; exact ⟨rfl,fun _=>rfl⟩)
       | (obtain ⟨rfl,rfl,rfl⟩:=e; exact ⟨rfl,fun _=>rfl⟩)
     ·cases h)
def gw.oP:gw->NS->Option (List cE)
 | .dead,.dead=>some []
 | q,.v (.c x)=>q.vE x
 | .rs ks n,.v (.sg [.aA nT n' xs])=>if ks=nT∧n=n' then some [.r xs] else none
 | .is k n,.v (.sg [.ints k' n' xs])=>if k=k'∧n=n' then some [.l xs] else none
 | .ag ks,.v (.ag xs)=>(match jP ks xs with
   | some row=>some [.r [row]]
   | none=>none)
 | _,_=>none
def gw.ago:gw->List cE->NS
 | .dead,_=>.dead
 | .rs ks n,.r xs::_=>.v (.sg [.aA ks n xs])
 | .is k n,.l xs::_=>.v (.sg [.ints k n xs])
 | .ag ks,.r [row]::_=>.v (.ag (bV ks row))
 | q,ls=>.v (.c (q.LZ ls))
theorem gw.Jc {p:gw} {x:NS} {l:List cE} (h:p.oP x=some l):l.length=p.size∧∀ m,p.ago (l++m)=x:=by
 by_cases hd:p=.dead
 ·subst hd
  cases x with
  | dead=>cases h; exact ⟨rfl,fun _=>rfl⟩
  | tu l=>simp [gw.oP] at h
  | v y=>
    cases y with
    | c y=>simp [gw.oP,gw.vE] at h
    | ag y=>simp [gw.oP] at h
    | sg y=>simp [gw.oP] at h
 ·cases x with
  | dead=>cases p <;> simp [gw.oP] at h hd
  | tu l=>cases p <;> simp [gw.oP] at h
  | v y=>
    cases y with
    | ag y=>
      cases p
      case ag ks=>
       simp only [gw.oP] at h
       split at h
       ·rename_i row hr
        cases h
        exact ⟨rfl,fun m=>by rw [xx hr]; rfl⟩
       ·cases h
      all_goals simp [gw.oP] at h
    | sg y=>
      unfold gw.oP at h
      split at h
      case h_3 heq=>cases heq; split at h <;> first | (rename_i e; obtain ⟨rfl,rfl⟩:=e; cases h; exact ⟨rfl,fun _=>rfl⟩) | cases h
      case h_4 heq=>cases heq; split at h <;> first | (rename_i e; obtain ⟨rfl,rfl⟩:=e; cases h; exact ⟨rfl,fun _=>rfl⟩) | cases h
      all_goals first | (cases h; done) | (rename_i heq; cases heq; done) | (rename_i heq _; cases heq; done) | (simp_all; done)
    | c y=>
      have h' : p.vE y=some l:=by cases p <;> first | exact h | exact (hd rfl).elim
      obtain ⟨h1,h2⟩:=gw.q6 h'
      refine ⟨h1,fun m=>?_⟩
      rw [<- h2 m]
      cases p <;> first | rfl | exact (hd rfl).elim | (simp [gw.vE] at h'; done)
def lV {α:Type} (rd:gw->α->Option (List cE)):List gw->List α->Option (List cE)
 | [],[]=>some []
 | p::ps,x::xs=>match rd p x,lV rd ps xs with
   | some a,some b=>some (a++b)
   | _,_=>none
 | _,_=>none
def vF {α:Type} (mk:gw->List cE->α):List gw->List cE->List α
 | [],_=>[]
 | p::ps,l=>mk p l::vF mk ps (l.drop p.size)
theorem q7 {α:Type} {rd:gw->α->Option (List cE)} {mk:gw->List cE->α} (hs:∀ p x l,rd p x=some l->l.length=p.size∧∀ m,mk p (l++m)=x) :
  ∀ {ps:List gw} {xs:List α} {l:List cE},lV rd ps xs=some l->vF mk ps l=xs
 | [],[],l,_=>rfl
 | [],_::_,_,h=>by simp [lV] at h
 | _::_,[],_,h=>by simp [lV] at h
 | p::ps,x::xs,l,h=>by
   simp only [lV] at h
   split at h
   ·rename_i a b h1 h2
    cases h
    obtain ⟨h3,h4⟩:=hs p x a h1
    have h5:=q7 hs h2
    simp only [vF,h4 b,<- h3,List.drop_left,h5]
   ·cases h
def q5.read:q5->bq->Option (List cE)
 | .cells ps,.cells xs=>lV gw.vE ps xs
 | .ints k n,.ints k' n' xs=>if k=k'∧n=n' then some [.l xs] else none
 | .aA ks n,.aA nT n' xs=>if ks=nT∧n=n' then some [.r xs] else none
 | _,_=>none
def q5.size:q5->Nat
 | .cells ps=>(ps.map gw.size).sum
 | _=>1
def q5.make:q5->List cE->bq
 | .cells ps,l=>.cells (vF gw.LZ ps l)
 | .ints k n,.l xs::_=>.ints k n xs
 | .aA ks n,.r xs::_=>.aA ks n xs
 | _,_=>.cells []
theorem A8 {α:Type} {rd:gw->α->Option (List cE)} {mk:gw->List cE->α} (hs:∀ p x l,rd p x=some l->l.length=p.size∧∀ m,mk p (l++m)=x) :
  ∀ {ps:List gw} {xs:List α} {l:List cE},lV rd ps xs=some l->l.length=(ps.map gw.size).sum∧∀ m,vF mk ps (l++m)=xs
 | [],[],l,h=>by simp [lV] at h; subst h; exact ⟨rfl,fun _=>rfl⟩
 | [],_::_,_,h=>by simp [lV] at h
 | _::_,[],_,h=>by simp [lV] at h
 | p::ps,x::xs,l,h=>by
   simp only [lV] at h
   split at h
   ·rename_i a b h1 h2
    cases h
    obtain ⟨h3,h4⟩:=hs p x a h1
    obtain ⟨h5,h6⟩:=A8 hs h2
    refine ⟨by simp [h3,h5],fun m=>?_⟩
    simp only [vF,axC,h4,<- h3,List.drop_left,h6]
   ·cases h
theorem q5.uo {p:q5} {x:bq} {l:List cE} (h:p.read x=some l):l.length=p.size∧∀ m,p.make (l++m)=x:=by
 unfold q5.read at h
 split at h
 ·obtain ⟨h1,h2⟩:=A8 (fun p x l h=>gw.q6 h) h
  exact ⟨h1,fun m=>by simp only [q5.make,h2]⟩
 ·split at h
  ·rename_i e; obtain ⟨rfl,rfl⟩:=e; cases h; exact ⟨rfl,fun _=>rfl⟩
  ·cases h
 ·split at h
  ·rename_i e; obtain ⟨rfl,rfl⟩:=e; cases h; exact ⟨rfl,fun _=>rfl⟩
  ·cases h
 ·cases h
def jY:List q5->List bq->Option (List cE)
 | [],[]=>some []
 | p::ps,x::xs=>match p.read x,jY ps xs with
   | some a,some b=>some (a++b)
   | _,_=>none
 | _,_=>none
def sL:List q5->List cE->List bq
 | [],_=>[]
 | p::ps,l=>p.make l::sL ps (l.drop p.size)
theorem qy:∀ {ps:List q5} {xs:List bq} {l:List cE},jY ps xs=some l->sL ps l=xs
 | [],[],l,h=>by simp [jY] at h; subst h; rfl
 | [],_::_,_,h=>by simp [jY] at h
 | _::_,[],_,h=>by simp [jY] at h
 | p::ps,x::xs,l,h=>by
   simp only [jY] at h
   split at h
   ·rename_i a b h1 h2
    cases h
    obtain ⟨h3,h4⟩:=q5.uo h1
    simp only [sL,h4 b,<- h3,List.drop_left,qy h2]
   ·cases h
def lU.read:lU->Option aG->Option (List cE)
 | .gone,none=>some []
 | .ints st e k,some {st:=st',e:=e',body:=.ints k' xs}=>if st=st'∧e=e'∧k=k' then some [.l xs] else none
 | .aA st e ks,some {st:=st',e:=e',body:=.aA nT xs}=>if st=st'∧e=e'∧ks=nT then some [.r xs] else none
 | .cells st e ps,some {st:=st',e:=e',body:=.cells xs}=>if st=st'∧e=e' then lV gw.vE ps xs else none
 | .sg st e ps,some {st:=st',e:=e',body:=.sg l}=>if st=st'∧e=e' then jY ps l else none
 | _,_=>none
def lU.make:lU->List cE->Option aG
 | .ints st e k,.l xs::_=>some {st:=st,e:=e,body:=.ints k xs}
 | .aA st e ks,.r xs::_=>some {st:=st,e:=e,body:=.aA ks xs}
 | .cells st e ps,l=>some {st:=st,e:=e,body:=.cells (vF gw.LZ ps l)}
 | .sg st e ps,l=>some {st:=st,e:=e,body:=.sg (sL ps l)}
 | _,_=>none
theorem lU.uo {p:lU} {x:Option aG} {l:List cE} (h:p.read x=some l):p.make l=x:=by
 unfold lU.read at h
 split at h
 ·cases h; rfl
 ·split at h
  ·rename_i e; obtain ⟨rfl,rfl,rfl⟩:=e; cases h; rfl
  ·cases h
 ·split at h
  ·rename_i e; obtain ⟨rfl,rfl,rfl⟩:=e; cases h; rfl
  ·cases h
 ·split at h
  ·rename_i e
   obtain ⟨rfl,rfl⟩:=e
   simp only [lU.make,q7 (fun p x l h=>gw.q6 h) h]
  ·cases h
 ·split at h
  ·rename_i e
   obtain ⟨rfl,rfl⟩:=e
   simp only [lU.make,qy h]
  ·cases h
 ·cases h
def q8:List lU->List (Option aG)->Option (List (List cE))
 | [],[]=>some []
 | p::ps,x::xs=>match p.read x,q8 ps xs with
   | some a,some b=>some (a::b)
   | _,_=>none
 | _,_=>none
def C0:List lU->List (List cE)->List (Option aG)
 | p::ps,l::ls=>p.make l::C0 ps ls
 | _,_=>[]
theorem vG:∀ {ps:List lU} {xs:List (Option aG)} {l:List (List cE)},q8 ps xs=some l->C0 ps l=xs
 | [],[],l,h=>by simp [q8] at h; subst h; rfl
 | [],_::_,_,h=>by simp [q8] at h
 | _::_,[],_,h=>by simp [q8] at h
 | p::ps,x::xs,l,h=>by
   simp only [q8] at h
   split at h
   ·rename_i a b h1 h2
    cases h
    simp only [C0,lU.uo h1,vG h2]
   ·cases h
def FY (n:Nat) (l:List (Nat × gw)):List gw:=(axy n).map fun j=>match l.find? (·.1==j) with
 | some x=>x.2
 | none=>.dead
def FZ (fp:List gw) (rp:List lU) (x:List cE × List (List cE)):St:={fr:=vF gw.ago fp x.1,rg:=C0 rp x.2}
def nW (fp:List gw) (rp:List lU) (f:List cE × List (List cE)->Tr (aj × St)) (s:St):Tr (aj × St):=
 match lV gw.oP fp s.fr,q8 rp s.rg with
 | some a,some b=>f (a,b)
 | _,_=>.fail
theorem kP {X:Cx} (cy:∀ f T,X.con f=some T->Known X.P X.glob f T) (hm:X.P.follows .mixedOrders=true) {id:Nat} {body:Code} (hl:aM X body) (live out:List Nat) (fp:List gw) (rp:List lU) (f:List cE × List (List cE)->Tr (aj × St)) (μ:List cE × List (List cE)->Nat)
  (round:∀ a R,(f a).run R->(bu X id live out body (FZ fp rp a)).run fun o=>match o with
    | .next s=>∃ b,s=FZ fp rp b∧μ b<μ a∧(f b).run R
    | .done e s=>R (e,s)):jL X.P X.glob X.m id body (nW fp rp f):=by
 refine cf cy hm hl live out (FZ fp rp) μ (fun a R=>(f a).run R) (fun s R h=>?_) round
 unfold nW at h
 split at h
 ·rename_i a b h1 h2
  refine ⟨(a,b),?_,h⟩
  unfold FZ
  rw [q7 (fun p x l h=>gw.Jc h) h1,vG h2]
 ·exact h.elim
theorem aM.two {X:Cx} {c:Code} {i1 i2:Nat} {b1 b2:Code} {l1 l2:List Nat} {L1 L2:St->Tr (aj × St)} (hl:bY c=[(i1,b1),(i2,b2)]) (hx:X.loops=[(i1,l1,L1),(i2,l2,L2)]) (b9:i1≠i2)
  (h1:jL X.P X.glob X.m i1 b1 L1) (h2:jL X.P X.glob X.m i2 b2 L2) (hr:cG c=[]:=by kernel_rfl):aM X c:=
 aM.list hl (hr:=hr) fun p hp x hf=>by
  rw [hx] at hf
  rcases List.mem_cons.1 hp with e | hp
  ·subst e
   simp at hf
   subst hf
   exact h1
  ·rw [ayx] at hp
   subst hp
   have:(i1==i2)=false:=by simpa using b9
   simp [this] at hf
   subst hf
   exact h2
def aE:List (FuncId × au)->FuncId->Option au
 | [],_=>ay1
 | x::l,f=>if x.1=f then some x.2 else aE l f
inductive aq (P:Program) (gl:List Nat):List (FuncId × au)->Prop where
 | nil:aq P gl []
 | cons {f:FuncId} {T:au} {l:List (FuncId × au)}:Known P gl f T->aq P gl l->aq P gl ((f,T)::l)
theorem aq.get {P:Program} {gl:List Nat} {l:List (FuncId × au)} (h:aq P gl l):∀ f T,aE l f=some T->Known P gl f T:=by
 induction h with
 | nil=>intro f T h; cases h
 | @cons g U l hk _ ih=>
   intro f T h
   simp only [aE] at h
   by_cases e:g=f
   ·rw [if_pos e] at h
    injection h with h
    subst h e
    exact hk
   ·rw [if_neg e] at h
    exact ih f T h
end Go.Nx
namespace Go.Nx
open Go Go.RowKit
theorem Tg {w w' : World} {er:Nat->Option Value} {Γ' : Env} {rg:List (Option aG)} (hE:Ext (topEnv w er) w Γ') (hw:aQ Γ' rg w') (hd:Wd w w'):Below w.heap.size w w':=by
 refine ⟨hd.os,hd.tape,hd.output,hd.size,fun i hi=>?_⟩
 have h1:w.heap[i]? = some w.heap[i]:=Array.getElem?_eq_getElem hi
 have h2:w'.heap[i]? = some w.heap[i]:=hw.kp i _ (hE.le.kp i _ h1)
 rw [h1,h2]
theorem Known.auI {P:Program} {gl:List Nat} {f:FuncId} {T:au} (hk:Known P gl f T) {args:List NV} {vs:List Value} {w:World} (er:Nat->Option Value) (hG:GlobOk gl (topEnv w er)) (dG:R2 (cM (topEnv w er)) args vs) (h:LY (T args []) fun o=>o.res=.v (.c (.b true))) :
  Calls P f vs.toArray w fun e w'=>e=.returned (.bool true)∧Below w.heap.size w w':=by
 refine (hk.sound args [] _ h.run (topEnv w er) w vs (Tf w er) hG dG (fun _ _=>rfl)).mono ?_
 rintro e w' ⟨o,v,Γ',h1,rfl,h3,h4,h5,h6⟩
 rw [h1] at h4
 obtain ⟨h4,-⟩:=h4
 have h4' : v=.bool true:=h4
 exact ⟨by rw [h4'],Tg h3 h5 h6⟩
end Go.Nx
namespace Go.Nx
open Go Go.RowKit Go.ChangeShapes Go.WideShapes Go.ChangeAt
open Go.ChangeMaps (open_string)
def ao3:CK->Sc->Prop
 | .i k,.i n=>(Lit.int k n).wf=true
 | .b,.b _=>True
 | _,_=>False
def CV (k:CK) (v:Value):Prop:=∃ s,v=n8 k s∧ao3 k s
def yn (ks:List CK) (row:List Sc):Prop:=R2 ao3 ks row
theorem CV.row {ks:List CK} {cs:List Value} (h:R2 CV ks cs):∃ row,cs=bN ks row∧yn ks row:=by
 induction h with
 | nil=>exact ⟨[],rfl,.nil⟩
 | @cons k v ks cs h _ ih=>
   obtain ⟨s,rfl,hs⟩:=h
   obtain ⟨row,rfl,hr⟩:=ih
   exact ⟨s::row,by simp [bN,rowFrom,iW],.cons hs hr⟩
def Ti (rec:TypeId->Option (List CK)) (co:TypeId->Nat):Nat->List Field->Option (List CK)
 | _,[]=>some []
 | off,f::fs=>
   match rec f.type,Ti rec co (off+co f.type) fs with
   | some a,some b=>if f.offset=off∧a.length=co f.type then some (a++b) else none
   | _,_=>none
def PE (P:Program):Nat->TypeId->Option (List CK)
 | 0,_=>none
 | n+1,t=>
   match P.underlying t with
   | some (.int k)=>some [.i k]
   | some .bool=>some [.b]
   | some (.struct fs)=>(match Ti (PE P n) P.cellsOf 0 fs.toList with
     | some ks=>if ks.length=P.cellsOf t then some ks else none
     | none=>none)
   | some (.array m e)=>(match PE P n e with
     | some ks=>if ks.length=P.cellsOf e∧m * ks.length=P.cellsOf t then some ((axx m ks).flatten) else none
     | none=>none)
   | _=>none
section
variable {H:Type} {enc:TypeId × Value->H} {P:Program} {w:World} {base:Nat} {sp:Nat->Bool} {held:Bool}
theorem fk {α β:Type} {f:α->Option β} {a:α} {l:List α} {r:List β} (h:(a::l).mapM f=some r):∃ b r',f a=some b∧l.mapM f=some r'∧r=b::r':=by
 rw [List.mapM_cons] at h
 cases hb:f a with
 | none=>rw [hb] at h; cases h
 | some b=>
   cases hr:l.mapM f with
   | none=>rw [hb,hr] at h; cases h
   | some r'=>rw [hb,hr] at h; cases h; exact ⟨b,r',rfl,rfl,rfl⟩
theorem yo {n m:Nat} (ih:∀ {t:TypeId} {ks:List CK} {cs:List Value} {x:DataW H × List MemPlace},PE P n t=some ks->ay2 enc P w base sp held m t cs=some x->R2 CV ks cs) {cs:List Value} :
  ∀ {fs:List Field} {off:Nat} {ks:List CK} {xs:List (DataW H × List MemPlace)},Ti (PE P n) P.cellsOf off fs=some ks->
   (fs.mapM fun f=>ay2 enc P w base sp held m f.type ((cs.drop f.offset).take (P.cellsOf f.type)))=some xs->R2 CV ks ((cs.drop off).take ks.length)
 | [],off,ks,xs,h,_=>by simp [Ti] at h; subst h; simp; exact .nil
 | f::fs,off,ks,xs,h,hx=>by
   simp only [Ti] at h
   split at h
   ·rename_i a b ha hb
    split at h
    ·rename_i hc
     cases h
     obtain ⟨y,ys,h1,h2,-⟩:=fk hx
     have r1:=ih ha h1
     have r2:=yo ih hb h2
     rw [hc.1,<- hc.2] at r1
     rw [<- hc.2] at r2
     have e:(cs.drop off).take (a++b).length=(cs.drop off).take a.length++(cs.drop (off+a.length)).take b.length:=by
      rw [axG,ay3,ayG]
     rw [e]
     exact r1.append r2
    ·cases h
   ·cases h
theorem vH {m e:Nat} {ks:List CK} (ih:∀ {cs:List Value} {x:DataW H × List MemPlace},ay2 enc P w base sp held m e cs=some x->R2 CV ks cs) (hc:ks.length=P.cellsOf e) {cs:List Value} :
  ∀ {k o:Nat} {xs:List (DataW H × List MemPlace)},((List.range' o k).mapM fun i=>ay2 enc P w base sp held m e ((cs.drop (i * P.cellsOf e)).take (P.cellsOf e)))=some xs->
   R2 CV ((axx k ks).flatten) ((cs.drop (o * P.cellsOf e)).take (k * ks.length))
 | 0,o,xs,_=>by simp; exact .nil
 | k+1,o,xs,hx=>by
   rw [List.range'_succ] at hx
   obtain ⟨y,ys,h1,h2,-⟩:=fk hx
   have r1:=ih h1
   have r2:=vH ih hc h2
   rw [<- hc] at r1 r2 ⊢
   have e1:(cs.drop (o * ks.length)).take ((k+1) * ks.length)=(cs.drop (o * ks.length)).take ks.length++(cs.drop ((o+1) * ks.length)).take (k * ks.length):=by
    rw [show (k+1) * ks.length=ks.length+k * ks.length by rw [Nat.succ_mul]; omega,ay3,ayG,show o * ks.length+ks.length=(o+1) * ks.length by rw [Nat.succ_mul]]
   rw [e1,List.replicate_succ,List.flatten_cons]
   exact r1.append r2
theorem lW:∀ {n:Nat} {t:TypeId} {ks:List CK} {m:Nat} {cs:List Value} {x:DataW H × List MemPlace},PE P n t=some ks->ay2 enc P w base sp held m t cs=some x->R2 CV ks cs
 | 0,t,ks,m,cs,x,h,_=>by simp [PE] at h
 | n+1,t,ks,0,cs,x,_,hx=>by simp [ay2] at hx
 | n+1,t,ks,m+1,cs,x,h,hx=>by
   simp only [PE] at h
   split at h
   ·rename_i k hu
    cases h
    obtain ⟨z,rfl,-,hw⟩:=DataW.trod_int hu hx
    exact .cons ⟨.i z,rfl,hw⟩ .nil
   ·rename_i hu
    cases h
    obtain ⟨z,rfl,-⟩:=DataW.trod_bool hu hx
    exact .cons ⟨.b z,rfl,trivial⟩ .nil
   ·rename_i fs hu
    split at h
    ·rename_i nT jc
     split at h
     ·rename_i hl
      cases h
      unfold ay2 at hx
      rw [hu] at hx
      simp only at hx
      split at hx
      ·rename_i hcs
       cases hm:(fs.toList.mapM fun f=>ay2 enc P w base sp held m f.type ((cs.drop f.offset).take (P.cellsOf f.type))) with
       | none=>rw [hm] at hx; cases hx
       | some xs=>
         have:=yo (fun {_ _ _ _} a b=>lW a b) jc hm
         rwa [axZ,axN (by omega)] at this
      ·cases hx
     ·cases h
    ·cases h
   ·rename_i q e hu
    split at h
    ·rename_i nT jc
     split at h
     ·rename_i hl
      cases h
      unfold ay2 at hx
      rw [hu] at hx
      simp only at hx
      split at hx
      ·rename_i hcs
       cases hm:((axy q).mapM fun i=>ay2 enc P w base sp held m e ((cs.drop (i * P.cellsOf e)).take (P.cellsOf e))) with
       | none=>rw [hm] at hx; cases hx
       | some xs=>
         rw [List.range_eq_range'] at hm
         have:=vH (P:=P) (fun {_ _} b=>lW jc b) hl.1 hm
         rwa [Nat.zero_mul,axZ,axN (by omega)] at this
      ·cases hx
     ·cases h
    ·cases h
   ·cases h
end
inductive MK where
 | i (k:IntKind)
 | b
 | s
inductive PF:MK->NC->Prop
 | i {k:IntKind} {n:Int}:(Lit.int k n).wf=true->PF (.i k) (.i k n)
 | b {x:Bool}:PF .b (.b x)
 | s {z:ByteArray}:z.size<=maxLen->PF .s (.s z)
def MV (k:MK) (v:Value):Prop:=∃ x,PF k x∧∀ Γ,CR Γ x v
theorem MV.row (Γ:Env) {ks:List MK} {cs:List Value} (h:R2 MV ks cs):∃ xs,R2 PF ks xs∧R2 (CR Γ) xs cs:=by
 induction h with
 | nil=>exact ⟨[],.nil,.nil⟩
 | @cons k v ks cs h _ ih=>
   obtain ⟨x,h1,h2⟩:=h
   obtain ⟨xs,h3,h4⟩:=ih
   exact ⟨x::xs,.cons h1 h3,.cons (h2 Γ) h4⟩
def Tj (rec:TypeId->Option (List MK)) (co:TypeId->Nat):Nat->List Field->Option (List MK)
 | _,[]=>some []
 | off,f::fs=>
   match rec f.type,Tj rec co (off+co f.type) fs with
   | some a,some b=>if f.offset=off∧a.length=co f.type then some (a++b) else none
   | _,_=>none
def msT (P:Program):Nat->TypeId->Option (List MK)
 | 0,_=>none
 | n+1,t=>
   match P.underlying t with
   | some (.int k)=>some [.i k]
   | some .bool=>some [.b]
   | some .string=>some [.s]
   | some (.struct fs)=>(match Tj (msT P n) P.cellsOf 0 fs.toList with
     | some ks=>if ks.length=P.cellsOf t then some ks else none
     | none=>none)
   | _=>none
section
variable {H:Type} {enc:TypeId × Value->H} {P:Program} {w:World} {base:Nat} {sp:Nat->Bool} {held:Bool}
theorem yp {n m:Nat} (ih:∀ {t:TypeId} {ks:List MK} {cs:List Value} {x:DataW H × List MemPlace},msT P n t=some ks->ay2 enc P w base sp held m t cs=some x->R2 MV ks cs) {cs:List Value} :
  ∀ {fs:List Field} {off:Nat} {ks:List MK} {xs:List (DataW H × List MemPlace)},Tj (msT P n) P.cellsOf off fs=some ks->
   (fs.mapM fun f=>ay2 enc P w base sp held m f.type ((cs.drop f.offset).take (P.cellsOf f.type)))=some xs->R2 MV ks ((cs.drop off).take ks.length)
 | [],off,ks,xs,h,_=>by simp [Tj] at h; subst h; simp; exact .nil
 | f::fs,off,ks,xs,h,hx=>by
   simp only [Tj] at h
   split at h
   ·rename_i a b ha hb
    split at h
    ·rename_i hc
     cases h
     obtain ⟨y,ys,h1,h2,-⟩:=fk hx
     have r1:=ih ha h1
     have r2:=yp ih hb h2
     rw [hc.1,<- hc.2] at r1
     rw [<- hc.2] at r2
     have e:(cs.drop off).take (a++b).length=(cs.drop off).take a.length++(cs.drop (off+a.length)).take b.length:=by
      rw [axG,ay3,ayG]
     rw [e]
     exact r1.append r2
    ·cases h
   ·cases h
theorem A9:∀ {n:Nat} {t:TypeId} {ks:List MK} {m:Nat} {cs:List Value} {x:DataW H × List MemPlace},msT P n t=some ks->ay2 enc P w base sp held m t cs=some x->R2 MV ks cs
 | 0,t,ks,m,cs,x,h,_=>by simp [msT] at h
 | n+1,t,ks,0,cs,x,_,hx=>by simp [ay2] at hx
 | n+1,t,ks,m+1,cs,x,h,hx=>by
   simp only [msT] at h
   split at h
   ·rename_i k hu
    cases h
    obtain ⟨z,rfl,-,hw⟩:=DataW.trod_int hu hx
    exact .cons ⟨.i k z,.i hw,fun _=>⟨rfl,rfl⟩⟩ .nil
   ·rename_i hu
    cases h
    obtain ⟨z,rfl,-⟩:=DataW.trod_bool hu hx
    exact .cons ⟨.b z,.b,fun _=>⟨rfl,rfl⟩⟩ .nil
   ·rename_i hu
    cases h
    obtain ⟨z,rfl,-,hs⟩:=DataW.trod_string hu hx
    exact .cons ⟨.s z,.s hs,fun _=>⟨rfl,rfl⟩⟩ .nil
   ·rename_i fs hu
    split at h
    ·rename_i nT jc
     split at h
     ·rename_i hl
      cases h
      unfold ay2 at hx
      rw [hu] at hx
      simp only at hx
      split at hx
      ·rename_i hcs
       cases hm:(fs.toList.mapM fun f=>ay2 enc P w base sp held m f.type ((cs.drop f.offset).take (P.cellsOf f.type))) with
       | none=>rw [hm] at hx; cases hx
       | some xs=>
         have:=yp (fun {_ _ _ _} a b=>A9 a b) jc hm
         rwa [axZ,axN (by omega)] at this
      ·cases hx
     ·cases h
    ·cases h
   ·cases h
end
inductive sM:Part->FC->Prop
 | i {k:IntKind} {n:Int}:(Lit.int k n).wf=true->sM (.i k) (.i n)
 | b {x:Bool}:sM .b (.b x)
 | s {z:ByteArray}:z.size<=maxLen->sM .s (.s z)
 | l {k:IntKind} {xs:List Int}:(∀ n∈xs,(Lit.int k n).wf=true)->xs.length<=maxLen->sM (.l k) (.is xs)
 | lr {ks:List CK} {xs:List (List Sc)}:(∀ r∈xs,yn ks r)->xs.length<=maxLen->sM (.lr ks) (.rs xs)
def Part.cell:Part->FC->NC
 | .i k,x=>.i k x.n
 | .b,x=>.b x.t
 | .s,x=>.s x.st
 | .l k,x=>.l k x.li
 | .lr ks,x=>.lr ks x.lr
 | .ai _ _,_=>.sn
 | .ar _ _,_=>.sn
def PV (Γ:Env) (p:Part) (v:Value):Prop:=∃ c,sM p c∧FR Γ (p.cell c) v
theorem sM.put {p:Part} {c:FC} (h:sM p c) (t:List bq):p.put c t=jO (p.cell c) t:=by cases h <;> rfl
theorem PV.row {Γ:Env} {ps:List Part} {cs:List Value} (h:R2 (PV Γ) ps cs):∃ row,R2 sM ps row∧R2 (FR Γ) (ay (bj ps row 0)) cs∧aK (bj ps row 0):=by
 induction h with
 | nil=>exact ⟨[],.nil,.nil,fun s hs=>by cases hs⟩
 | @cons p v ps cs h _ ih=>
   obtain ⟨c,h1,h2⟩:=h
   obtain ⟨row,h3,h4,h5⟩:=ih
   have e:bj (p::ps) (c::row) 0=jO (p.cell c) (bj ps row 0):=by
    show p.put c (bj ps (c::row) 1)=_
    rw [h1.put,fS ps c row 0]
   refine ⟨c::row,.cons h1 h3,?_,?_⟩
   ·rw [e,iY]; exact .cons h2 h4
   ·rw [e]; exact va.2 h5
def Tm (rec:TypeId->Option (List Part)) (co:TypeId->Nat):Nat->List Field->Option (List Part)
 | _,[]=>some []
 | off,f::fs=>
   match rec f.type,Tm rec co (off+co f.type) fs with
   | some a,some b=>if f.offset=off∧a.length=co f.type then some (a++b) else none
   | _,_=>none
def zM (P:Program):Nat->TypeId->Option (List Part)
 | 0,_=>none
 | n+1,t=>
   match P.underlying t with
   | some (.int k)=>some [.i k]
   | some .bool=>some [.b]
   | some .string=>some [.s]
   | some (.slice e)=>(match PE P 8 e with
     | some [.i k]=>if P.cellsOf e=1 then some [.l k] else none
     | some ks=>if 0<ks.length∧P.cellsOf e=ks.length then some [.lr ks] else none
     | none=>none)
   | some (.struct fs)=>(match Tm (zM P n) P.cellsOf 0 fs.toList with
     | some ks=>if ks.length=P.cellsOf t then some ks else none
     | none=>none)
   | _=>none
section
variable {H:Type} {enc:TypeId × Value->H} {P:Program} {w:World} {base:Nat} {sp:Nat->Bool} {held:Bool}
inductive Sh where
 | i (k:IntKind)
 | b
 | s
 | row (k:IntKind)
 | rows (ks:List CK)
 | ag (ks:List CK)
 | mix (ms:List MK)
 | ij (sch:List Part)
def shT (P:Program) (t:TypeId):Option Sh:=
 match P.underlying t with
 | some (.int k)=>some (.i k)
 | some .bool=>some .b
 | some .string=>some .s
 | some (.slice e)=>(match PE P 8 e with
   | some [.i k]=>if P.cellsOf e=1 then some (.row k) else none
   | some ks=>if 0<ks.length∧P.cellsOf e=ks.length then some (.rows ks) else none
   | none=>(match zM P 8 e with
     | some sch=>if 0<aO sch∧P.cellsOf e=aO sch then some (.ij sch) else none
     | none=>none))
 | some (.struct _)=>(match PE P 8 t with
   | some ks=>if ks.length=P.cellsOf t then some (.ag ks) else none
   | none=>(match msT P 8 t with
     | some ms=>some (.mix ms)
     | none=>none))
 | some (.array _ _)=>(match PE P 8 t with
   | some ks=>if ks.length=P.cellsOf t then some (.ag ks) else none
   | none=>none)
 | _=>none
inductive wg:Sh->NV->Prop
 | i {k:IntKind} {n:Int}:(Lit.int k n).wf=true->wg (.i k) (.c (.i k n))
 | b {x:Bool}:wg .b (.c (.b x))
 | s {z:ByteArray}:z.size<=maxLen->wg .s (.c (.s z))
 | row {k:IntKind} {xs:List Int}:(∀ n∈xs,(Lit.int k n).wf=true)->wg (.row k) (.c (.l k xs))
 | rows {ks:List CK} {xs:List (List Sc)}:(∀ r∈xs,yn ks r)->wg (.rows ks) (.c (.lr ks xs))
 | ag {ks:List CK} {row:List Sc}:yn ks row->wg (.ag ks) (.ag (bV ks row))
 | mix {ms:List MK} {xs:List NC}:R2 PF ms xs->wg (.mix ms) (.ag xs)
 | ij {sch:List Part} {xs:List (List FC)}:(∀ r∈xs,R2 sM sch r)->xs.length<=maxLen->wg (.ij sch) (.c (.lt sch xs))
theorem F0 {α β:Type} {f:α->Option β}:∀ {l:List α} {r:List β},l.mapM f=some r->r.length=l.length∧∀ (j:Nat) a y,l[j]? = some a->r[j]? = some y->f a=some y
 | [],r,h=>by simp at h; subst h; exact ⟨rfl,fun j a y h=>by simp at h⟩
 | a::l,r,h=>by
   obtain ⟨b,r',h1,h2,rfl⟩:=fk h
   obtain ⟨h3,h4⟩:=F0 h2
   refine ⟨by simp [h3],fun j c y hc hy=>?_⟩
   cases j with
   | zero=>simp at hc hy; subst hc hy; exact h1
   | succ j=>simp at hc hy; exact h4 j c y hc hy
theorem A' {x:Addr} {n:Nat} {cs:List Value} (h:w.cells? base x n=some cs):cs.length=n∧∀ j v,cs[j]? = some v->w.cell? (x.add j)=some v:=by
 unfold World.cells? at h
 split at h
 ·obtain ⟨hl,hg⟩:=F0 h
  rw [List.length_range] at hl
  refine ⟨hl,fun j v hj=>?_⟩
  have hjn:j<n:=by rw [<- hl]; exact (List.getElem?_eq_some_iff.1 hj).1
  exact hg j j v (List.getElem?_range hjn) hj
 ·cases h
theorem abx {n m:Nat} {e:TypeId} {ks:List CK} {a:Addr} {len:Nat} (jc:PE P n e=some ks) (hc:P.cellsOf e=ks.length)
  (hel:∀ i,i<len->∃ cs x,w.cells? base (a.add (i * P.cellsOf e)) (P.cellsOf e)=some cs∧ay2 enc P w base sp held m e cs=some x) :
  ∃ xs:List (List Sc),xs.length=len∧(∀ r∈xs,yn ks r)∧∀ j v,(aL ks xs)[j]? = some v->w.cell? (a.add j)=some v:=by
 induction len with
 | zero=>exact ⟨[],rfl,(fun r h=>by cases h),(fun j v h=>by simp [aL] at h)⟩
 | succ len ih=>
   obtain ⟨xs,hl,fI,il⟩:=ih fun i hi=>hel i (by omega)
   obtain ⟨cs,x,h1,h2⟩:=hel len (by omega)
   obtain ⟨row,rfl,hr⟩:=CV.row (lW jc h2)
   obtain ⟨h3,h4⟩:=A' h1
   refine ⟨xs++[row],by simp [hl],fun r hm=>?_,fun j v hj=>?_⟩
   ·rcases List.mem_append.1 hm with h | h
    ·exact fI r h
    ·rw [List.mem_singleton.1 h]; exact hr
   ·have e1:aL ks (xs++[row])=aL ks xs++bN ks row:=by simp [aL]
    rw [e1,List.getElem?_append] at hj
    split at hj
    ·exact il j v hj
    ·rename_i ff
     rw [bB,hl] at ff hj
     have:=h4 _ _ hj
     rw [hc] at this
     rw [show j=len * ks.length+(j - len * ks.length) by omega,<- Addr.add_add]
     exact this
theorem F1 {a:Addr} {vs:List Value} (er:Nat->Option Value) (h0:vs≠[]) (h:∀ j v,vs[j]? = some v->w.cell? (a.add j)=some v):∃ ax off,a=⟨ax,off,none⟩∧dE (topEnv w er) ax off vs:=by
 obtain ⟨ax,off,spot⟩:=a
 have Ch:0<vs.length:=List.length_pos_iff.2 h0
 have c0:=h 0 _ (axP Ch)
 have e0:(⟨ax,off,spot⟩:Addr).add 0=⟨ax,off,spot⟩:=by simp [Addr.add]
 rw [e0] at c0
 unfold World.cell? at c0
 split at c0
 ·rename_i c e fz hb
  have hsp:spot=none:=by
   cases spot with
   | none=>rfl
   | some n=>simp at c0
  subst hsp
  refine ⟨ax,off,rfl,?_,c,e,fz,hb,fun j u hj=>?_⟩
  ·have:ax<w.heap.size:=by
    rw [Array.getElem?_eq_some_iff] at hb
    exact hb.1
   simpa [topEnv] using this
  ·have cj:=h j u hj
   unfold World.cell? Addr.add at cj
   by_cases hj0:j=0
   ·subst hj0
    rw [if_pos rfl] at cj
    simp only [hb] at cj
    simpa using cj
   ·rw [if_neg hj0] at cj
    simp only [hb] at cj
    simpa using cj
 ·cases c0
theorem jf {n m:Nat} {t e:TypeId} {ks:List CK} {a:Option Addr} {len cap:Nat} {x:DataW H × List MemPlace} (er:Nat->Option Value) (hu:P.underlying t=some (.slice e)) (jc:PE P n e=some ks) (h0:0<ks.length) (hc:P.cellsOf e=ks.length)
  (h:ay2 enc P w base sp held m t [.slice a len cap]=some x) :
  ∃ xs:List (List Sc),xs.length=len∧len<=cap∧(∀ r∈xs,yn ks r)∧(xs=[]∨∃ ax off,a=some ⟨ax,off,none⟩∧dE (topEnv w er) ax off (aL ks xs)):=by
 rcases DataW.trod_slice hu h with ⟨hcs,_⟩ | ⟨a',auJ,sk,elems,rest,n',_,hcs,_,_,hl,_,hlen,hel,_⟩
 ·simp at hcs
  obtain ⟨rfl,rfl,rfl⟩:=hcs
  exact ⟨[],rfl,axB _,(fun r h=>by cases h),.inl rfl⟩
 ·simp at hcs
  obtain ⟨rfl,rfl,rfl⟩:=hcs
  obtain ⟨xs,h1,h2,h3⟩:=abx (H:=H) (enc:=enc) (w:=w) (base:=base) (sp:=sp) (held:=held) (m:=n') (a:=a') (len:=len) jc hc fun i hi=>by
   have hE:=hel i hi
   rw [axP (by omega:i<elems.length)] at hE
   simp only [Option.bind_eq_some_iff] at hE
   obtain ⟨cs,h1,h2⟩:=hE
   exact ⟨cs,_,h1,h2⟩
  refine ⟨xs,h1,hl,h2,?_⟩
  by_cases hx:xs=[]
  ·exact .inl hx
  ·right
   have b9:aL ks xs≠[]:=by
    intro he
    have LG:=bB ks xs
    rw [he] at LG
    have hp:0<xs.length:=List.length_pos_iff.2 hx
    have:=Nat.mul_pos hp h0
    rw [<- LG] at this
    simp at this
   obtain ⟨ax,off,rfl,hr⟩:=F1 er b9 h3
   exact ⟨ax,off,rfl,hr⟩
theorem F2 {k:IntKind} {xs:List (List Sc)} (h:∀ r∈xs,yn [.i k] r):aL [.i k] xs=(xs.map fun r=>(r.getD 0 (.i 0)).n).map (.int k)∧∀ n∈xs.map (fun r=>(r.getD 0 (.i 0)).n),(Lit.int k n).wf=true:=by
 induction xs with
 | nil=>exact ⟨rfl,fun n h=>by cases h⟩
 | cons r xs ih=>
   obtain ⟨h1,h2⟩:=ih fun r hr=>h r (by simp [hr])
   have hr:=h r (by simp)
   cases hr with
   | @cons _ s _ l hs hn=>
     cases hn
     cases s with
     | b x=>exact hs.elim
     | i n=>
       refine ⟨?_,fun m hm=>?_⟩
       ·have e:aL [.i k] ([.i n]::xs)=[.int k n]++aL [.i k] xs:=by simp [aL,bN,rowFrom,n8,Sc.n]
        rw [e,h1]; rfl
       ·rw [ay4,ayD] at hm
        rcases hm with rfl | hm
        ·exact hs
        ·exact h2 m hm
theorem yq {n m:Nat} {Γ:Env} (ih:∀ {t:TypeId} {ks:List Part} {cs:List Value} {x:DataW H × List MemPlace},zM P n t=some ks->ay2 enc P w base sp held m t cs=some x->R2 (PV Γ) ks cs) {cs:List Value} :
  ∀ {fs:List Field} {off:Nat} {ks:List Part} {xs:List (DataW H × List MemPlace)},Tm (zM P n) P.cellsOf off fs=some ks->
   (fs.mapM fun f=>ay2 enc P w base sp held m f.type ((cs.drop f.offset).take (P.cellsOf f.type)))=some xs->R2 (PV Γ) ks ((cs.drop off).take ks.length)
 | [],off,ks,xs,h,_=>by simp [Tm] at h; subst h; simp; exact .nil
 | f::fs,off,ks,xs,h,hx=>by
   simp only [Tm] at h
   split at h
   ·rename_i a b ha hb
    split at h
    ·rename_i hc
     cases h
     obtain ⟨y,ys,h1,h2,-⟩:=fk hx
     have r1:=ih ha h1
     have r2:=yq ih hb h2
     rw [hc.1,<- hc.2] at r1
     rw [<- hc.2] at r2
     have e:(cs.drop off).take (a++b).length=(cs.drop off).take a.length++(cs.drop (off+a.length)).take b.length:=by
      rw [axG,ay3,ayG]
     rw [e]
     exact r1.append r2
    ·cases h
   ·cases h
theorem yr {t e:TypeId} {m:Nat} {cs:List Value} {x:DataW H × List MemPlace} (hu:P.underlying t=some (.slice e)) (hx:ay2 enc P w base sp held m t cs=some x):∃ a len cap,cs=[.slice a len cap]∧len<=maxLen:=by
 rcases DataW.trod_slice hu hx with ⟨h,_⟩ | ⟨a,len,cap,elems,rest,n,_,h,_,_,h1,h2,_⟩
 ·exact ⟨none,0,0,h,Nat.zero_le _⟩
 ·exact ⟨some a,len,cap,h,ay5 h1 h2⟩
theorem Bc (er:Nat->Option Value):∀ {n:Nat} {t:TypeId} {ks:List Part} {m:Nat} {cs:List Value} {x:DataW H × List MemPlace},zM P n t=some ks->ay2 enc P w base sp held m t cs=some x->R2 (PV (topEnv w er)) ks cs
 | 0,t,ks,m,cs,x,h,_=>by simp [zM] at h
 | n+1,t,ks,0,cs,x,_,hx=>by simp [ay2] at hx
 | n+1,t,ks,m+1,cs,x,h,hx=>by
   simp only [zM] at h
   split at h
   ·rename_i k hu
    cases h
    obtain ⟨z,rfl,-,hw⟩:=DataW.trod_int hu hx
    exact .cons ⟨.i z,.i hw,rfl,rfl⟩ .nil
   ·rename_i hu
    cases h
    obtain ⟨z,rfl,-⟩:=DataW.trod_bool hu hx
    exact .cons ⟨.b z,.b,rfl,rfl⟩ .nil
   ·rename_i hu
    cases h
    obtain ⟨z,rfl,-,hs⟩:=DataW.trod_string hu hx
    exact .cons ⟨.s z,.s hs,rfl,rfl⟩ .nil
   ·rename_i e hu
    obtain ⟨a,len,cap,rfl,hlm⟩:=yr hu hx
    split at h
    ·rename_i k jc
     split at h
     ·rename_i hc
      cases h
      obtain ⟨xs,h1,h2,h3,h4⟩:=jf er hu jc (by simp) (by simpa using hc) hx
      obtain ⟨e1,e2⟩:=F2 h3
      refine .cons ⟨.is (xs.map fun r=>(r.getD 0 (.i 0)).n),.l e2 (by simp [h1]; exact hlm),⟨a,cap,by simp [FC.li,h1],by simpa [FC.li,h1] using h2,?_⟩,rfl⟩ .nil
      rcases h4 with h4 | ⟨ax,off,h4,h5⟩
      ·left; rw [h4]; rfl
      ·right; exact ⟨ax,off,h4,by show dE _ _ _ ((xs.map fun r=>(r.getD 0 (.i 0)).n).map (.int k)); rw [<- e1]; exact h5⟩
     ·cases h
    ·rename_i nT _ jc
     split at h
     ·rename_i hc
      cases h
      obtain ⟨xs,h1,h2,h3,h4⟩:=jf er hu jc hc.1 hc.2 hx
      exact .cons ⟨.rs xs,.lr h3 (by rw [h1]; exact hlm),⟨a,cap,by simp [FC.lr,h1],by simpa [FC.lr,h1] using h2,hc.1,h4⟩,rfl⟩ .nil
     ·cases h
    ·cases h
   ·rename_i fs hu
    split at h
    ·rename_i nT jc
     split at h
     ·rename_i hl
      cases h
      unfold ay2 at hx
      rw [hu] at hx
      simp only at hx
      split at hx
      ·rename_i hcs
       cases hm:(fs.toList.mapM fun f=>ay2 enc P w base sp held m f.type ((cs.drop f.offset).take (P.cellsOf f.type))) with
       | none=>rw [hm] at hx; cases hx
       | some xs=>
         have:=yq (fun {_ _ _ _} a b=>Bc er a b) jc hm
         rwa [axZ,axN (by omega)] at this
      ·cases hx
     ·cases h
    ·cases h
   ·cases h
theorem ai2 (er:Nat->Option Value) {n m:Nat} {e:TypeId} {sch:List Part} {a:Addr} {len:Nat} (jc:zM P n e=some sch) (hc:P.cellsOf e=aO sch)
  (hel:∀ i,i<len->∃ cs x,w.cells? base (a.add (i * P.cellsOf e)) (P.cellsOf e)=some cs∧ay2 enc P w base sp held m e cs=some x) :
  ∃ (xs:List (List FC)) (vs:List Value),xs.length=len∧(∀ r∈xs,R2 sM sch r)∧dD sch xs∧R2 (FR (topEnv w er)) (cL sch xs) vs∧vs.length=len * aO sch∧∀ j v,vs[j]? = some v->w.cell? (a.add j)=some v:=by
 induction len with
 | zero=>exact ⟨[],[],rfl,(fun r h=>by cases h),(fun r h=>by cases h),.nil,by simp,(fun j v h=>by simp at h)⟩
 | succ len ih=>
   obtain ⟨xs,vs,hl,fI,ht,hr,xy,il⟩:=ih fun i hi=>hel i (by omega)
   obtain ⟨cs,x,h1,h2⟩:=hel len (by omega)
   obtain ⟨row,r1,r2,r3⟩:=PV.row (Bc er jc h2)
   obtain ⟨h3,h4⟩:=A' h1
   refine ⟨xs++[row],vs++cs,by simp [hl],fun r hm=>?_,fun r hm=>?_,?_,?_,fun j v hj=>?_⟩
   ·rcases List.mem_append.1 hm with h | h
    ·exact fI r h
    ·rw [List.mem_singleton.1 h]; exact r1
   ·rcases List.mem_append.1 hm with h | h
    ·exact ht r h
    ·rw [List.mem_singleton.1 h]; exact r3
   ·rw [mS]
    refine hr.append ?_
    have:cL sch [row]=ay (bj sch row 0):=by simp [cL]
    rw [this]; exact r2
   ·rw [axG,xy,h3,hc,Nat.succ_mul]
   ·rw [List.getElem?_append] at hj
    split at hj
    ·exact il j v hj
    ·rename_i ff
     have:=h4 _ _ hj
     rw [hc] at this
     rw [xy] at this ff
     rw [show j=len * aO sch+(j - len * aO sch) by omega,<- Addr.add_add]
     exact this
theorem C1 {n m:Nat} {t e:TypeId} {sch:List Part} {a:Option Addr} {len cap:Nat} {x:DataW H × List MemPlace} (er:Nat->Option Value) (hu:P.underlying t=some (.slice e)) (jc:zM P n e=some sch) (h0:0<aO sch) (hc:P.cellsOf e=aO sch)
  (h:ay2 enc P w base sp held m t [.slice a len cap]=some x) :
  ∃ xs:List (List FC),xs.length=len∧len<=cap∧(∀ r∈xs,R2 sM sch r)∧dD sch xs∧(xs=[]∨∃ ax off vs,a=some ⟨ax,off,none⟩∧dE (topEnv w er) ax off vs∧R2 (FR (topEnv w er)) (cL sch xs) vs):=by
 rcases DataW.trod_slice hu h with ⟨hcs,_⟩ | ⟨a',auJ,sk,elems,rest,n',_,hcs,_,_,hl,_,hlen,hel,_⟩
 ·simp at hcs
  obtain ⟨rfl,rfl,rfl⟩:=hcs
  exact ⟨[],rfl,axB _,(fun r h=>by cases h),(fun r h=>by cases h),.inl rfl⟩
 ·simp at hcs
  obtain ⟨rfl,rfl,rfl⟩:=hcs
  obtain ⟨xs,vs,h1,h2,h2',h3,h3',h4⟩:=ai2 (H:=H) (enc:=enc) (w:=w) (base:=base) (sp:=sp) (held:=held) (m:=n') (a:=a') (len:=len) er jc hc fun i hi=>by
   have hE:=hel i hi
   rw [axP (by omega:i<elems.length)] at hE
   simp only [Option.bind_eq_some_iff] at hE
   obtain ⟨cs,h1,h2⟩:=hE
   exact ⟨cs,_,h1,h2⟩
  refine ⟨xs,h1,hl,h2,h2',?_⟩
  by_cases hx:xs=[]
  ·exact .inl hx
  ·right
   have b9:vs≠[]:=by
    intro he
    rw [he] at h3'
    have hp:0<xs.length:=List.length_pos_iff.2 hx
    have:=Nat.mul_pos (h1 ▸ hp) h0
    rw [<- h3'] at this
    simp at this
   obtain ⟨ax,off,rfl,hr⟩:=F1 er b9 h4
   exact ⟨ax,off,vs,rfl,hr,h3⟩
theorem Tn {t:TypeId} {v:Value} {d:DataW H} {p:List MemPlace} {sh:Sh} {b0:Nat} (er:Nat->Option Value) (pU:shT P t=some sh) (hval:Value.okWide P w .any b0 t v) (h:DataW.Trod enc P w base sp held t v d p) :
  ∃ x,cM (topEnv w er) x v∧wg sh x:=by
 unfold shT at pU
 split at pU
 ·rename_i k hu
  cases pU
  obtain ⟨n,rfl,-,-,hw⟩:=open_int hu hval h
  exact ⟨.c (.i k n),⟨rfl,rfl⟩,.i hw⟩
 ·rename_i hu
  cases pU
  obtain ⟨n,rfl,-⟩:=open_bool hu hval h
  exact ⟨.c (.b n),⟨rfl,rfl⟩,.b⟩
 ·rename_i hu
  cases pU
  obtain ⟨n,rfl,-,-,hs⟩:=open_string hu hval h
  exact ⟨.c (.s n),⟨rfl,rfl⟩,.s hs⟩
 ·rename_i e hu
  obtain ⟨a,len,cap,rfl⟩:=okWide_slice hu hval
  obtain ⟨fuel,hf⟩:=h
  have hf' : ay2 enc P w base sp held fuel t [.slice a len cap]=some (d,p):=by simpa [Value.cells] using hf
  split at pU
  ·rename_i k jc
   split at pU
   ·rename_i hc
    cases pU
    obtain ⟨xs,h1,h2,h3,h4⟩:=jf er hu jc (by simp) (by simpa using hc) hf'
    obtain ⟨e1,e2⟩:=F2 h3
    refine ⟨.c (.l k (xs.map fun r=>(r.getD 0 (.i 0)).n)),⟨⟨a,cap,by simp [h1],by simpa [h1] using h2,?_⟩,rfl⟩,.row e2⟩
    rcases h4 with h4 | ⟨ax,off,h4,h5⟩
    ·left; rw [h4]; rfl
    ·right; exact ⟨ax,off,h4,by rw [<- e1]; exact h5⟩
   ·cases pU
  ·rename_i ks _ jc
   split at pU
   ·rename_i hc
    cases pU
    obtain ⟨xs,h1,h2,h3,h4⟩:=jf er hu jc hc.1 hc.2 hf'
    exact ⟨.c (.lr ks xs),⟨⟨a,cap,by rw [h1],by rw [h1]; exact h2,hc.1,h4⟩,rfl⟩,.rows h3⟩
   ·cases pU
  ·split at pU
   ·rename_i sch jc
    split at pU
    ·rename_i hc
     cases pU
     obtain ⟨xs,h1,h2,h3,h4,h5⟩:=C1 er hu jc hc.1 hc.2 hf'
     obtain ⟨_,_,_,he,hlm⟩:=yr hu hf'
     have hlm:xs.length<=maxLen:=by
      simp at he
      rw [h1,he.2.1]; exact hlm
     exact ⟨.c (.lt sch xs),⟨⟨a,cap,by rw [h1],by rw [h1]; exact h2,hc.1,h4,h5⟩,rfl⟩,.ij h3 hlm⟩
    ·cases pU
   ·cases pU
 ·rename_i fs hu
  split at pU
  ·rename_i ks jc
   split at pU
   ·cases pU
    simp only [Value.okWide,hu] at hval
    obtain ⟨cs,rfl,-⟩:=hval
    obtain ⟨fuel,hf⟩:=h
    obtain ⟨row,e1,hr⟩:=CV.row (lW jc hf)
    have e1' : cs.toList=bN ks row:=by simpa [Value.cells] using e1
    exact ⟨.ag (bV ks row),⟨cs.toList,by simp,by rw [e1']; exact eE _ ks row⟩,.ag hr⟩
   ·cases pU
  ·split at pU
   ·rename_i ms hms
    cases pU
    simp only [Value.okWide,hu] at hval
    obtain ⟨cs,rfl,-⟩:=hval
    obtain ⟨fuel,hf⟩:=h
    obtain ⟨xs,h1,h2⟩:=MV.row (topEnv w er) (A9 hms hf)
    exact ⟨.ag xs,⟨cs.toList,by simp,by simpa [Value.cells] using h2⟩,.mix h1⟩
   ·cases pU
 ·rename_i q e hu
  split at pU
  ·rename_i ks jc
   split at pU
   ·cases pU
    simp only [Value.okWide,hu] at hval
    obtain ⟨cs,rfl,-⟩:=hval
    obtain ⟨fuel,hf⟩:=h
    obtain ⟨row,e1,hr⟩:=CV.row (lW jc hf)
    have e1' : cs.toList=bN ks row:=by simpa [Value.cells] using e1
    exact ⟨.ag (bV ks row),⟨cs.toList,by simp,by rw [e1']; exact eE _ ks row⟩,.ag hr⟩
   ·cases pU
  ·cases pU
 ·cases pU
theorem F3 (er:Nat->Option Value) {b0:Nat}:∀ {ts:List TypeId} {shs:List Sh} {vs:List Value} {ds:List (DataW H)} {ps:List MemPlace},dJ (shT P) ts=some shs->(∀ (j:Nat) t v,ts[j]? = some t->vs[j]? = some v->Value.okWide P w .any b0 t v)->
  ay6 enc P w base sp held ts vs ds ps->∃ xs,R2 (cM (topEnv w er)) xs vs∧R2 wg shs xs
 | [],shs,vs,ds,ps,hs,_,h=>by
   simp [dJ] at hs
   subst hs
   obtain ⟨rfl,rfl,rfl⟩:=trodAll_nil h
   exact ⟨[],.nil,.nil⟩
 | t::ts,shs,vs,ds,ps,hs,hval,h=>by
   obtain ⟨v,vs',d,ds',p,q,rfl,rfl,rfl,h1,h2⟩:=trodAll_cons h
   simp only [dJ] at hs
   split at hs
   ·rename_i a l ha hl
    cases hs
    obtain ⟨x,r1,o1⟩:=Tn er ha (hval 0 t v rfl rfl) h1
    obtain ⟨xs,r2,o2⟩:=F3 er hl (fun j t v ht hv=>hval (j+1) t v ht hv) h2
    exact ⟨x::xs,.cons r1 r2,.cons o1 o2⟩
   ·cases hs
end
theorem Bd {H:Type} {enc:TypeId × Value->H} {P:Program} {W W' : World} (hl:laidOutB P=true) (hb:Below W.heap.size W W'):∀ {ts:List TypeId} {vs:List Value} {ds:List (DataW H)} {ps:List MemPlace},(ts.all fun t=>P.readableRec t&&decide (t<P.types.size))=true->
  ay6 enc P W 0 (fun _=>true) true ts vs ds ps->ay6 enc P W' 0 (fun b=>decide (b<W.heap.size)) true ts vs ds ps
 | [],vs,ds,ps,_,h=>by
   obtain ⟨rfl,rfl,rfl⟩:=trodAll_nil h
   rfl
 | t::ts,vs,ds,ps,hr,h=>by
   obtain ⟨v,vs',d,ds',p,q,rfl,rfl,rfl,h1,h2⟩:=trodAll_cons h
   simp only [List.all_cons,ayu,decide_eq_true_eq] at hr
   have lt:∀ x∈p,x.block<W.heap.size:=by obtain ⟨m,hm⟩:=h1; exact DataW.trod_lt m _ _ _ hm
   exact trodAll_cons_mk (Below.trod hl hr.1.1 hr.1.2 h1 hb lt) (Bd hl hb (by simpa using hr.2) h2)
theorem oQ {H:Type} {enc:TypeId × Value->H} {P:Program} {W:World} {base:Nat} {sp:Nat->Bool} {held:Bool}:∀ {ts:List TypeId} {vs:List Value} {ds:List (DataW H)} {ps:List MemPlace},ay6 enc P W base sp held ts vs ds ps->ds.length=ts.length
 | [],vs,ds,ps,h=>by obtain ⟨rfl,rfl,rfl⟩:=trodAll_nil h; rfl
 | t::ts,vs,ds,ps,h=>by
   obtain ⟨v,vs',d,ds',p,q,rfl,rfl,rfl,h1,h2⟩:=trodAll_cons h
   simp [oQ h2]
end Go.Nx
namespace Go.Nx
open Go
def nr (o o' : Out):Prop:=∀ (Γ0 Γ:Env) (w0 w:World) (v:Value),Ext Γ0 w0 Γ->b5 Γ o.res v->aQ Γ o.rg w->∃ Γ',Ext Γ0 w0 Γ'∧b5 Γ' o'.res v∧aQ Γ' o'.rg w
theorem nr.refl (o:Out):nr o o:=fun _ Γ _ _ _ h1 h2 h3=>⟨Γ,h1,h2,h3⟩
theorem nr.trans {a b c:Out} (h:nr a b) (k:nr b c):nr a c:=fun Γ0 Γ w0 w v h1 h2 h3=>by
 obtain ⟨Γ',h4,h5,h6⟩:=h Γ0 Γ w0 w v h1 h2 h3
 exact k Γ0 Γ' w0 w v h4 h5 h6
theorem Known.To {P:Program} {gl:List Nat} {f:FuncId} {T T' : au} (h:Known P gl f T) (hT:∀ args I R,(T' args I).run R->(T args I).run fun o=>∃ o',nr o o'∧R o'):Known P gl f T':=by
 refine ⟨h.qV,fun args I R hR Γ w vs hw hG hv hn=>?_⟩
 refine (h.sound args I _ (hT args I R hR) Γ w vs hw hG hv hn).mono ?_
 rintro e w' ⟨o,v,Γ',⟨o',hO,ho⟩,he,hE,hS,hW,hd⟩
 obtain ⟨Jd,h1,h2,h3⟩:=hO Γ Γ' w w' v hE hS hW
 exact ⟨o',v,Jd,ho,he,h1,h2,h3,hd⟩
theorem aQ.Tp {Γ:Env} {rg mY : List (Option aG)} {w:World} (h:aQ Γ rg w) (hs:∀ (n:Nat) (g:aG),mY[n]? = some (some g)->rg[n]? = some (some g)):aQ Γ mY w:=by
 have hl:∀ n:Nat,Nx.live mY n->Nx.live rg n:=fun n ⟨g,hg⟩=>⟨g,hs n g hg⟩
 exact ⟨fun n g hg=>h.live n g (hs n g hg),fun n m B B' b9 ha hb=>h.inj n m B B' b9 (hl n ha) (hl m hb),h.kp,fun n B hn=>h.apart n B (hl n hn),h.ro⟩
theorem nr.drop {x:NS} {rg mY : List (Option aG)} (hs:∀ (n:Nat) (g:aG),mY[n]? = some (some g)->rg[n]? = some (some g)):nr ⟨x,rg⟩ ⟨x,mY⟩:=
 fun _ Γ _ _ _ h1 h2 h3=>⟨Γ,h1,h2,h3.Tp hs⟩
def jw (o o' : Out):Prop:=∀ (Γ0 Γ:Env) (w0 w:World) (v:Value),Ext Γ0 w0 Γ->b5 Γ o.res v->aQ Γ o.rg w->(∀ n,o.rg.length<=n->Γ.μ n=none)->
 ∃ Γ',Ext Γ0 w0 Γ'∧b5 Γ' o'.res v∧aQ Γ' o'.rg w∧∀ n,o'.rg.length<=n->Γ'.μ n=none
theorem jw.refl (o:Out):jw o o:=fun _ Γ _ _ _ h1 h2 h3 h4=>⟨Γ,h1,h2,h3,h4⟩
theorem jw.trans {a b c:Out} (h:jw a b) (k:jw b c):jw a c:=fun Γ0 Γ w0 w v h1 h2 h3 h4=>by
 obtain ⟨Γ',h5,h6,h7,h8⟩:=h Γ0 Γ w0 w v h1 h2 h3 h4
 exact k Γ0 Γ' w0 w v h5 h6 h7 h8
theorem bP.To {P:Program} {gl:List Nat} {f:FuncId} {T T' : au} (h:bP P gl f T) (hT:∀ args I R,(T' args I).run R->(T args I).run fun o=>∃ o',jw o o'∧R o'):bP P gl f T':=by
 refine ⟨h.qV,fun args I R hR Γ w vs hw hG hv hn=>?_⟩
 refine (h.sound args I _ (hT args I R hR) Γ w vs hw hG hv hn).mono ?_
 rintro e w' ⟨o,v,Γ',⟨⟨o',hO,ho⟩,hf⟩,he,hE,hS,hW,hd⟩
 obtain ⟨Jd,h1,h2,h3,h4⟩:=hO Γ Γ' w w' v hE hS hW hf
 exact ⟨o',v,Jd,⟨ho,h4⟩,he,h1,h2,h3,hd⟩
inductive RC where
 | t (c:Bool)
 | f (c:Bool)
 | m (p:Prop)
 | T (n:Nat)
 | F (n:Nat)
def scr:List RC->List Bool
 | []=>[]
 | .t _::l=>true::scr l
 | .f _::l=>false::scr l
 | .m _::l=>scr l
 | .T n::l=>axx n true++scr l
 | .F n::l=>axx n false++scr l
def Tr.fol {α:Type}:Tr α->List Bool->Tr α
 | .ret a,_=>.ret a
 | .aF p x,bs=>.aF p (x.fol bs)
 | .br _ _ _,[]=>.fail
 | .br c x _,true::bs=>.aF (c=true) (x.fol bs)
 | .br c _ y,false::bs=>.aF (c=false) (y.fol bs)
 | .all p h f,bs=>.all p h fun i=>(f i).fol bs
 | .fail,_=>.fail
theorem Tr.sN {α:Type} {R:α->Prop}:∀ (t:Tr α) (bs:List Bool),(t.fol bs).run R->t.run R
 | .ret _,_,h=>h
 | .aF _ x,bs,h=>⟨h.1,sN x bs h.2⟩
 | .br _ _ _,[],h=>h.elim
 | .br _ x _,true::bs,h=>aW.2 (.inl ⟨h.1,sN x bs h.2⟩)
 | .br _ _ y,false::bs,h=>aW.2 (.inr ⟨h.1,sN y bs h.2⟩)
 | .all _ _ f,bs,h=>fun i hi=>sN (f i) bs (h i hi)
 | .fail,_,h=>h
def rep:Nat->Prop->Prop->Prop
 | 0,_,A=>A
 | n+1,p,A=>p∧rep n p A
def yu:List RC->Prop->Prop
 | [],A=>A
 | .t c::l,A=>c=true∧yu l A
 | .f c::l,A=>c=false∧yu l A
 | .m p::l,A=>p∧yu l A
 | .T n::l,A=>rep n (true=true) (yu l A)
 | .F n::l,A=>rep n (false=false) (yu l A)
def conds:List RC->Prop
 | []=>True
 | .t c::l=>c=true∧conds l
 | .f c::l=>c=false∧conds l
 | .m p::l=>p∧conds l
 | .T _::l=>conds l
 | .F _::l=>conds l
theorem Je {p A:Prop} (hp:p) (hA:A):∀ n,rep n p A
 | 0=>hA
 | n+1=>⟨hp,Je hp hA n⟩
theorem pY {A:Prop}:∀ {l:List RC},conds l->A->yu l A
 | [],_,hA=>hA
 | .t _::_,h,hA=>⟨h.1,pY h.2 hA⟩
 | .f _::_,h,hA=>⟨h.1,pY h.2 hA⟩
 | .m _::_,h,hA=>⟨h.1,pY h.2 hA⟩
 | .T n::l,h,hA=>Je rfl (pY (l:=l) h hA) n
 | .F n::l,h,hA=>Je rfl (pY (l:=l) h hA) n
theorem wS {α:Type} {t:Tr α} {R:α->Prop} {l:List RC} {A:Prop} (h:(t.fol (scr l)).run R=yu l A) (hc:conds l) (hA:A):t.run R:=Tr.sN _ _ (h.mpr (pY hc hA))
def NC.C2 (K:Nat):NC->Bool
 | .e k=>k !=K
 | _=>true
def NV.C2 (K:Nat) (x:NV):Bool:=x.gU.all (NC.C2 K)
def NS.C2 (K:Nat):NS->Bool
 | .v x=>x.C2 K
 | .tu l=>l.all (NV.C2 K)
 | .dead=>true
def Tq (K:Nat) (l:List (Option aG)):Bool:=l.all fun g=>match g with
 | some {body:=.cells xs,..}=>xs.all (NC.C2 K)
 | some {body:=.sg l,..}=>(dt l).all (NC.C2 K)
 | _=>true
def uq (K:Nat) (s:St) (op:Op):Option (List NV):=
 match op with
 | .call c=>(match c.callee with
   | .value f=>(match s.ev f with
     | .v (.c (.e k))=>if k=K then ku (c.args.toList.map s.ev) else none
     | _=>none)
   | _=>none)
 | _=>none
abbrev Yh:=List NV->List (Option aG)->Tr (Option aj × List (Option aG))
abbrev LI:=List (Nat × List Nat × (St × Option aj->Tr (aj × St × Option aj)))
def Ts {β:Type} (X:Cx) (Y:Yh) (K:Nat) (ops:Array Oper) (o:Oper) (s:St) (p:Option aj) (k:St->Option aj->Tr β):Tr β:=
 match uq K s o.op with
 | none=>xp ops o (Ay X o.op s.rg.length) s fun s'=>k s' p
 | some args=>
   match p with
   | none=>(match o.guard with
     | none=>(Y args s.rg).bind fun r=>k (St.put {fr:=s.fr,rg:=r.2} o.dst (lit r.1.isNone)) r.1
     | some (j,want)=>(match pL ops j with
       | some d=>(match s.fr[d]? with
         | some (.v (.c (.b x)))=>.aF (x=want) ((Y args s.rg).bind fun r=>k (St.put {fr:=s.fr,rg:=r.2} o.dst (lit r.1.isNone)) r.1)
         | _=>.fail)
       | none=>.fail))
   | some _=>.fail
def PG {β:Type} (X:Cx) (Y:Yh) (K:Nat) (ops:Array Oper):List Oper->St->Option aj->(St->Option aj->Tr β)->Tr β
 | [],s,p,k=>k s p
 | o::rest,s,p,k=>Ts X Y K ops o s p fun s' p'=>PG X Y K ops rest s' p' k
def q9 {β:Type} (X:Cx) (Y:Yh) (K:Nat) (ls:LI):Code->St->Option aj->(aj->St->Option aj->Tr β)->Tr β
 | .skip,s,p,k=>k .normal s p
 | .seq a b,s,p,k=>q9 X Y K ls a s p fun e s' p'=>match e with
   | .normal=>q9 X Y K ls b s' p' k
   | e=>k e s' p'
 | .cond c a b,s,p,k=>
   (match c,s.ev c with
    | .tmp t,.v (.c (.b x))=>.br x (q9 X Y K ls a (s.put (some t) (lit true)) p k) (q9 X Y K ls b (s.put (some t) (lit false)) p k)
    | _,.v (.c (.b x))=>.br x (q9 X Y K ls a s p k) (q9 X Y K ls b s p k)
    | _,_=>.fail)
 | .block id c,s,p,k=>
   (match c with
    | .loop _=>
      (match ls.find? (·.1==id) with
       | some (_,live,L)=>(match norm X.m live s with
         | some s'=>(L (s',p)).bind fun x=>k x.1 x.2.1 x.2.2
         | none=>.fail)
       | none=>.fail)
    | c=>q9 X Y K ls c s p fun e s' p'=>match e with
      | .exit j=>if j=id then k .normal s' p' else k (.exit j) s' p'
      | e=>k e s' p')
 | .exit id,s,p,k=>k (.exit id) s p
 | .ret,s,p,k=>k .ret s p
 | .region _ ops false,s,p,k=>PG X Y K ops ops.toList s p (k .normal)
 | .region _ ops true,s,p,k=>
   (match qP X.P ops&&X.P.follows .mixedOrders with
    | true=>xu X ops s.rg.length (axy ops.size) {s with rg:=s.rg++axx (16 * ops.size) none} fun s'=>k .normal s' p
    | false=>.fail)
 | _,_,_,_=>.fail
def oR:List NS->List Tmp->List NV->List NS
 | fr,t::ts,x::xs=>oR (fr.set t (.v x)) ts xs
 | fr,_,_=>fr
def vI (X:Cx) (ps:Array Tmp) (assign body:Code) (fr:List NS):Yh:=fun args rg=>
 if args.length=ps.size then
  zV {P:=X.P,con:=X.con,glob:=X.glob,m:=rg.length,loops:=[]} assign {fr:=oR fr ps.toList args,rg:=rg} fun e s1=>match e with
   | .normal=>zV {P:=X.P,con:=X.con,glob:=X.glob,m:=rg.length,loops:=[]} body s1 fun e s2=>match e with
     | .normal=>.ret (none,s2.rg)
     | e=>.ret (some e,s2.rg)
   | _=>.fail
 else .fail
def L0 (id:Nat):Option aj->Option aj
 | none=>some .normal
 | some (.exit j)=>if j=id then some .normal else some (.exit j)
 | some .ret=>some .ret
 | some .normal=>none
def yw (X:Cx) (K id:Nat) (out:List Nat) (fr:List NS) (s:St) (p:Option aj):Tr (aj × St):=
 match Tq K s.rg,L0 id p,norm X.m out {fr:=fr,rg:=s.rg} with
 | true,some e,some Ja=>.ret (e,Ja)
 | _,_,_=>.fail
def C3 (X:Cx) (K:Nat) (con:FuncId->Option au) (ls:Nat->List NS->LI) (id:Nat) (out:List Nat) (gf:FuncId) (fn:Func) (c:Code) (s:St):Tr (aj × St):=
 match c with
 | .rangeFunc g ps assign body=>
   (match s.ev g with
    | .v (.c (.cl gf' cap))=>
      (match decide (gf'=gf)&&s.fr.all (NS.C2 K)&&Tq K s.rg&&!X.glob.tail.contains K,fn.body with
       | true,some cg=>q9 {P:=X.P,con:=con,glob:=X.glob,m:=s.rg.length,loops:=[]} (vI X ps assign body s.fr) K (ls s.rg.length s.fr) cg
          {fr:=(.v (.c (.e K))::cap.map fun x=>.v (.c (.p x.1 x.2.1 x.2.2)))++axx (fn.ntmps - (1+cap.length)) .dead,rg:=s.rg} none
          fun e s' p=>match e with
           | .exit _=>.fail
           | _=>yw X K id out s.fr s' p
       | _,_=>.fail)
    | _=>.fail)
 | _=>.fail
def Env.ao4 (K:Nat) (v:Value) (Γ:Env):Env:={μ:=Γ.μ,kp:=Γ.kp,ro:=Γ.ro,er:=fun k=>if k=K then some v else Γ.er k}
structure dx (K:Nat) (Γ Γ' : Env):Prop where
 μ:Γ'.μ=Γ.μ
 kp:Γ'.kp=Γ.kp
 ro:Γ'.ro=Γ.ro
 er:∀ k,k≠K->Γ'.er k=Γ.er k
theorem dx.set (K:Nat) (v:Value) (Γ:Env):dx K Γ (Γ.ao4 K v):=⟨rfl,rfl,rfl,fun _ h=>if_neg h⟩
section
variable {K:Nat} {Γ Γ' : Env}
theorem dx.pt (h:dx K Γ Γ') (n:Nat):Γ'.pt n=Γ.pt n:=by unfold Env.pt; rw [h.μ]
theorem dx.wh (h:dx K Γ Γ') (n:Nat):Γ'.wh n=Γ.wh n:=by unfold Env.wh; rw [h.μ]
theorem dx.vJ (h:dx K Γ Γ') {b o:Nat} {vs:List Value} (r:dE Γ b o vs):dE Γ' b o vs:=by
 obtain ⟨h1,c,e,fz,h2,h3⟩:=r
 exact ⟨by rw [h.ro]; exact h1,c,e,fz,by rw [h.kp]; exact h2,h3⟩
theorem dx.fr (h:dx K Γ Γ') {x:NC} {v:Value} (r:FR Γ x v):FR Γ' x v:=by
 refine ⟨?_,r.2⟩
 replace r:=r.1
 cases x with
 | l k xs=>
   obtain ⟨a,cap,h1,h2,h3⟩:=r
   exact ⟨a,cap,h1,h2,h3.imp id fun ⟨ax,off,h4,h5⟩=>⟨ax,off,h4,h.vJ h5⟩⟩
 | lr ks xs=>
   obtain ⟨a,cap,h1,h2,h0,h3⟩:=r
   exact ⟨a,cap,h1,h2,h0,h3.imp id fun ⟨ax,off,h4,h5⟩=>⟨ax,off,h4,h.vJ h5⟩⟩
 | _=>exact r
theorem dx.ur (h:dx K Γ Γ') {sch:List Part} {row:List FC} {v:Value} (r:gR Γ sch row v):gR Γ' sch row v:=by
 obtain ⟨vs,h1,h2,h3⟩:=r
 exact ⟨vs,h1,h2.imp fun _ _ r=>h.fr r,h3⟩
theorem dx.ao5 (h:dx K Γ Γ') {x:NC} {v:Value} (hx:x.C2 K=true) (r:lH Γ x v):lH Γ' x v:=by
 cases x with
 | p r' i c=>obtain ⟨B,h1,h2⟩:=r; exact ⟨B,by rw [h.pt]; exact h1,h2⟩
 | h r' o n=>obtain ⟨B,o,cap,h1,h2⟩:=r; exact ⟨B,o,cap,by rw [h.wh]; exact h1,h2⟩
 | hz r' n=>
   rcases r with ⟨h1,h2,B,h3⟩ | ⟨B,o,cap,h1,h2⟩
   ·exact .inl ⟨h1,h2,B,by rw [h.μ]; exact h3⟩
   ·exact .inr ⟨B,o,cap,by rw [h.wh]; exact h1,h2⟩
 | q r' o w i c=>obtain ⟨B,h1,h2⟩:=r; exact ⟨B,by rw [h.pt]; exact h1,h2⟩
 | hq r' o w i n=>obtain ⟨B,a,cap,h1,h2⟩:=r; exact ⟨B,a,cap,by rw [h.pt]; exact h1,h2⟩
 | l k xs=>
   obtain ⟨a,cap,h1,h2,h3⟩:=r
   exact ⟨a,cap,h1,h2,h3.imp id fun ⟨ax,off,h4,h5⟩=>⟨ax,off,h4,h.vJ h5⟩⟩
 | lr ks xs=>
   obtain ⟨a,cap,h1,h2,h0,h3⟩:=r
   exact ⟨a,cap,h1,h2,h0,h3.imp id fun ⟨ax,off,h4,h5⟩=>⟨ax,off,h4,h.vJ h5⟩⟩
 | pl k xs i=>obtain ⟨ax,off,h1,h2⟩:=r; exact ⟨ax,off,h1,h.vJ h2⟩
 | pr ks xs i c=>obtain ⟨ax,off,h1,h2⟩:=r; exact ⟨ax,off,h1,h.vJ h2⟩
 | m r'=>obtain ⟨B,h1,h2⟩:=r; exact ⟨B,by rw [h.pt]; exact h1,h2⟩
 | lt sch xs=>
   obtain ⟨a,cap,h1,h2,h0,hk,h3⟩:=r
   exact ⟨a,cap,h1,h2,h0,hk,h3.imp id fun ⟨b,o,vs,h4,h5,h6⟩=>⟨b,o,vs,h4,h.vJ h5,h6.imp fun _ _ r=>h.fr r⟩⟩
 | pt sch xs i c=>
   obtain ⟨b,o,vs,h1,h0,hk,h2,h3⟩:=r
   exact ⟨b,o,vs,h1,h0,hk,h.vJ h2,h3.imp fun _ _ r=>h.fr r⟩
 | e k=>
   have hk:k≠K:=by simpa [NC.C2] using hx
   show Γ'.er k=some v
   rw [h.er k hk]; exact r
 | cl f cap=>
   obtain ⟨caps,h1,h2⟩:=r
   exact ⟨caps,h1,h2.imp fun a b ⟨B,h3,h4⟩=>⟨B,by rw [h.pt]; exact h3,h4⟩⟩
 | _=>exact r
theorem dx.cells (h:dx K Γ Γ') {xs:List NC} {vs:List Value} (hx:xs.all (NC.C2 K)=true) (r:R2 (CR Γ) xs vs):R2 (CR Γ') xs vs:=
 r.imp_mem fun x _ hm r=>⟨h.ao5 (List.all_eq_true.1 hx x hm) r.1,r.2⟩
theorem F4 {l:List bq} (h:(dt l).all (NC.C2 K)=true):(ay l).all (NC.C2 K)=true:=by
 rw [List.all_eq_true] at h ⊢
 intro x hx
 rcases Iz hx with hx | ⟨k,s,rfl⟩
 ·exact h x hx
 ·cases k <;> rfl
theorem dx.ao6 (h:dx K Γ Γ') {x:NV} {v:Value} (hx:x.C2 K=true) (r:cM Γ x v):cM Γ' x v:=by
 cases x with
 | c x=>exact ⟨h.ao5 (by simpa [NV.C2,NV.gU] using hx) r.1,r.2⟩
 | ag xs=>obtain ⟨vs,h1,h2⟩:=r; exact ⟨vs,h1,h.cells hx h2⟩
 | sg l=>obtain ⟨vs,h1,h2,h3⟩:=r; exact ⟨vs,h1,h.cells (F4 hx) h2,h3⟩
theorem dx.auK (h:dx K Γ Γ') {x:NS} {v:Value} (hx:x.C2 K=true) (r:b5 Γ x v):b5 Γ' x v:=by
 cases x with
 | v x=>exact h.ao6 hx r
 | tu l=>obtain ⟨vs,h1,h2⟩:=r; exact ⟨vs,h1,h2.imp_mem fun x _ hm r=>h.ao6 (List.all_eq_true.1 hx x hm) r⟩
 | dead=>trivial
theorem dx.frame (h:dx K Γ Γ') {fr:List NS} {t:Array Value} (hx:fr.all (NS.C2 K)=true) (r:cO Γ fr t):cO Γ' fr t:=
 R2.imp_mem r fun x _ hm r=>h.auK (List.all_eq_true.1 hx x hm) r
theorem dx.body (h:dx K Γ Γ') {st:Nat} {b:Body} {vs:List Value} (hx:∀ xs,b=.cells xs->xs.all (NC.C2 K)=true) (hs:∀ l,b=.sg l->(dt l).all (NC.C2 K)=true) (r:bG Γ st b vs):bG Γ' st b vs:=by
 cases b with
 | cells xs=>obtain ⟨l1,l2,h1,h2⟩:=r; exact ⟨l1,l2,h1,h.cells (hx xs rfl) h2⟩
 | sg l=>obtain ⟨l1,l2,h1,h2,h3⟩:=r; exact ⟨l1,l2,h1,h.cells (F4 (hs l rfl)) h2,h3⟩
 | ints k xs=>exact r
 | aA ks xs=>exact r
 | mp ks sch xs=>exact r
 | ij sch xs=>obtain ⟨hs,h0,l1,l2,h1,h2,h3⟩:=r; exact ⟨hs,h0,l1,l2,h1,h2.imp fun _ _ r=>h.fr r,h3⟩
theorem dx.world (h:dx K Γ Γ') {rg:List (Option aG)} {w:World} (hx:Tq K rg=true) (r:aQ Γ rg w):aQ Γ' rg w:=by
 refine ⟨fun n g hg=>?_,fun n m B B' b9 hn hm hB sj=>r.inj n m B B' b9 hn hm (by rw [<- h.pt]; exact hB) (by rw [<- h.pt]; exact sj),by rw [h.kp]; exact r.kp,fun n B hn hB=>by rw [h.kp]; exact r.apart n B hn (by rw [<- h.pt]; exact hB),by rw [h.ro,h.kp]; exact r.ro⟩
 obtain ⟨B,hB,hr⟩:=r.live n g hg
 refine ⟨B,by rw [h.μ]; exact hB,?_⟩
 rcases hr with hr | ⟨h0,c,hA⟩ | ⟨h0,hM⟩
 ·exact .inl hr
 rotate_left
 ·obtain ⟨⟨ks,sch,xs,es,ck,h1,h2,h3⟩,h4,h5⟩:=hM
  exact .inr (.inr ⟨h0,⟨ks,sch,xs,es,ck,h1,h2,h3.imp fun _ _ r=>⟨h.ur r.1,h.ur r.2⟩⟩,h4,h5⟩)
 refine .inr (.inl ⟨h0,c,hA.heap,hA.st,hA.sz,h.body (fun xs hb=>?_) (fun l hb=>?_) hA.body,hA.part⟩)
 ·have:=List.all_eq_true.1 hx (some g) (List.mem_of_getElem? hg)
  obtain ⟨st,e,body⟩:=g
  simp only at hb
  subst hb
  exact this
 ·have:=List.all_eq_true.1 hx (some g) (List.mem_of_getElem? hg)
  obtain ⟨st,e,body⟩:=g
  simp only at hb
  subst hb
  exact this
theorem dx.glob (h:dx K Γ Γ') {gl:List Nat} (hx:gl.tail.contains K=false) (r:GlobOk gl Γ):GlobOk gl Γ':=by
 have b9:∀ x∈gl.tail,x≠K:=fun x hm e=>by
  subst e
  have:gl.tail.contains x=true:=by simpa using hm
  rw [hx] at this; cases this
 refine ⟨fun x hm=>?_,fun x hm y hm' hxy=>by rw [h.er x (b9 x hm),h.er y (b9 y hm')]; exact r.2 x hm y hm' hxy⟩
 rw [h.er x (b9 x hm),h.kp]
 exact r.1 x hm
end
theorem Ext.Tt {A B:Env} {w:World} (l:List Nat) (h:Ext A w B):Ext (A.strip l) w (B.strip l):=by
 refine ⟨⟨h.le.μ,fun b o hb=>?_,fun b hb=>?_,h.le.er⟩,fun b hb=>?_,h.nw⟩
 ·have hH : (if b∈l then none else A.kp b)=some o:=hb
  by_cases hm:b∈l
  ·rw [if_pos hm] at hH; cases hH
  ·rw [if_neg hm] at hH; exact (eD hm).trans (h.le.kp b o hH)
 ·have hH : (if b∈l then false else A.ro b)=true:=hb
  by_cases hm:b∈l
  ·rw [if_pos hm] at hH; cases hH
  ·rw [if_neg hm] at hH; exact (kO hm).trans (h.le.ro b hH)
 ·have hH : (if b∈l then false else B.ro b)=true:=hb
  by_cases hm:b∈l
  ·rw [if_pos hm] at hH; cases hH
  ·rw [if_neg hm] at hH
   rcases h.ro b hH with h1 | h1 | h1
   ·exact .inl ((kO hm).trans h1)
   ·exact .inr (.inl h1)
   ·exact .inr (.inr h1)
theorem F5 (l:List Nat) (Γ:Env):(Γ.strip l).strip l=Γ.strip l:=by
 unfold Env.strip
 simp only [Env.mk.injEq,true_and,and_true]
 refine ⟨funext fun b=>?_,funext fun b=>?_⟩ <;> (by_cases h:b∈l <;> simp [h])
theorem Jf (b:Nat) (o:Obj) (Γ:Env):(Γ.hold b o).strip [b]=Γ.strip [b]:=by
 unfold Env.strip Env.hold
 simp only [Env.mk.injEq,true_and,and_true]
 refine funext fun b'=>?_
 by_cases h:b'=b <;> simp [h]
theorem q' (b:Nat) (Γ:Env):(Γ.strip [b]).kp b=none:=if_pos (by simp)
theorem oV {Γ:Env} {b:Nat} {o:Obj} (h:Γ.kp b=some o) (ho:o.Pz=false):dM Γ [b]:=fun b' hb=>by
 rw [ayx] at hb
 subst hb
 exact ⟨o,h,ho⟩
theorem yx {w:World} {b:Nat} {o:Obj}:∀ b',b' ∉ [b]->(w.putObj b o).heap[b']? = w.heap[b']?:=fun b' h=>World.putObj_heap_other (by simpa using h)
theorem lX (w:World) (b:Nat) (o:Obj):Wd w (w.putObj b o):=⟨rfl,rfl,rfl,by rw [World.putObj_size]; exact axB _⟩
theorem Inv.sr {gl:List Nat} {N:Nat} {Γ:Env} {s:St} {a:Act} {w:World} {b:Nat} {o o' : Obj} (h:Inv gl N Γ s a w) (hk:Γ.kp b=some o) (ho:o.Pz=false) (Pq : o'.Pz=false) (hd:∀ D,N<=D->Γ.kp D=some (.deferred (some []))->D≠b) :
  Inv gl N ((Γ.strip [b]).hold b o') s a (w.putObj b o'):=by
 have hn:=oV hk ho
 have hle:=pX (o:=o') (q' b Γ)
 have ff:b<w.heap.size:=(Array.getElem?_eq_some_iff.1 (h.wr.kp b o hk)).1
 refine ⟨(h.wr.strip hn yx).hold (q' b Γ) (World.putObj_heap_same ff) Pq,(cO.strip hn h.fr).mono hle,(h.gl.strip hn).mono hle,h.nw,?_⟩
 obtain ⟨l,h1,h2,h3⟩:=h.df
 refine ⟨l,h1,h2,fun D hD=>⟨(h3 D hD).1,hle.kp _ _ ?_⟩⟩
 exact (eD (by simpa using hd D (h3 D hD).1 (h3 D hD).2)).trans (h3 D hD).2
def agp:Exit->Act->World->Prop:=fun _ _ _=>False
def lY:Op->Bool
 | .defer _=>false
 | _=>true
theorem yy {P:Program} {o:Oper} {a:Act} {w:World} {K K' : Act->World->Prop} {Q0 Q:Exit->Act->World->Prop} (ro:Option Nat) (hd:lY o.op=true) (hN:∀ e a w,Q0 e a w->e=.normal) (hKK:∀ a w,K a w->K' a w) (h:o.wp P a w K Q0) :
  o.wpIn {Fence.wide with round:=ro} 0 P a w K' Q:=by
 unfold Oper.wp at h
 refine ⟨fun _ _=>trivial,?_⟩
 have hs:o.semAt ro a.eval=execOp a.eval o:=Oper.semAt_eq ro a.eval o fun c hc=>by rw [hc] at hd; cases hd
 show o.uponIn _ 0 P a K' Q ((o.semAt ro a.eval).run P w)
 rw [hs]
 generalize (execOp a.eval o).run P w=r at h
 cases r with
 | ok n w'=>
   cases n with
   | value v=>exact hKK _ _ h
   | skip=>exact hKK _ _ h
   | defer d=>exact hKK _ _ h
   | enter f args=>
     have h:Calls P f args w' _:=h
     refine ⟨fun hh=>by simp [Fence.wide] at hh,?_⟩
     refine (callsIn_wide (n:=0)).2 (h.mono fun e w2 he=>?_)
     cases e with
     | returned v=>exact hKK _ _ he
     | panicked ch=>cases hN _ _ _ he
     | outgrown=>obtain ⟨_,_,hf⟩:=he; cases hN _ _ _ hf
   | row row args=>
     have h:Rows P row args w' _:=h
     refine ⟨fun hh=>by simp [Fence.wide] at hh,fun c cs _=>?_⟩
     obtain ⟨v,w2,h1,h2⟩:=h c cs
     exact ⟨v,w2,hKK _ _ h1,stepsIn_wide.2 h2⟩
   | _=>exact h.elim
 | halt x w'=>cases x <;> first | exact h.elim | (cases hN _ _ _ h)
theorem sQ {β:Type} {N:Nat} {X:Cx} (cy:∀ f T,X.con f=some T->Known X.P X.glob f T) (ro:Option Nat) {ops:Array Oper} {Q:Exit->Act->World->Prop}:∀ (l:List Oper) {s:St} {Γ:Env} {w:World} {a:Act} {K:St->Tr β} {R:β->Prop},(∀ o∈l,lY o.op=true)->Inv X.glob N Γ s a w->(abd X ops l s K).run R->
  (∀ s' a' w' Γ',(K s').run R->Ext Γ w Γ'->Wd w w'->Inv X.glob N Γ' s' a' w'->Q .normal a' w')->wpListIn {Fence.wide with round:=ro} 0 X.P ops Q l a w
 | [],s,Γ,w,a,K,R,_,hI,h,hK=>hK s a w Γ h (Ext.refl Γ w) (Wd.refl w) hI
 | o::rest,s,Γ,w,a,K,R,hd,hI,h,hK=>by
   have hs:=oD (K':=wpListIn {Fence.wide with round:=ro} 0 X.P ops Q rest) (Q:=agp) cy hI h fun s' a' w' Γ' h1 h2 h3 h4=>
    sQ cy ro rest (fun o ho=>hd o (by simp [ho])) h4 h1 fun s2 a2 w2 eG k1 k2 k3 k4=>hK s2 a2 w2 eG k1 (h2.trans h3 k2) (h3.trans k3) k4
   unfold wpListIn
   split at hs
   ·rename_i hw
    rw [if_pos hw]
    rcases hs with hs | ⟨-,_,_,hf⟩
    ·exact yy ro (hd o (by simp)) (fun _ _ _ h=>h.elim) (fun _ _ h=>h) hs
    ·exact hf.elim
   ·rename_i hw
    rw [if_neg hw]
    exact ⟨fun _ _=>trivial,hs⟩
theorem oW {P:Program} {ops:Array Oper} {Q0 Q:Exit->Act->World->Prop} (ro:Option Nat) (hd:∀ (i:Nat) (o:Oper),ops[i]? = some o->lY o.op=true) (hN:∀ e a w,Q0 e a w->e=.normal) (hQ:∀ a w,Q0 .normal a w->Q .normal a w) :
  ∀ (fuel:Nat) (listed:Array Bool) (a:Act) (w:World),wpAny P .any ops Q0 fuel listed a w->wpAnyIn {Fence.wide with round:=ro} 0 P .any ops Q fuel listed a w
 | 0,listed,a,w,h=>⟨h.1,hQ _ _ h.2⟩
 | fuel+1,listed,a,w,h=>by
   refine ⟨fun e=>hQ _ _ (h.1 e),fun i hi=>?_⟩
   have h1:=h.2 i hi
   unfold wpOp at h1
   unfold wpOpIn
   split at h1
   ·rename_i Sv
    rw [Sv]
    exact oW ro hd hN hQ fuel _ a w h1
   ·rename_i o Sv
    rw [Sv]
    simp only
    split at h1
    ·rename_i hw
     rw [if_pos hw]
     rcases h1 with h1 | ⟨-,_,_,hf⟩
     ·exact yy ro (hd i o Sv) hN (fun a w h=>oW ro hd hN hQ fuel _ a w h) h1
     ·cases hN _ _ _ hf
    ·rename_i hw
     rw [if_neg hw]
     exact ⟨fun _ _=>trivial,oW ro hd hN hQ fuel _ _ w h1⟩
def simple:Code->Bool
 | .skip | .exit _ | .ret=>true
 | .seq a b=>simple a&&simple b
 | .cond _ a b=>simple a&&simple b
 | .block _ c=>(match c with
   | .loop _=>false
   | .rangeFunc _ _ _ _=>false
   | c=>simple c)
 | .region _ ops _=>ops.toList.all fun o=>lY o.op
 | _=>false
theorem yz {X:Cx} (cy:∀ f T,X.con f=some T->Known X.P X.glob f T) (hm:X.P.follows .mixedOrders=true) (lr N:Nat) :
  ∀ (c:Code) {β:Type},simple c=true->∀ {s:St} {Γ:Env} {a:Act} {w:World} {K:aj->St->Tr β} {R:β->Prop} {Q:Exit->Act->World->Prop},Inv X.glob N Γ s a w->(zV X c s K).run R->
   (∀ e s' a' w' Γ',(K e s').run R->Ext Γ w Γ'->Wd w w'->Inv X.glob N Γ' s' a' w'->Q (uk e) a' w')->c.wpIn (Fence.wide.inRound lr) 0 X.P Q a w:=by
 intro c
 induction c with
 | skip=>
   intro β hc s Γ a w K R Q hI h hK
   exact wpIn_skip (hK .normal s a w Γ h (Ext.refl Γ w) (Wd.refl w) hI)
 | exit id=>
   intro β hc s Γ a w K R Q hI h hK
   exact wpIn_exit (hK (.exit id) s a w Γ h (Ext.refl Γ w) (Wd.refl w) hI)
 | ret=>
   intro β hc s Γ a w K R Q hI h hK
   exact wpIn_ret (hK .ret s a w Γ h (Ext.refl Γ w) (Wd.refl w) hI)
 | seq x y wI wJ=>
   intro β hc s Γ a w K R Q hI h hK
   simp only [simple,ayu] at hc
   refine wpIn_seq (wI hc.1 hI h fun e s' a' w' Γ' h' jF kf kg=>?_)
   cases e with
   | normal=>exact wJ hc.2 kg h' fun e s2 a2 w2 eG k1 k2 k3 k4=>hK e s2 a2 w2 eG k1 (jF.trans kf k2) (kf.trans k3) k4
   | exit id=>exact hK (.exit id) s' a' w' Γ' h' jF kf kg
   | ret=>exact hK .ret s' a' w' Γ' h' jF kf kg
 | cond c x y wI wJ=>
   intro β hc s Γ a w K R Q hI h hK
   simp only [simple,ayu] at hc
   have hb:∀ b,s.ev c=.v (.c (.b b))->a.eval c=.bool b:=fun b hb=>by
    have:=aS hI.fr c
    rw [hb] at this
    exact this.1
   simp only [zV] at h
   split at h
   ·rename_i t b he
    have vC:s.fr[t]? = some (.v (.c (.b b))):=by
     have:s.fr.getD t .dead=.v (.c (.b b)):=he
     rw [axF] at this
     cases e:s.fr[t]? with
     | none=>rw [e] at this; cases this
     | some z=>rw [e] at this; simpa using this
    refine wpIn_cond (hb b he) ?_
    rcases aW.1 h with ⟨rfl,h⟩ | ⟨rfl,h⟩
    ·rw [ni vC] at h; exact wI hc.1 hI h hK
    ·rw [ni vC] at h; exact wJ hc.2 hI h hK
   ·rename_i b b9 he
    refine wpIn_cond (hb b he) ?_
    rcases aW.1 h with ⟨rfl,h⟩ | ⟨rfl,h⟩
    ·exact wI hc.1 hI h hK
    ·exact wJ hc.2 hI h hK
   ·exact h.elim
 | block id c ih=>
   intro β hc s Γ a w K R Q hI h hK
   have h1:∀ b,c≠.loop b:=fun b e=>by subst e; simp [simple] at hc
   have h2:∀ g ps a b,c≠.rangeFunc g ps a b:=fun g ps a b e=>by subst e; simp [simple] at hc
   have lJ : simple c=true:=by
    cases c <;> first | exact hc | exact (h1 _ rfl).elim | exact (h2 _ _ _ _ rfl).elim
   rw [A6 h1 h2] at h
   refine wpIn_block (ih lJ hI h fun e s' a' w' Γ' h' jF kf kg=>?_)
   cases e with
   | normal=>exact hK .normal s' a' w' Γ' h' jF kf kg
   | ret=>exact hK .ret s' a' w' Γ' h' jF kf kg
   | exit j=>
     simp only at h'
     show if j=id then _ else _
     split at h'
     ·rename_i e; rw [if_pos e]; exact hK .normal s' a' w' Γ' h' jF kf kg
     ·rename_i e; rw [if_neg e]; exact hK (.exit j) s' a' w' Γ' h' jF kf kg
 | region id ops d=>
   intro β hc s Γ a w K R Q hI h hK
   cases d with
   | false=>exact wpIn_region_list (sQ cy (some lr) ops.toList (fun o ho=>List.all_eq_true.1 hc o ho) hI h fun s' a' w' Γ' h1 h2 h3 h4=>hK .normal s' a' w' Γ' h1 h2 h3 h4)
   | true=>
     simp only [zV] at h
     split at h
     ·rename_i fI
      refine wpIn_region_any hm (oW (Q0:=fun e a w=>e=.normal∧Q .normal a w) (some lr) (fun i o hi=>List.all_eq_true.1 hc o ?_) (fun e a w he=>he.1) (fun a w he=>he.2) _ _ _ _ (yg cy hI fI h fun s' a' w' Γ' h1 h2 h3 h4=>⟨rfl,hK .normal s' a' w' Γ' h1 h2 h3 h4⟩))
      obtain ⟨h1,h2⟩:=Array.getElem?_eq_some_iff.1 hi
      rw [<- h2]
      exact Array.mem_toList_iff.2 (Array.getElem_mem h1)
     ·exact h.elim
 | _=>
   intro β hc
   simp [simple] at hc
def jZ:aj->Code
 | .ret=>.ret
 | .exit id=>.exit id
 | .normal=>.skip
def F6 (rc:LoopState->Option Code->Loop) (p:Option aj):Obj:=.loop (rc (if p.isNone then .ready else .done) (p.map jZ))
structure rf (gl:List Nat) (K l:Nat) (rc:LoopState->Option Code->Loop) (N:Nat) (Γ:Env) (s:St) (a:Act) (w:World) (p:Option aj):Prop where
 inv:Inv gl N Γ s a w
 yl:Γ.er K=some (.func (.yield l) #[] #[])
 rc:Γ.kp l=some (F6 rc p)
theorem rf.step {gl:List Nat} {K l:Nat} {rc:LoopState->Option Code->Loop} {N:Nat} {Γ Γ' : Env} {s s' : St} {a a' : Act} {w w' : World} {p:Option aj} (h:rf gl K l rc N Γ s a w p) (hE:Ext Γ w Γ') (hI:Inv gl N Γ' s' a' w'):rf gl K l rc N Γ' s' a' w' p:=
 ⟨hI,by rw [hE.le.er]; exact h.yl,hE.le.kp _ _ h.rc⟩
def YOk (P:Program) (gl:List Nat) (l:Nat) (rc:LoopState->Option Code->Loop) (Γ0:Env) (w0:World) (Y:Yh):Prop:=
 ∀ (args:List NV) (rg:List (Option aG)) (vs:List Value) (Γ:Env) (w:World) (R:Option aj × List (Option aG)->Prop),Ext Γ0 w0 Γ->Wd w0 w->aQ Γ rg w->GlobOk gl Γ->(∀ n,rg.length<=n->Γ.μ n=none)->
  Γ.kp l=some (F6 rc none)->R2 (cM Γ) args vs->(Y args rg).run R->
  YieldAt Fence.wide 0 P l vs.toArray w fun e w'=>∃ p mY Γ',R (p,mY)∧e=.returned (.bool p.isNone)∧Ext (Γ.strip [l]) w Γ'∧Wd w w'∧aQ Γ' mY w'∧GlobOk gl Γ'∧(∀ n,mY.length<=n->Γ'.μ n=none)∧Γ'.kp l=some (F6 rc p)
section
variable {X:Cx} {Y:Yh} {K l:Nat} {rc:LoopState->Option Code->Loop} {Γ0:Env} {w0:World}
theorem yA {s:St} {Γ:Env} {a:Act} {op:Op} {args:List NV} (dr:cO Γ s.fr a.tmps) (h:uq K s op=some args) :
  ∃ c f,op=.call c∧c.callee=.value f∧lH Γ (.e K) (a.eval f)∧∃ vs:List Value,c.args.map a.eval=vs.toArray∧R2 (cM Γ) args vs:=by
 unfold uq at h
 split at h
 case h_2=>cases h
 rename_i c
 split at h
 case h_2=>cases h
 rename_i f hcal
 split at h
 case h_2=>cases h
 rename_i k hf
 split at h
 case isFalse=>cases h
 rename_i hk
 subst hk
 have r:=aS dr f
 rw [hf] at r
 have dG:R2 (b5 Γ) (c.args.toList.map s.ev) (c.args.toList.map a.eval):=R2.jh _ _ _ fun x=>aS dr x
 refine ⟨c,f,rfl,hcal,r.1,c.args.toList.map a.eval,?_,pT h dG⟩
 apply Array.ext'
 simp
theorem yB {β:Type} {N:Nat} (cy:∀ f T,X.con f=some T->Known X.P X.glob f T) (hN:l<N) (h0:Γ0.kp l=none) (Tv:Γ0.ro l=false) (hY:YOk X.P X.glob l rc Γ0 w0 Y) {ops:Array Oper} {Q:Exit->Act->World->Prop} :
  ∀ (os:List Oper) {s:St} {p:Option aj} {Γ:Env} {w:World} {a:Act} {k:St->Option aj->Tr β} {R:β->Prop},(∀ o∈os,lY o.op=true)->rf X.glob K l rc N Γ s a w p->Ext Γ0 w0 Γ->Wd w0 w->(PG X Y K ops os s p k).run R->
  (∀ s' a' w' Γ' p',(k s' p').run R->Ext Γ0 w0 Γ'->Wd w0 w'->rf X.glob K l rc N Γ' s' a' w' p'->Q .normal a' w')->wpListIn Fence.wide 0 X.P ops Q os a w
 | [],s,p,Γ,w,a,k,R,_,hI,hE,hW,h,hK=>hK s a w Γ p h hE hW hI
 | o::rest,s,p,Γ,w,a,k,R,hd,hI,hE,hW,h,hK=>by
   have next:∀ {s' : St} {a' : Act} {w' : World} {Γ' : Env} {p' : Option aj},(PG X Y K ops rest s' p' k).run R->Ext Γ0 w0 Γ'->Wd w0 w'->rf X.glob K l rc N Γ' s' a' w' p'->wpListIn Fence.wide 0 X.P ops Q rest a' w':=
    fun h1 h2 h3 h4=>yB cy hN h0 Tv hY rest (fun o ho=>hd o (by simp [ho])) h4 h2 h3 h1 hK
   have h:(Ts X Y K ops o s p fun s' p'=>PG X Y K ops rest s' p' k).run R:=h
   unfold Ts at h
   split at h
   ·have hs:=oD (K':=wpListIn Fence.wide 0 X.P ops Q rest) (Q:=agp) cy hI.inv h fun s' a' w' Γ' h1 h2 h3 h4=>
     next h1 (hE.trans hW h2) (hW.trans h3) (hI.step h2 h4)
    unfold wpListIn
    split at hs
    ·rename_i hw
     rw [if_pos hw]
     rcases hs with hs | ⟨-,_,_,hf⟩
     ·exact yy none (hd o (by simp)) (fun _ _ _ h=>h.elim) (fun _ _ h=>h) hs
     ·exact hf.elim
    ·rename_i hw
     rw [if_neg hw]
     exact ⟨fun _ _=>trivial,hs⟩
   ·rename_i args dG
    have key:Region.wanted o (yielded ops a.tmps)=true∧p=none∧((Y args s.rg).bind fun r=>PG X Y K ops rest (St.put {fr:=s.fr,rg:=r.2} o.dst (lit r.1.isNone)) r.1 k).run R:=by
     split at h
     case h_2=>exact h.elim
     split at h
     ·rename_i hg
      exact ⟨by simp [Region.wanted,hg],rfl,h⟩
     ·rename_i j want hg
      split at h
      case h_2=>exact h.elim
      rename_i d hd
      split at h
      case h_2=>exact h.elim
      rename_i x hx
      obtain ⟨rfl,h⟩:=h
      have hy:yielded ops a.tmps j=some x:=by
       obtain ⟨v,h1,h2⟩:=R2.get hI.inv.fr hx
       obtain ⟨h2,-⟩:=h2
       have h2' : v=.bool x:=h2
       subst h2'
       have h3:a.tmps[d]? = some (.bool x):=by simpa using h1
       have h4:(ops[j]?).bind (·.dst)=some d:=hd
       unfold yielded
       rw [h4,Option.bind_some,h3]
      exact ⟨by simp [Region.wanted,hg,hy],rfl,h⟩
    obtain ⟨Fb,hp,hh⟩:=key
    clear h
    subst hp
    rw [Tr.run_bind] at hh
    obtain ⟨c,f,dk,hcal,hf,vs,hvs,ao7⟩:=yA hI.inv.fr dG
    have hfv:a.eval f=.func (.yield l) #[] #[]:=by
     have:Γ.er K=some (a.eval f):=hf
     rw [hI.yl] at this
     simpa using this.symm
    unfold wpListIn
    rw [if_pos Fb]
    obtain ⟨fn,tmps,assign,body,hy,hR⟩:=hY args s.rg vs Γ w _ hE hW hI.inv.wr hI.inv.gl hI.inv.nw hI.rc ao7 hh
    refine ⟨fun _ _=>trivial,?_⟩
    have bE:(execOp a.eval o).run X.P w=.ok (.round l fn tmps assign body) w:=by
     simp only [execOp,dk]
     simp [resolve,hcal,hfv,Deferred.ofValue,invoke,hvs,hy]
    show o.uponIn Fence.wide 0 X.P a _ Q ((execOp a.eval o).run X.P w)
    rw [bE]
    refine ⟨fun hh=>by simp [Fence.wide] at hh,?_⟩
    refine hR.mono ?_
    rintro e w' ⟨p',mY,Γ',hRR,rfl,jF,kf,hwr,gS,hnw,Pc⟩
    have hn:=oV hI.rc rfl
    have hEs:Ext Γ0 w0 (Γ.strip [l]):=hE.strip fun b hb=>by rw [ayx] at hb; subst hb; exact ⟨h0,Tv⟩
    refine next (Γ':=Γ') hRR (hEs.trans hW jF) (hW.trans kf) ⟨⟨?_,?_,gS,?_,?_⟩,by rw [jF.le.er]; exact hI.yl,Pc⟩
    ·rw [iH]; exact hwr
    ·refine cO.put (s:={fr:=s.fr,rg:=mY}) ?_ o.dst ⟨rfl,rfl⟩
     exact (cO.strip hn hI.inv.fr).mono jF.le
    ·rw [iH]; exact hnw
    ·rw [put_defers]
     obtain ⟨ds,h1,h2,h3⟩:=hI.inv.df
     refine ⟨ds,h1,h2,fun D hD=>⟨(h3 D hD).1,jF.le.kp _ _ ?_⟩⟩
     have:D≠l:=by have:=(h3 D hD).1; omega
     exact (eD (by simpa using this)).trans (h3 D hD).2
end
def Jg (P:Program) (gl:List Nat) (m K:Nat) (Y:Yh) (id:Nat) (body:Code) (L:St × Option aj->Tr (aj × St × Option aj)):Prop:=
 ∀ (l:Nat) (rc:LoopState->Option Code->Loop) (N:Nat) (Γ0:Env) (w0:World),(∀ n,m<=n->Γ0.μ n=none)->l<N->Γ0.kp l=none->Γ0.ro l=false->YOk P gl l rc Γ0 w0 Y->
  ∀ (s:St) (p:Option aj) (Γ:Env) (a:Act) (w:World) (R:aj × St × Option aj->Prop) (Q:Exit->Act->World->Prop),rf gl K l rc N Γ s a w p->Ext Γ0 w0 Γ->Wd w0 w->(L (s,p)).run R->
  (∀ e s' p' a' w' Γ',R (e,s',p')->Ext Γ0 w0 Γ'->Wd w0 w'->rf gl K l rc N Γ' s' a' w' p'->Q (uk e) a' w')->(Code.block id (.loop body)).wp P Q a w
def lZ (X:Cx) (Y:Yh) (K:Nat) (ls:LI) (c:Code):Prop:=∀ id body,(id,body)∈bY c->∀ x,ls.find? (·.1==id)=some x->Jg X.P X.glob X.m K Y id body x.2.2
def uu:Code->Bool
 | .skip | .exit _ | .ret=>true
 | .seq a b=>uu a&&uu b
 | .cond _ a b=>uu a&&uu b
 | .block _ c=>(match c with
   | .loop _=>true
   | .rangeFunc _ _ _ _=>false
   | c=>uu c)
 | .region _ ops _=>ops.toList.all fun o=>lY o.op
 | _=>false
theorem kQ {gl:List Nat} {K l m N:Nat} {rc:LoopState->Option Code->Loop} {live:List Nat} {s s' : St} {Γ Γ0:Env} {a:Act} {w w0:World} {p:Option aj} (hI:rf gl K l rc N Γ s a w p) (hE:Ext Γ0 w0 Γ) (h0:∀ n,m<=n->Γ0.μ n=none) (h:norm m live s=some s') :
  ∃ Γ',Ext Γ0 w0 Γ'∧rf gl K l rc N Γ' s' a w p:=by
 obtain ⟨Γ',h1,h2,h3,h4⟩:=vB hI.inv hE h0 h
 exact ⟨Γ',h1,h2,by rw [h4]; exact hI.yl,by rw [h3]; exact hI.rc⟩
theorem Jh {β:Type} {X:Cx} {Y:Yh} {K:Nat} {ls:LI} {id:Nat} {c:Code} {s:St} {p:Option aj} {k:aj->St->Option aj->Tr β} (h:∀ b,c≠.loop b):q9 X Y K ls (.block id c) s p k=q9 X Y K ls c s p (fun e s' p'=>match e with
  | .exit j=>if j=id then k .normal s' p' else k (.exit j) s' p'
  | e=>k e s' p'):=by
 cases c <;> first | rfl | exact (h _ rfl).elim
section
variable {X:Cx} {Y:Yh} {K l N:Nat} {rc:LoopState->Option Code->Loop} {Γ0:Env} {w0:World} {ls:LI}
theorem yC (cy:∀ f T,X.con f=some T->Known X.P X.glob f T) (h0:∀ n,X.m<=n->Γ0.μ n=none) (hN:l<N) (h0k:Γ0.kp l=none) (Tv:Γ0.ro l=false) (hY:YOk X.P X.glob l rc Γ0 w0 Y) :
  ∀ (c:Code) {β:Type},uu c=true->lZ X Y K ls c->∀ {s:St} {p:Option aj} {Γ:Env} {a:Act} {w:World} {k:aj->St->Option aj->Tr β} {R:β->Prop} {Q:Exit->Act->World->Prop},rf X.glob K l rc N Γ s a w p->Ext Γ0 w0 Γ->Wd w0 w->(q9 X Y K ls c s p k).run R->
   (∀ e s' p' a' w' Γ',(k e s' p').run R->Ext Γ0 w0 Γ'->Wd w0 w'->rf X.glob K l rc N Γ' s' a' w' p'->Q (uk e) a' w')->c.wpIn Fence.wide 0 X.P Q a w:=by
 intro c
 induction c with
 | skip=>
   intro β hc hl s p Γ a w k R Q hI hE hW h hK
   exact wpIn_skip (hK .normal s p a w Γ h hE hW hI)
 | exit id=>
   intro β hc hl s p Γ a w k R Q hI hE hW h hK
   exact wpIn_exit (hK (.exit id) s p a w Γ h hE hW hI)
 | ret=>
   intro β hc hl s p Γ a w k R Q hI hE hW h hK
   exact wpIn_ret (hK .ret s p a w Γ h hE hW hI)
 | seq x y wI wJ=>
   intro β hc hl s p Γ a w k R Q hI hE hW h hK
   simp only [uu,ayu] at hc
   refine wpIn_seq (wI hc.1 (fun id b hb=>hl id b (by simp [bY,hb])) hI hE hW h fun e s' p' a' w' Γ' h' jF kf kg=>?_)
   cases e with
   | normal=>exact wJ hc.2 (fun id b hb=>hl id b (by simp [bY,hb])) kg jF kf h' hK
   | exit id=>exact hK (.exit id) s' p' a' w' Γ' h' jF kf kg
   | ret=>exact hK .ret s' p' a' w' Γ' h' jF kf kg
 | cond c x y wI wJ=>
   intro β hc hl s p Γ a w k R Q hI hE hW h hK
   simp only [uu,ayu] at hc
   have hlx:lZ X Y K ls x:=fun id b hb=>hl id b (by simp [bY,hb])
   have hly:lZ X Y K ls y:=fun id b hb=>hl id b (by simp [bY,hb])
   have hb:∀ b,s.ev c=.v (.c (.b b))->a.eval c=.bool b:=fun b hb=>by
    have:=aS hI.inv.fr c
    rw [hb] at this
    exact this.1
   simp only [q9] at h
   split at h
   ·rename_i t b he
    have vC:s.fr[t]? = some (.v (.c (.b b))):=by
     have:s.fr.getD t .dead=.v (.c (.b b)):=he
     rw [axF] at this
     cases e:s.fr[t]? with
     | none=>rw [e] at this; cases this
     | some z=>rw [e] at this; simpa using this
    refine wpIn_cond (hb b he) ?_
    rcases aW.1 h with ⟨rfl,h⟩ | ⟨rfl,h⟩
    ·rw [ni vC] at h; exact wI hc.1 hlx hI hE hW h hK
    ·rw [ni vC] at h; exact wJ hc.2 hly hI hE hW h hK
   ·rename_i b b9 he
    refine wpIn_cond (hb b he) ?_
    rcases aW.1 h with ⟨rfl,h⟩ | ⟨rfl,h⟩
    ·exact wI hc.1 hlx hI hE hW h hK
    ·exact wJ hc.2 hly hI hE hW h hK
   ·exact h.elim
 | block id c ih=>
   intro β hc hl s p Γ a w k R Q hI hE hW h hK
   by_cases AS:∃ b,c=.loop b
   ·obtain ⟨body,rfl⟩:=AS
    simp only [q9] at h
    split at h
    case h_2=>exact h.elim
    rename_i y live L hf
    split at h
    case h_2=>exact h.elim
    rename_i s' hn
    rw [Tr.run_bind] at h
    obtain ⟨Γ',jF,kg⟩:=kQ hI hE h0 hn
    exact wpIn_wide.2 (hl id body (by simp [bY]) _ hf l rc N Γ0 w0 h0 hN h0k Tv hY s' p Γ' a w _ Q kg jF hW h fun e s2 p2 a2 w2 eG k1 k2 k3 k4=>hK e s2 p2 a2 w2 eG k1 k2 k3 k4)
   ·have h1:∀ b,c≠.loop b:=fun b e=>AS ⟨b,e⟩
    have h2:∀ g ps a b,c≠.rangeFunc g ps a b:=fun g ps a b e=>by subst e; simp [uu] at hc
    have lJ : uu c=true:=by
     cases c <;> first | exact hc | exact (h1 _ rfl).elim | exact (h2 _ _ _ _ rfl).elim
    rw [Jh h1] at h
    refine wpIn_block (ih lJ (fun i b hb=>hl i b (by rw [qx h1]; exact hb)) hI hE hW h fun e s' p' a' w' Γ' h' jF kf kg=>?_)
    cases e with
    | normal=>exact hK .normal s' p' a' w' Γ' h' jF kf kg
    | ret=>exact hK .ret s' p' a' w' Γ' h' jF kf kg
    | exit j=>
      simp only at h'
      show if j=id then _ else _
      split at h'
      ·rename_i e; rw [if_pos e]; exact hK .normal s' p' a' w' Γ' h' jF kf kg
      ·rename_i e; rw [if_neg e]; exact hK (.exit j) s' p' a' w' Γ' h' jF kf kg
 | region id ops d=>
   intro β hc hl s p Γ a w k R Q hI hE hW h hK
   cases d with
   | false=>exact wpIn_region_list (yB cy hN h0k Tv hY ops.toList (fun o ho=>List.all_eq_true.1 hc o ho) hI hE hW h fun s' a' w' Γ' p' h1 h2 h3 h4=>hK .normal s' p' a' w' Γ' h1 h2 h3 h4)
   | true=>
     simp only [q9] at h
     split at h
     case h_2=>exact h.elim
     rename_i fI
     rw [ayu] at fI
     refine wpIn_region_any fI.2 (oW (Q0:=fun e a w=>e=.normal∧Q .normal a w) none (fun i o hi=>List.all_eq_true.1 hc o ?_) (fun e a w he=>he.1) (fun a w he=>he.2) _ _ _ _ (yg cy hI.inv fI.1 h fun s' a' w' Γ' h1 h2 h3 h4=>⟨rfl,hK .normal s' p a' w' Γ' h1 (hE.trans hW h2) (hW.trans h3) (hI.step h2 h4)⟩))
     obtain ⟨h1,h2⟩:=Array.getElem?_eq_some_iff.1 hi
     rw [<- h2]
     exact Array.mem_toList_iff.2 (Array.getElem_mem h1)
 | _=>
   intro β hc
   simp [uu] at hc
end
inductive F7 where
 | next (s:St) (p:Option aj)
 | done (e:aj) (s:St) (p:Option aj)
def Ji (X:Cx) (Y:Yh) (K:Nat) (ls:LI) (id:Nat) (live out:List Nat) (body:Code) (s:St) (p:Option aj):Tr F7:=
 q9 X Y K ls body s p fun e s' p'=>match e with
  | .normal=>(match norm X.m live s' with
    | some Ja=>.ret (.next Ja p')
    | none=>.fail)
  | .exit j=>(match norm X.m out s' with
    | some Ja=>if j=id then .ret (.done .normal Ja p') else .ret (.done (.exit j) Ja p')
    | none=>.fail)
  | .ret=>(match norm X.m out s' with
    | some Ja=>.ret (.done .ret Ja p')
    | none=>.fail)
theorem F8 {X:Cx} {Y:Yh} {K:Nat} {ls:LI} (cy:∀ f T,X.con f=some T->Known X.P X.glob f T) {id:Nat} {body:Code} {L:St × Option aj->Tr (aj × St × Option aj)} (ht:uu body=true) (hl:lZ X Y K ls body) (live out:List Nat) {α:Type} (h:α->St × Option aj) (μ:α->Nat) (Pre:α->(aj × St × Option aj->Prop)->Prop)
  (start:∀ s R,(L s).run R->∃ x,s=h x∧Pre x R)
  (round:∀ x R,Pre x R->(Ji X Y K ls id live out body (h x).1 (h x).2).run fun o=>match o with
    | .next s p=>∃ y,(s,p)=h y∧μ y<μ x∧Pre y R
    | .done e s p=>R (e,s,p)):Jg X.P X.glob X.m K Y id body L:=by
 intro l rc N Γ0 w0 h0 hN h0k Tv hY s p Γ a w R Q hI hE hW hL hK
 obtain ⟨x,hx,hp⟩:=start (s,p) R hL
 have hI:rf X.glob K l rc N Γ (h x).1 a w (h x).2:=by rw [<- hx]; exact hI
 refine wp_block (wp_loop_ghost (fun n a w=>∃ x Γ,μ x=n∧Pre x R∧rf X.glob K l rc N Γ (h x).1 a w (h x).2∧Ext Γ0 w0 Γ∧Wd w0 w) (μ x) ⟨x,Γ,rfl,hp,hI,hE,hW⟩ ?_)
 rintro n a1 w1 ⟨y,EA,rfl,hp1,hI1,hE1,LX⟩
 refine wpIn_wide.1 (yC cy h0 hN h0k Tv hY body ht hl hI1 hE1 LX (round y R hp1) fun e s' p' a' w' Γ' h' jF kf kg=>?_)
 cases e with
 | normal=>
   simp only at h'
   split at h'
   ·rename_i s2 hn
    obtain ⟨z,hz,ff,hpz⟩:=h'
    obtain ⟨eG,PA,Jb⟩:=kQ kg jF h0 hn
    exact ⟨μ z,ff,z,eG,rfl,hpz,by rw [<- hz]; exact Jb,PA,kf⟩
   ·exact h'.elim
 | exit j=>
   simp only at h'
   show if j=id then _ else _
   split at h'
   ·rename_i s2 hn
    obtain ⟨eG,PA,Jb⟩:=kQ kg jF h0 hn
    split at h'
    ·rename_i e; rw [if_pos e]; exact hK .normal s2 p' a' w' eG h' PA kf Jb
    ·rename_i e; rw [if_neg e]; exact hK (.exit j) s2 p' a' w' eG h' PA kf Jb
   ·exact h'.elim
 | ret=>
   simp only at h'
   split at h'
   ·rename_i s2 hn
    obtain ⟨eG,PA,Jb⟩:=kQ kg jF h0 hn
    exact hK .ret s2 p' a' w' eG h' PA kf Jb
   ·exact h'.elim
theorem lZ.none {X:Cx} {Y:Yh} {K:Nat} {ls:LI} {c:Code} (hl:bY c=[]):lZ X Y K ls c:=fun id b hb=>by rw [hl] at hb; cases hb
theorem lZ.one {X:Cx} {Y:Yh} {K:Nat} {ls:LI} {c:Code} {id:Nat} {body:Code} {live:List Nat} {L:St × Option aj->Tr (aj × St × Option aj)} (hl:bY c=[(id,body)]) (hx:ls=[(id,live,L)]) (h:Jg X.P X.glob X.m K Y id body L):lZ X Y K ls c:=fun i b hb x hf=>by
 rw [hl,ayx] at hb
 cases hb
 subst hx
 simp at hf
 subst hf
 exact h
theorem F9 {Γ:Env}:∀ (ps:List Tmp) (args:List NV) (vs:List Value) (fr:List NS) (t:Array Value),cO Γ fr t->R2 (cM Γ) args vs->
  cO Γ (oR fr ps args) ((ps.zip vs).foldl (fun t (x:Tmp × Value)=>t.setIfInBounds x.1 x.2) t)
 | [],_,_,_,_,h,_=>by simpa [oR] using h
 | _::_,_,_,_,_,h,.nil=>by simpa [oR] using h
 | p::ps,_,_,fr,t,h,.cons (a:=x) (b:=v) r rs=>by
   simp only [oR,List.zip_cons_cons,List.foldl_cons]
   refine F9 ps _ _ _ _ ?_ rs
   show R2 (b5 Γ) (fr.set p (.v x)) (t.setIfInBounds p v).toList
   rw [Array.toList_setIfInBounds]
   exact R2.set h p r
def Am (fn:FuncId) (tmps:Array Value) (ps:Array Tmp) (assign body:Code) (D:Nat):LoopState->Option Code->Loop:=fun st pe=>{state:=st,pending:=pe,fn:=fn,tmps:=tmps,params:=ps,assign:=assign,body:=body,defers:=D}
theorem Tx {X:Cx} (cy:∀ f T,X.con f=some T->Known X.P X.glob f T) (hm:X.P.follows .mixedOrders=true) {Γ0:Env} {w0:World} {fn:FuncId} {tmps:Array Value} {ps:Array Tmp} {assign body:Code} {D l:Nat} {fr:List NS} (ha:simple assign=true) (hb:simple body=true) (dr:cO Γ0 fr tmps) :
  YOk X.P X.glob l (Am fn tmps ps assign body D) Γ0 w0 (vI X ps assign body fr):=by
 intro args rg vs Γ w R hE hW hw hG hnw hk dG h
 unfold vI at h
 split at h
 case isFalse=>exact h.elim
 rename_i hlen
 have hl:w.heap[l]? = some (.loop (Am fn tmps ps assign body D .ready none)):=hw.kp l _ hk
 have hy:=run_yield (P:=X.P) (args:=vs.toArray) hl (by show vs.toArray.size=ps.size; rw [List.size_toArray,<- dG.length]; exact hlen)
 refine ⟨fn,_,assign,body,hy,roundIn_of_wpIn trivial ?_⟩
 have auL : cO Γ (oR fr ps.toList args) ((ps.zip vs.toArray).foldl (fun tmps (t,a)=>tmps.setIfInBounds t a) tmps):=by
  have:=F9 ps.toList args vs fr tmps (dr.mono hE.le) dG
  rw [<- Array.foldl_toList,Array.toList_zip]
  exact this
 have hI:Inv X.glob 0 Γ {fr:=oR fr ps.toList args,rg:=rg} {tmps:=(ps.zip vs.toArray).foldl (fun tmps (t,a)=>tmps.setIfInBounds t a) tmps,defers:=[]} w:=⟨hw,auL,hG,hnw,Df.nil _ _⟩
 have hds:∀ {Γ' : Env} {s' : St} {a' : Act} {w' : World} {p:Option aj} {st:LoopState} {o' : Obj},Inv X.glob 0 Γ' s' a' w'->Γ'.kp l=some (.loop (Am fn tmps ps assign body D st (p.map jZ)))->o'.Pz=false->Inv X.glob 0 ((Γ'.strip [l]).hold l o') s' a' (w'.putObj l o'):=
  fun h1 h2 h3=>h1.sr h2 rfl h3 fun D _ hD e=>by rw [e,h2] at hD; cases hD
 refine yz (X:={P:=X.P,con:=X.con,glob:=X.glob,m:=rg.length,loops:=[]}) cy hm l 0 assign ha hI h fun e s1 a1 w1 EA h1 hE1 LX hI1=>?_
 cases e with
 | exit j=>exact h1.elim
 | ret=>exact h1.elim
 | normal=>
   have hk1:EA.kp l=some (.loop (Am fn tmps ps assign body D .ready none)):=hE1.le.kp _ _ hk
   have Ez:=hI1.wr.kp l _ hk1
   refine ⟨_,run_beginRound Ez rfl,?_⟩
   have Jb:=hds (p:=none) (o':=.loop (Am fn tmps ps assign body D .busy none)) hI1 hk1 rfl
   refine yz (X:={P:=X.P,con:=X.con,glob:=X.glob,m:=rg.length,loops:=[]}) cy hm l 0 body hb Jb h1 fun e s3 a3 w3 Γ3 h3 hE3 hW3 hI3=>?_
   have hk3:Γ3.kp l=some (.loop (Am fn tmps ps assign body D .busy none)):=hE3.le.kp _ _ wQ
   have hl3:=hI3.wr.kp l _ hk3
   have fin:∀ p:Option aj,R (p,s3.rg)->∃ v w',(Instr.endRound l (p.map jZ)).run X.P w3=.ok v w'∧∃ p mY Γ',R (p,mY)∧Ending.returned v=.returned (.bool p.isNone)∧Ext (Γ.strip [l]) w Γ'∧Wd w w'∧aQ Γ' mY w'∧GlobOk X.glob Γ'∧(∀ n,mY.length<=n->Γ'.μ n=none)∧Γ'.kp l=some (F6 (Am fn tmps ps assign body D) p):=by
    intro p hp
    have hI4:=hds (p:=none) (o':=F6 (Am fn tmps ps assign body D) p) hI3 hk3 rfl
    have bE:=run_endRound (P:=X.P) (p.map jZ) hl3
    have e1:(p.map jZ).isNone=p.isNone:=by cases p <;> rfl
    rw [e1] at bE
    refine ⟨_,_,bE,p,s3.rg,_,hp,rfl,?_,?_,hI4.wr,hI4.gl,hI4.nw,wQ⟩
    ·have x1:=hE1.Tt [l]
     have x2:=hE3.Tt [l]
     rw [Jf,F5] at x2
     exact (x1.trans (LX.trans (lX w1 l _)) x2).trans ((LX.trans (lX w1 l _)).trans hW3) (FT (q' l Γ3))
    ·exact ((LX.trans (lX w1 l _)).trans hW3).trans (lX w3 l _)
   cases e with
   | normal=>exact fin none h3
   | ret=>exact fin (some .ret) h3
   | exit j=>exact fin (some (.exit j)) h3
theorem uv {P:Program} {fn:Func} (h:fn.results=#[]) (t:Array Value) (w:World):∃ v,(results fn t).run P w=.ok v w:=by
 have e0:results fn t=(do
   let vs <- fn.results.mapM (FU {tmps:=t,defers:=[]})
   pure (if h:vs.size=1 then vs[0] else .tuple vs)):=by
  unfold results
  congr 1
 rw [e0,h]
 simp
set_option maxHeartbeats 1000000 in
theorem Be {X:Cx} (cy:∀ f T,X.con f=some T->Known X.P X.glob f T) {K:Nat} {con:FuncId->Option au} (ao8:∀ f T,con f=some T->Known X.P X.glob f T) {ls:Nat->List NS->LI} {id:Nat} {out:List Nat} {gf:FuncId} {fn:Func} {cg:Code} {g:Operand} {ps:Array Tmp} {assign body:Code}
  (hf:X.P.funcs[gf]? = some fn) (hb:fn.body=some cg) (lT:(fn.name=="runtime.NumGoroutine")=false) (IL:fn.results=#[]) (ha:simple assign=true) (hbd:simple body=true) (ht:uu cg=true)
  (hls:∀ m fr,lZ {P:=X.P,con:=con,glob:=X.glob,m:=m,loops:=[]} (vI X ps assign body fr) K (ls m fr) cg) (hm:X.P.follows .mixedOrders=true:=by kernel_rfl) :
  abw X.P X.glob X.m id (.rangeFunc g ps assign body) (C3 X K con ls id out gf fn (.rangeFunc g ps assign body)):=by
 intro Γ0 w0 h0 s Γ a w R Q hI hE hW hL hK
 simp only [C3] at hL
 split at hL
 case h_2=>exact hL.elim
 rename_i gf' cap hg
 split at hL
 case h_2=>exact hL.elim
 rename_i cg' kK hH
 rw [hb] at hH
 cases hH
 simp only [ayu,decide_eq_true_eq,Bool.not_eq_true'] at kK
 obtain ⟨⟨⟨rfl,hfe⟩,hre⟩,hke⟩:=kK
 have eg:∀ args w,(callFunc gf' args).run X.P w=.ok (.enter gf' args) w:=fun args w=>by
  have h1:fn.name≠"runtime.NumGoroutine":=by simpa using lT
  simp [callFunc,hf,h1,hb]
 have rg0:=aS hI.fr g
 rw [hg] at rg0
 obtain ⟨⟨caps,hgv,dh⟩,-⟩:=rg0
 have hgv:a.eval g=.func (.func gf') #[] caps.toArray:=hgv
 refine wp_block ((wpIn_wide (n:=0)).1 (wpIn_rangeFunc fun fnc _=>?_))
 obtain ⟨rc,hrc⟩:∃ rc,rc=Am fnc a.tmps ps assign body w.heap.size:=⟨_,rfl⟩
 obtain ⟨W1,LX⟩:∃ W1,(w.alloc (.deferred (some []))).alloc (.loop (rc .ready none))=W1:=⟨_,rfl⟩
 have cS:W1.heap.size=w.heap.size+2:=by rw [<- LX]; simp
 have hL1:W1.heap[w.heap.size+1]? = some (.loop (rc .ready none)):=by
  rw [<- LX]; have:=World.alloc_heap_new (w.alloc (.deferred (some []))) (.loop (rc .ready none)); rwa [World.size_alloc] at this
 have hD1:W1.heap[w.heap.size]? = some (.deferred (some [])):=by
  rw [<- LX]; exact (dw _ _ _ (by simp)).trans (World.alloc_heap_new w _)
 have ao9:∀ b,b<w.heap.size->W1.heap[b]? = w.heap[b]?:=fun b hb=>by
  rw [<- LX]; exact (dw _ _ _ (by simp; omega)).trans (dw _ _ _ hb)
 have auM:Wd w W1:=by
  rw [<- LX]; exact ⟨rfl,rfl,rfl,by simp; omega⟩
 have hkn:∀ b,w.heap.size<=b->Γ.kp b=none∧Γ.ro b=false:=fun b hb=>by
  have h1:Γ.kp b=none:=by
   cases hk:Γ.kp b with
   | none=>rfl
   | some o=>
     have:=(Array.getElem?_eq_some_iff.1 (hI.wr.kp b o hk)).1
     omega
  refine ⟨h1,?_⟩
  cases hr:Γ.ro b with
  | false=>rfl
  | true=>obtain ⟨o,ho⟩:=hI.wr.ro b hr; rw [h1] at ho; cases ho
 -- what is said of memory where the function auN
 let yv:Value:=.func (.yield (w.heap.size+1)) #[] #[]
 let ΓD:Env:=Γ.hold w.heap.size (.deferred (some []))
 let PH:Env:=ΓD.ao4 K yv
 let EA:Env:=PH.hold (w.heap.size+1) (F6 rc none)
 have wD:aQ ΓD s.rg W1:=(hI.wr.OY ao9).hold (hkn _ (axB _)).1 hD1 rfl
 have wE:aQ PH s.rg W1:=(dx.set K yv ΓD).world hre wD
 have kE:PH.kp (w.heap.size+1)=none:=by
  show (if w.heap.size+1=w.heap.size then _ else Γ.kp (w.heap.size+1))=none
  rw [if_neg (by omega)]
  exact (hkn _ (by omega)).1
 have rE:PH.ro (w.heap.size+1)=false:=(hkn _ (by omega)).2
 have w1:aQ EA s.rg W1:=wE.hold kE hL1 rfl
 have leD:Γ.le ΓD:=pX (hkn _ (axB _)).1
 have le1:PH.le EA:=pX kE
 have frE:cO PH s.fr a.tmps:=(dx.set K yv ΓD).frame hfe (hI.fr.mono leD)
 have gE:GlobOk X.glob PH:=(dx.set K yv ΓD).glob hke (hI.gl.mono leD)
 have hyv:PH.er K=some yv:=if_pos rfl
 have auO:Ext PH W1 EA:=FT kE
 have ao':R2 (fun (x:Nat × Nat × Nat) u=>∃ B,PH.pt x.1=some B∧u=.pointer (some ⟨B.ax,B.o+(x.2.1 * B.st+x.2.2),none⟩)) cap caps:=dh
 have hIt:rf X.glob K (w.heap.size+1) rc W1.heap.size EA {fr:=(.v (.c (.e K))::cap.map fun x=>.v (.c (.p x.1 x.2.1 x.2.2)))++axx (fn.ntmps - (1+cap.length)) .dead,rg:=s.rg}
   {tmps:=(#[yv]++caps.toArray)++Array.replicate (fn.ntmps - (#[yv]++caps.toArray).size) undef,defers:=[]} W1 none:=by
  refine ⟨⟨w1,?_,gE.mono le1,fun n hn=>hI.nw n hn,Df.nil _ _⟩,?_,wQ⟩
  ·have e:((#[yv]++caps.toArray)++Array.replicate (fn.ntmps - (#[yv]++caps.toArray).size) undef).toList=(yv::caps)++axx (fn.ntmps - (1+cap.length)) undef:=by
    simp [dh.length,Nat.add_comm]
   show R2 (b5 EA) _ (Array.toList _)
   rw [e]
   refine R2.append (.cons ⟨hyv,rfl⟩ ?_) (R2.replicate _ (show b5 EA .dead undef from trivial))
   refine R2.om ao' ?_
   rintro x u ⟨B,h1,h2⟩
   exact ⟨⟨B,h1,h2⟩,by rw [h2]; rfl⟩
  ·exact hyv
 refine ⟨w.heap.size+1,[{target:=.collected w.heap.size,args:=#[]}],W1,{target:=.fn (.func gf') caps.toArray,args:=#[yv]},W1,gf',#[yv]++caps.toArray,W1,?_,?_,?_,?_,fun hh=>by simp [Fence.wide] at hh,?_⟩
 ·rw [<- LX,hrc]; exact run_enterLoop_outer _ _ _ _ _
 ·simp only [resolve,hgv]
  simp [go_sem,yv]
 ·intro f' _; trivial
 ·simp [invoke,go_sem,eg]
 refine callsIn_of_wp_marks hf hb trivial ?_ rfl
 refine yC (X:={P:=X.P,con:=con,glob:=X.glob,m:=s.rg.length,loops:=[]}) (Γ0:=PH) (w0:=W1) ao8 (fun n hn=>hI.nw n hn) (by rw [cS]; omega) kE rE (hrc ▸ Tx cy hm ha hbd frE) cg ht (hls s.rg.length s.fr) hIt auO (Wd.refl W1) hL fun e s' p' a' w' Γ' h' jF kf kg=>?_
 have key:(yw X K id out s.fr s' p').run R->LeavesInM Fence.wide 0 X.P fn a'.tmps (rangePost Fence.wide 0 X.P (w.heap.size+1) (Exit.inBlock id Q) {a with defers:=[{target:=.collected w.heap.size,args:=#[]}]++a.defers}) a'.defers .returning w':=by
  intro h'
  unfold yw at h'
  split at h'
  case h_2=>exact h'.elim
  rename_i e2 s2 auP hex apa
  have wE' : aQ PH s.rg W1:=wE
  obtain ⟨ds,Γs,hd,AZ,sB,hEs,hIs,Tb,tI⟩:=kg.inv.shut jF wE' (axB _)
  rw [hd]
  refine nq ds AZ sB ?_
  obtain ⟨v,hv⟩:=uv (P:=X.P) IL a'.tmps (shut ds w')
  refine ⟨v,hv,?_⟩
  have O6:Γs.kp (w.heap.size+1)=some (F6 rc p'):=by rw [Tb _ (by rw [cS]; omega)]; exact kg.rc
  have auQ : (shut ds w').heap[w.heap.size+1]? = some (F6 rc p'):=hIs.wr.kp _ _ O6
  have auR:(Instr.endLoop (w.heap.size+1)).run X.P (shut ds w')=.ok (p'.map jZ) ((shut ds w').putObj (w.heap.size+1) (.loop {rc (if p'.isNone then .ready else .done) (p'.map jZ) with state:=.exhausted})):=by
   have h4:=run_endLoop (P:=X.P) auQ (by rw [hrc]; cases p' <;> simp [Am])
   have h5:(rc (if p'.isNone then .ready else .done) (p'.map jZ)).pending=p'.map jZ:=by rw [hrc]; rfl
   exact h4.trans (congrArg (fun x=>Result.ok x _) h5)
  refine ⟨_,_,auR,?_⟩
  -- behind the loop
  have Pd:=oV O6 rfl
  have hEf:Ext PH W1 (Γs.strip [w.heap.size+1]):=hEs.strip fun b hb=>by rw [ayx] at hb; subst hb; exact ⟨kE,rE⟩
  let Γf:Env:={μ:=(Γs.strip [w.heap.size+1]).μ,kp:=(Γs.strip [w.heap.size+1]).kp,ro:=(Γs.strip [w.heap.size+1]).ro,er:=Γ.er}
  have hsw:dx K (Γs.strip [w.heap.size+1]) Γf:=⟨rfl,rfl,rfl,fun k hk=>by
   show Γ.er k=(Γs.strip [w.heap.size+1]).er k
   rw [hEf.le.er]
   exact (if_neg hk).symm⟩
  have hle:Γ.le Γf:=⟨fun n B h=>hEf.le.μ n B h,fun b o h=>hEf.le.kp b o (leD.kp b o h),fun b h=>hEf.le.ro b h,rfl⟩
  have auS:Ext Γ w Γf:=by
   refine ⟨hle,fun b hb=>?_,fun n B hB=>?_⟩
   ·rcases hEf.ro b hb with h1 | h1 | h1
    ·exact .inl h1
    ·exact .inr (.inl (by omega))
    ·exact .inr (.inr h1)
   ·rcases hEf.nw n B hB with h1 | h1
    ·exact .inl (by omega)
    ·exact .inr h1
  have hIf:Inv X.glob w0.heap.size Γf {fr:=s.fr,rg:=s'.rg} {a with defers:=[{target:=.collected w.heap.size,args:=#[]}]++a.defers} ((shut ds w').putObj (w.heap.size+1) (.loop {rc (if p'.isNone then .ready else .done) (p'.map jZ) with state:=.exhausted})):=by
   refine ⟨hsw.world auP (hIs.wr.strip Pd yx),hI.fr.mono hle,hI.gl.mono hle,fun n hn=>hIs.nw n hn,?_⟩
   obtain ⟨l,h1,h2,h3⟩:=hI.df
   refine ⟨w.heap.size::l,by rw [ay4,<- h1]; rfl,List.nodup_cons.2 ⟨fun hm=>?_,h2⟩,fun D hD=>?_⟩
   ·have:=(Array.getElem?_eq_some_iff.1 (hI.wr.kp _ _ (h3 _ hm).2)).1
    omega
   ·rcases List.mem_cons.1 hD with rfl | hD
    ·refine ⟨hW.size,hEf.le.kp _ _ ?_⟩
     exact wQ
    ·exact ⟨(h3 D hD).1,hle.kp _ _ (h3 D hD).2⟩
  have hWf:Wd w0 ((shut ds w').putObj (w.heap.size+1) (.loop {rc (if p'.isNone then .ready else .done) (p'.map jZ) with state:=.exhausted})):=(((hW.trans auM).trans kf).trans (CZ ds w')).trans (lX _ _ _)
  obtain ⟨Γ3,hE3,hI3⟩:=iL hIf (hE.trans hW auS) h0 apa
  have fin:=hK e2 s2 _ _ Γ3 h' hE3 hWf hI3
  cases p' with
  | none=>cases hex; exact fin
  | some j=>
    cases j with
    | normal=>cases hex
    | ret=>
      cases hex
      exact wpIn_ret fin
    | exit j=>
      refine wpIn_exit ?_
      show if j=id then _ else _
      unfold L0 at hex
      simp only at hex
      split at hex
      ·rename_i e; cases hex; rw [if_pos e]; exact fin
      ·rename_i e; cases hex; rw [if_neg e]; exact fin
 cases e with
 | normal=>exact key h'
 | ret=>exact key h'
 | exit j=>exact h'.elim
theorem cB (n:Int) (j:Nat) (hj:j<64):bits .and .i64 n (2 ^ j - 1:Nat)=n % 2 ^ j:=by
 have hm:(2 ^ j - 1:Nat)<2 ^ 64:=Nat.lt_of_le_of_lt (Nat.sub_le _ _) (Nat.pow_lt_pow_right (by decide) hj)
 have hp:2 ^ j<=2 ^ 63:=Nat.pow_le_pow_right (by decide) (by omega)
 have key:(ay7 64 n &&& ay7 64 ((2 ^ j - 1:Nat):Int)).toNat=(n % ((2 ^ 64:Nat):Int)).toNat % 2 ^ j:=by
  rw [BitVec.toNat_and,ay8,ay9,BitVec.toNat_ofNat,Nat.mod_eq_of_lt hm,Nat.and_two_pow_sub_one_eq_mod]
 show IntKind.i64.wrap ((ay7 64 n &&& ay7 64 ((2 ^ j - 1:Nat):Int)).toNat:Nat)=n % 2 ^ j
 rw [key,ay']
 have h1:(0:Int)<2 ^ j:=aza (by decide)
 have h2:((2:Int) ^ j)=((2 ^ j:Nat):Int):=by simp
 have hd:(2 ^ j:Nat) ∣ 2 ^ 64:=Nat.pow_dvd_pow 2 (by omega)
 have h3:((((n % ((2 ^ 64:Nat):Int)).toNat % 2 ^ j:Nat)):Int)=n % 2 ^ j:=by
  rw [Int.natCast_emod,azb (azc _ (by decide)),<- h2,h2,Int.emod_emod_of_dvd _ (by exact_mod_cast hd)]
 rw [h3]
 have h4:=azc n (Int.ne_of_gt h1)
 have h5:=Int.emod_lt_of_pos n h1
 have h6:(2:Int) ^ j<=9223372036854775808:=by rw [h2]; exact Int.ofNat_le.2 (ay5 hp (by decide))
 omega
theorem PI (x y:Int) (i:Nat) (hi:i<63) (hx:x % 2 ^ i=0) (Fe:0<=x) (hx1:x<2 ^ 63) (Fc:0<=y) (hy:y<2 ^ i):bits .or .i64 y x=y+x:=by
 have e:bits .or .i64 y x=bits .or .i64 x y:=by
  show IntKind.i64.wrap ((ay7 64 y ||| ay7 64 x).toNat:Nat)=IntKind.i64.wrap ((ay7 64 x ||| ay7 64 y).toNat:Nat)
  rw [BitVec.or_comm]
 have hp:(2:Int) ^ i<=2 ^ 63:=by
  have h2:((2:Int) ^ i)=((2 ^ i:Nat):Int):=by simp
  rw [h2]; exact Int.ofNat_le.2 (ay5 (Nat.pow_le_pow_right (n:=2) (by decide) (show i<=63 by omega)) (by decide))
 rw [e,bits_join .i64 63 (by decide) (fun n h0 h1=>by rw [ay']; omega) i x y Fe hx hx1 Fc hy (by omega)]
 omega
theorem ai3 (x:Int) (j:Nat) (hj:j<64) (h0:0<=x) (h1:x * 2 ^ j<2 ^ 63):bH .i64 x j=x * 2 ^ j:=by
 unfold bH
 have e:min (j:Int).toNat IntKind.i64.bits=j:=by
  show min (j:Int).toNat 64=j
  rw [azd]; omega
 rw [e,ay']
 have hp:(0:Int)<2 ^ j:=aza (by decide)
 have:=Int.mul_nonneg h0 (Int.le_of_lt hp)
 generalize x * 2 ^ j=z at *
 omega
theorem yD (x:Int) (j:Nat) (hj:j<64):aX .i64 x j=x / 2 ^ j:=by
 unfold aX
 have e:min (j:Int).toNat IntKind.i64.bits=j:=by
  show min (j:Int).toNat 64=j
  rw [azd]; omega
 rw [e,aze _ (Int.le_of_lt (aza (by decide)))]
def u8 (v:BitVec 8):Int:=(v.toNat:Int)
def u32 (v:BitVec 32):Int:=(v.toNat:Int)
def i64 (v:BitVec 64):Int:=v.toInt
theorem wrap_u8 (n:Int):IntKind.u8.wrap n=u8 (ay7 8 n):=by
 rw [azf,u8,ay8]
 omega
theorem wrap_u32 (n:Int):IntKind.u32.wrap n=u32 (ay7 32 n):=by
 rw [IntKind.wrap_u32,u32,ay8]
 omega
theorem wrap_i64 (n:Int):IntKind.i64.wrap n=i64 (ay7 64 n):=by
 rw [ay',i64,BitVec.toInt_ofInt]
 rw [Int.bmod_def]
 split <;> omega
def F' (op:BinOp) {n:Nat} (a b:BitVec n):BitVec n:=match op with
 | .and=>a &&& b
 | .or=>a ||| b
 | .xor=>a ^^^ b
 | _=>a &&& ~~~b
theorem Ty (v:BitVec 8):IntKind.u8.wrap (v.toNat:Int)=u8 v:=by rw [wrap_u8,ay9]; simp
theorem PJ (v:BitVec 32):IntKind.u32.wrap (v.toNat:Int)=u32 v:=by rw [wrap_u32,ay9]; simp
theorem PK (v:BitVec 64):IntKind.i64.wrap (v.toNat:Int)=i64 v:=by rw [wrap_i64,ay9]; simp
theorem wT (op:BinOp) (x y:Int):bits op .u8 x y=u8 (F' op (ay7 8 x) (ay7 8 y)):=by cases op <;> exact Ty _
theorem l0 (op:BinOp) (x y:Int):bits op .u32 x y=u32 (F' op (ay7 32 x) (ay7 32 y)):=by cases op <;> exact PJ _
theorem ma (op:BinOp) (x y:Int):bits op .i64 x y=i64 (F' op (ay7 64 x) (ay7 64 y)):=by cases op <;> exact PK _
theorem mb {n:Nat} (a b:BitVec n):F' .and a b=a &&& b:=rfl
theorem L4 {n:Nat} (a b:BitVec n):F' .or a b=a ||| b:=rfl
theorem yE {n:Nat} (a b:BitVec n):F' .xor a b=a ^^^ b:=rfl
theorem ns (v:BitVec 8):ay7 8 (u8 v)=v:=by simp [u8]
theorem ofInt_u8 (n:Nat) (v:BitVec 8):ay7 n (u8 v)=v.setWidth n:=by
 apply azg; simp [u8]
theorem ofInt_u32 (n:Nat) (v:BitVec 32):ay7 n (u32 v)=v.setWidth n:=by
 apply azg; simp [u32]
theorem eJ (v:BitVec 64):ay7 64 (i64 v)=v:=by simp [i64]
theorem C4 (x:Int) (j:Nat) (hj:j<=32):bH .u32 x (j:Int)=u32 (ay7 32 x <<< j):=by
 have e:min (j:Int).toNat IntKind.u32.bits=j:=by
  show min (j:Int).toNat 32=j
  rw [azd]; omega
 unfold bH
 rw [e,wrap_u32]
 congr 1
 apply azg
 rw [BitVec.toNat_shiftLeft,ay8,ay8,Nat.shiftLeft_eq]
 have h0:((2 ^ 32:Nat):Int)=4294967296:=rfl
 have hp:((2 ^ j:Nat):Int)=2 ^ j:=by simp
 have h1:((x % ((2 ^ 32:Nat):Int)).toNat:Int)=x % ((2 ^ 32:Nat):Int):=azb (azc _ (by decide))
 apply Int.ofNat.inj
 show ((x * 2 ^ j % ((2 ^ 32:Nat):Int)).toNat:Int)=(((x % ((2 ^ 32:Nat):Int)).toNat * 2 ^ j % 2 ^ 32:Nat):Int)
 rw [azb (azc _ (by decide)),Int.natCast_emod,Int.natCast_mul,h1,hp]
 rw [Int.mul_emod x,Int.mul_emod (x % ((2 ^ 32:Nat):Int)) (2 ^ j),Int.emod_emod]
theorem aby (x:Int) (j:Nat) (hj:j<=64):bH .i64 x (j:Int)=i64 (ay7 64 x <<< j):=by
 have e:min (j:Int).toNat IntKind.i64.bits=j:=by
  show min (j:Int).toNat 64=j
  rw [azd]; omega
 unfold bH
 rw [e,wrap_i64]
 congr 1
 apply azg
 rw [BitVec.toNat_shiftLeft,ay8,ay8,Nat.shiftLeft_eq]
 have hp:((2 ^ j:Nat):Int)=2 ^ j:=by simp
 have h1:((x % ((2 ^ 64:Nat):Int)).toNat:Int)=x % ((2 ^ 64:Nat):Int):=azb (azc _ (by decide))
 apply Int.ofNat.inj
 show ((x * 2 ^ j % ((2 ^ 64:Nat):Int)).toNat:Int)=(((x % ((2 ^ 64:Nat):Int)).toNat * 2 ^ j % 2 ^ 64:Nat):Int)
 rw [azb (azc _ (by decide)),Int.natCast_emod,Int.natCast_mul,h1,hp]
 rw [Int.mul_emod x,Int.mul_emod (x % ((2 ^ 64:Nat):Int)) (2 ^ j),Int.emod_emod]
theorem jG (v:BitVec 32) (j:Nat) (hj:j<=32):aX .u32 (u32 v) (j:Int)=u32 (v >>> j):=by
 have e:min (j:Int).toNat IntKind.u32.bits=j:=by
  show min (j:Int).toNat 32=j
  rw [azd]; omega
 unfold aX
 rw [e,aze _ (Int.le_of_lt (aza (by decide))),u32,u32,BitVec.toNat_ushiftRight,Nat.shiftRight_eq_div_pow]
 simp
theorem abz (v:BitVec 64) (j:Nat) (hj:j<=64):aX .i64 (i64 v) (j:Int)=i64 (v.sshiftRight j):=by
 have e:min (j:Int).toNat IntKind.i64.bits=j:=by
  show min (j:Int).toNat 64=j
  rw [azd]; omega
 unfold aX
 rw [e,aze _ (Int.le_of_lt (aza (by decide))),i64,i64,BitVec.toInt_sshiftRight,Int.shiftRight_eq_div_pow]
 simp
theorem abA {v w:BitVec 32}:u32 v=u32 w↔v=w:=by
 unfold u32
 exact ⟨fun h=>azg (Int.ofNat.inj h),fun h=>by rw [h]⟩
theorem Jj {n:Int} (h0:0<=n) (h1:n<256):n=u8 (ay7 8 n):=by rw [<- wrap_u8,azf]; omega
theorem abB {n:Int} (h0:0<=n) (h1:n<4294967296):n=u32 (ay7 32 n):=by rw [<- wrap_u32,IntKind.wrap_u32]; omega
theorem L5 {n:Int} (h0 : -9223372036854775808<=n) (h1:n<9223372036854775808):n=i64 (ay7 64 n):=by rw [<- wrap_i64,ay']; omega
end Go.Nx
namespace Go.Nx
open Go Go.RowKit Go.ChangeShapes Go.WideShapes Go.ChangeAt
def C5 (d:DataW Unit):Bool:=
 match d with
 | .iface "*errors.errorString" (.ptr (.agg [.lit (.string _)]))=>true
 | _=>false
theorem Ga {d:DataW Unit} (h:C5 d=true):∃ text,d=.iface "*errors.errorString" (.ptr (.agg [.lit (.string text)])):=by
 unfold C5 at h
 split at h
 ·exact ⟨_,rfl⟩
 ·cases h
structure ErrTypes (P:Program) (ti et te ts:TypeId):Prop where
 hti:∃ ms,P.underlying ti=some (.interface ms)
 row:∀ u,P.typeName? 3 u=some "*errors.errorString"->u=et
 het:P.underlying et=some (.pointer te)
 hte:∃ f:Field,P.underlying te=some (.struct #[f])∧f.type=ts∧f.offset=0
 hts:P.underlying ts=some .string
 hce:P.cellsOf te=1
 hcs:P.cellsOf ts=1
structure Tz (W:World) (et:TypeId) (ps:List MemPlace) (g:Nat) (ad:Addr):Prop where
 cell:∃ c e fz,W.heap[g]? = some (.cells c e fz)∧c[0]? = some (.iface et (.pointer (some ad)))
 obj:∃ c t,W.heap[ad.block]? = some (.cells c t (0,0))
 place:MemPlace.cell ad.block ad.off∈ps
 spot:ad.spot=none
theorem Bg {P:Program} {W:World} {ti et te ts:TypeId} (hT:ErrTypes P ti et te ts) :
  ∀ {laid:List (String × DataW Unit)} {gs:List Nat} {ps:List MemPlace},(laid.all fun x=>C5 x.2)=true->dJ (fun x:String × DataW Unit=>P.globalNamed x.1) laid=some gs->(gs.all fun g=>(P.globals[g]?).map (·.type)==some ti)=true->
   DataW.LaidVars P W laid ps->ps.Nodup->(∀ b off,MemPlace.cell b off∈ps->(∃ c t,W.heap[b]? = some (.cells c t (0,0)))∧∀ u v,W.cell? ⟨b,off,none⟩=some (.iface u v)->Value.okWide P W .any 0 u v)->
   ∃ ads:List Addr,R2 (Tz W et ps) gs ads∧ads.Nodup
 | [],gs,ps,_,hg,_,_,_,_=>by
   simp [dJ] at hg
   subst hg
   exact ⟨[],.nil,by simp⟩
 | (n,d)::laid,gs,ps,he,hg,ht,hL,AZ,hps=>by
   simp only [dJ] at hg
   split at hg
   case h_2=>cases hg
   rename_i g gs' h1 h2
   cases hg
   simp only [List.all_cons,ayu,beq_iff_eq] at he ht
   obtain ⟨g',t,cs,fuel,p,q,rY,htt,hv,hd,SY,e⟩:=hL
   rw [h1] at rY
   cases rY
   rw [ht.1] at htt
   cases htt
   obtain ⟨text,rfl⟩:=Ga he.1
   obtain ⟨ms,hms⟩:=hT.hti
   obtain ⟨f,hf1,hf2,hf3⟩:=hT.hte
   subst e
   rw [axC] at AZ
   have auT:=(List.nodup_append.1 AZ).2.1
   obtain ⟨axt,auU,auV⟩:=List.nodup_append.1 auT
   have fI:∀ u v,cs.toList=[.iface u v]->Value.okWide P W .any 0 u v:=fun u v ec=>by
    have uZ:cs=#[.iface u v]:=by
     apply Array.ext'
     simpa using ec
    refine (hps g 0 ?_).2 u v ?_
    ·rw [axC,ayC]
     left
     rw [uZ]
     simp [MemPlace.row]
    ·have:=World.var?_cell h1 hv 0
     rw [this,uZ]
     rfl
   obtain ⟨ad,s,hcs,il,-,-,rfl⟩:=errorString_of_trod hms hT.row hT.het hf1 hf2 hf3 hT.hts hT.hce hT.hcs hd fI
   obtain ⟨ads,TA,hand⟩:=Bg hT he.2 h2 ht.2 SY auU fun b off hm=>hps b off (by rw [axC,ayC,ayC]; exact .inr (.inr hm))
   have RK:MemPlace.cell ad.block ad.off∈MemPlace.row ad 1:=by simp [MemPlace.row]
   have uZ:cs=#[.iface et (.pointer (some ad))]:=by
    apply Array.ext'
    simpa using hcs
   have apb:=(hps ad.block ad.off (by rw [axC,ayC,ayC]; exact .inr (.inl RK))).1
   have apc:ad.spot=none:=by
    obtain ⟨c,t,hb⟩:=apb
    unfold World.cell? at il
    rw [hb] at il
    cases hsp:ad.spot with
    | none=>rfl
    | some k=>rw [hsp] at il; simp at il
   refine ⟨ad::ads,.cons ⟨?_,apb,?_,apc⟩ (TA.imp fun g a h=>⟨h.cell,h.obj,?_,h.spot⟩),?_⟩
   ·have h0:=World.var?_cell h1 hv 0
    rw [uZ] at h0
    have So : W.cell? ⟨g,0,none⟩=some (.iface et (.pointer (some ad))):=h0
    unfold World.cell? at So
    split at So
    ·rename_i c e fz hb
     exact ⟨c,e,fz,hb,by simpa using So⟩
    ·cases So
   ·rw [axC,ayC,ayC]; exact .inr (.inl RK)
   ·rw [axC,ayC,ayC]; exact .inr (.inr h.place)
   ·refine List.nodup_cons.2 ⟨fun hm=>?_,hand⟩
    obtain ⟨j,hj⟩:=List.getElem?_of_mem hm
    have hlen:=TA.length
    have hjl:j<gs'.length:=by rw [hlen]; exact (List.getElem?_eq_some_iff.1 hj).1
    obtain ⟨b,hb,hE⟩:=TA.get (axP hjl)
    rw [hj] at hb
    cases hb
    exact auV _ RK _ hE.place rfl
theorem Jk {α:Type} {l:List α} (h:l.Nodup) {i j:Nat} {n:α} (hi:l[i]? = some n) (hj:l[j]? = some n):i=j:=by
 obtain ⟨h1,h2⟩:=List.getElem?_eq_some_iff.1 hi
 obtain ⟨h3,h4⟩:=List.getElem?_eq_some_iff.1 hj
 rcases Nat.lt_trichotomy i j with Pf | Pf | Pf
 ·exact absurd (h2.trans h4.symm) ((List.pairwise_iff_getElem.1 h) i j h1 h3 Pf)
 ·exact Pf
 ·exact absurd (h4.trans h2.symm) ((List.pairwise_iff_getElem.1 h) j i h3 h1 Pf)
def erOf (W:World) (g:Nat):Option Value:=W.cell? ⟨g,0,none⟩
theorem glob_of_laid {P:Program} {W:World} {ti et te ts:TypeId} (hT:ErrTypes P ti et te ts) {laid:List (String × DataW Unit)} {gs:List Nat} (he:(laid.all fun x=>C5 x.2)=true) (hg:dJ (fun x:String × DataW Unit=>P.globalNamed x.1) laid=some gs)
  (ht:(gs.all fun g=>(P.globals[g]?).map (·.type)==some ti)=true) (hL:laidMet P laid W) {vs:List Nat} (lg:(vs.all fun v=>gs.contains v)=true):GlobOk (et::vs) (topEnv W (erOf W)):=by
 obtain ⟨ps,Ss,AZ,hps⟩:=hL
 obtain ⟨ads,TA,hand⟩:=Bg hT he hg ht Ss AZ hps
 have key:∀ x∈vs,∃ (j:Nat) (ad:Addr),gs[j]? = some x∧ads[j]? = some ad∧Tz W et ps x ad:=by
  intro x hx
  have hm:x∈gs:=List.contains_iff_mem.1 (List.all_eq_true.1 lg x hx)
  obtain ⟨j,hj⟩:=List.getElem?_of_mem hm
  obtain ⟨ad,ha,hE⟩:=TA.get hj
  exact ⟨j,ad,hj,ha,hE⟩
 have er:∀ {x:Nat} {ad:Addr},Tz W et ps x ad->erOf W x=some (.iface et (.pointer (some ad))):=by
  intro x ad hE
  obtain ⟨c,e,fz,hb,hc⟩:=hE.cell
  unfold erOf World.cell?
  rw [hb]
  simpa using hc
 refine ⟨fun x hx=>?_,fun x hx y hy b9 hxy=>?_⟩
 ·obtain ⟨j,ad,-,-,hE⟩:=key x hx
  obtain ⟨c,e,fz,hb,hc⟩:=hE.cell
  obtain ⟨c2,t2,hb2⟩:=hE.obj
  exact ⟨ad,c,e,fz,c2,t2,er hE,hb,hc,hb2⟩
 ·obtain ⟨j,ad,hj,ha,hE⟩:=key x hx
  obtain ⟨k,bd,hk,hb,hF⟩:=key y hy
  have apd : erOf W x=erOf W y:=hxy
  rw [er hE,er hF] at apd
  cases apd
  have:j=k:=Jk hand ha hb
  subst this
  rw [hj] at hk
  cases hk
  exact b9 rfl
end Go.Nx
namespace Go.Proofs.YthknkidbonfbnaaGreatDoor
open Go.Proofs.Tryz
namespace num
open Go Go.Nx
theorem mixed:prog.follows .mixedOrders=true:=by kernel_rfl
noncomputable def ape:au:=fun args I=>aD prog [] (fun _=>ay1) [] f8 args I
theorem auW:Known prog [] 8 ape:=ah func8 rfl (by kernel_rfl) mixed az (by kernel_rfl)
theorem TB (n m:Int) (R:Out->Prop):(ape [.c (.i .i64 n),.c (.i .i64 m)] []).run R=af (m !=0) (af (decide (azh n m<0)) (R ⟨.v (.c (.i .i64 (IntKind.i64.wrap (azh n m+m)))),[]⟩) (R ⟨.v (.c (.i .i64 (azh n m))),[]⟩)) False:=by kernel_rfl
noncomputable def yF:au:=fun args I=>match args,I with
 | [.c (.i .i64 n),.c (.i .i64 m)],[]=>.aF (0<m∧m<4611686018427387904) (.ret ⟨.v (.c (.i .i64 (n % m))),[]⟩)
 | _,_=>.fail
theorem Gb:Known prog [] 8 yF:=by
 refine auW.less fun args I R h=>?_
 unfold yF at h
 split at h
 case h_2=>exact h.elim
 rename_i n m
 have h1:=h.1
 have h2:R ⟨.v (.c (.i .i64 (n % m))),[]⟩:=h.2
 clear h
 rw [TB]
 have a1:=Int.tmod_lt_of_pos n h1.1
 have a2 : -m<azh n m:=by
  have:=Int.tmod_lt_of_pos (-n) h1.1
  rw [Int.neg_tmod] at this
  omega
 have a3:n % m=if azh n m<0 then azh n m+m else azh n m:=by
  rw [Int.emod_eq_tmod]
  by_cases c:0<=n∨m ∣ n
  ·rw [if_pos c]
   rcases c with c | c
   ·have:¬ azh n m<0:=by
     have:=Int.tmod_nonneg m c
     omega
    rw [if_neg this]; omega
   ·have:azh n m=0:=Int.tmod_eq_zero_of_dvd c
    rw [this]; simp
  ·rw [if_neg c]
   have c1:¬ 0<=n:=fun h=>c (.inl h)
   have c2:¬ m ∣ n:=fun h=>c (.inr h)
   have:azh n m<0:=by
    have h0:azh n m≠0:=fun h=>c2 (Int.dvd_of_tmod_eq_zero h)
    have h5:azh n m<=0:=by
     have h6:=Int.tmod_nonneg (a:=-n) m (by omega)
     rw [Int.neg_tmod] at h6
     omega
    omega
   rw [if_pos this]; omega
 refine aW.2 (.inl ⟨by rw [bne_iff_ne]; omega,?_⟩)
 rw [a3] at h2
 by_cases c:azh n m<0
 ·rw [if_pos c] at h2
  refine aW.2 (.inl ⟨by rw [decide_eq_true_eq]; exact c,?_⟩)
  have w2:IntKind.i64.wrap (azh n m+m)=azh n m+m:=by rw [ay']; omega
  rw [w2]
  exact h2
 ·rw [if_neg c] at h2
  exact aW.2 (.inr ⟨by rw [decide_eq_false_iff_not]; exact c,h2⟩)
end num
namespace pk
open Go Go.Nx
structure aJ (p:Prop):Prop where
 out:p
theorem aJ.of_eq {p q:Prop} (h:p=q) (hq:q):aJ p:=⟨h.mpr hq⟩
theorem dT {p:Prop} [Decidable p] (h:p):decide p=true:=axv h
theorem dF {p:Prop} [Decidable p] (h:¬ p):decide p=false:=axw h
theorem bz {c:Bool} {A B:Prop} (h:c=true) (hA:A):af c A B:=aW.2 (.inl ⟨h,hA⟩)
theorem cm {c:Bool} {A B:Prop} (h:c=false) (hB:B):af c A B:=aW.2 (.inr ⟨h,hB⟩)
theorem dW {c:Prop} [Decidable c] {A B:Prop} (hA:c->A) (hB:¬ c->B):af (decide c) A B:=by
 by_cases h:c
 ·exact bz (dT h) (hA h)
 ·exact cm (dF h) (hB h)
theorem oX {b:Int} (h:0<=b∧b<256):∃ n,n<256∧b=azi n:=⟨b.toNat,by omega,by show b=((b.toNat:Nat):Int); omega⟩
theorem mixed:prog.follows .mixedOrders=true:=by kernel_rfl
noncomputable def Jl:au:=fun args I=>aD prog [] (fun _=>ay1) [] f121 args I
theorem TC:Known prog [] 121 Jl:=ah func121 rfl (by kernel_rfl) mixed az (by kernel_rfl)
noncomputable def TE:FuncId->Option au:=aE [(121,Jl)]
theorem abC:∀ f T,TE f=some T->Known prog [] f T:=(aq.cons TC aq.nil).get
noncomputable def C6:au:=fun args I=>aD prog [] TE [] f146 args I
theorem Jm:Known prog [] 146 C6:=ah func146 rfl (by kernel_rfl) mixed abC (by kernel_rfl)
noncomputable def L6:FuncId->Option au:=aE [(146,C6)]
theorem TF:∀ f T,L6 f=some T->Known prog [] f T:=(aq.cons Jm aq.nil).get
noncomputable def L7:au:=fun args I=>aD prog [] L6 [] f155 args I
theorem abD:Known prog [] 155 L7:=ah func155 rfl (by kernel_rfl) mixed TF (by kernel_rfl)
noncomputable def TG:au:=fun args I=>aD prog [] (fun _=>ay1) [] f154 args I
theorem ai4:Known prog [] 154 TG:=ah func154 rfl (by kernel_rfl) mixed az (by kernel_rfl)
def ll (x:Nat):Nat->Nat
 | 0=>0
 | n+1=>ll x n+(x / 2 ^ n) % 2
def pc (b:Int):Int:=(ll b.toNat 8:Int)
def Gc (b:Int):Bool:=ll b.toNat 8 % 2==0
noncomputable def ij:ByteArray:=⟨((axy 256).map fun i=>UInt8.ofNat (ll i 8)).toArray⟩
theorem TH (b:Int) (R:Out->Prop):(Jl [.c (.i .u8 b)] []).run R=af (decide (0<=b)) (af (decide (b<(ij.size:Int))) (R ⟨.v (.c (.i .i64 (IntKind.i64.wrap (cA ij b.toNat)))),[]⟩) False) False:=by kernel_rfl
theorem PL (b:Int) (R:Out->Prop):(L7 [.c (.i .u8 b)] []).run R=af (decide (0<=b)) (af (decide (b<(ij.size:Int))) (R ⟨.v (.c (.b (!((IntKind.i64.wrap (cA ij b.toNat)).tmod 2==1)))),[]⟩) False) False:=by kernel_rfl
theorem sR:ij.size=256:=by decide +kernel
theorem TI:∀ n<256,(!((IntKind.i64.wrap (cA ij n)).tmod 2==1))=Gc (azi n):=by decide +kernel
theorem abE:∀ n<256,IntKind.i64.wrap (cA ij n)=pc (azi n):=by decide +kernel
noncomputable def Jo:au:=fun args I=>match args,I with
 | [.c (.i .u8 b)],[]=>.aF (0<=b∧b<256) (.ret ⟨.v (.c (.i .i64 (pc b))),[]⟩)
 | _,_=>.fail
noncomputable def Jp:au:=fun args I=>match args,I with
 | [.c (.i .u8 b)],[]=>.aF (0<=b∧b<256) (.ret ⟨.v (.c (.b (Gc b))),[]⟩)
 | _,_=>.fail
theorem ai5:Known prog [] 121 Jo:=by
 refine TC.less fun args I R h=>aJ.out ?_
 unfold Jo at h
 split at h
 case h_2=>exact h.elim
 rename_i b
 have h1:=h.1
 have h2:R ⟨.v (.c (.i .i64 (pc b))),[]⟩:=h.2
 clear h
 refine aJ.of_eq (TH b R) (bz (dT h1.1) (bz (dT (by rw [sR]; exact h1.2)) ?_))
 obtain ⟨n,hn,rfl⟩:=oX h1
 rw [show (azi n).toNat=n from rfl,abE n hn]
 exact h2
theorem ai6:Known prog [] 155 Jp:=by
 refine abD.less fun args I R h=>aJ.out ?_
 unfold Jp at h
 split at h
 case h_2=>exact h.elim
 rename_i b
 have h1:=h.1
 have h2:R ⟨.v (.c (.b (Gc b))),[]⟩:=h.2
 clear h
 refine aJ.of_eq (PL b R) (bz (dT h1.1) (bz (dT (by rw [sR]; exact h1.2)) ?_))
 obtain ⟨n,hn,rfl⟩:=oX h1
 rw [show (azi n).toNat=n from rfl,TI n hn]
 exact h2
noncomputable def agq:FuncId->Option au:=aE [(154,TG),(155,Jp)]
theorem ai7:∀ f T,agq f=some T->Known prog [] f T:=(aq.cons ai4 (aq.cons ai6 aq.nil)).get
noncomputable def agr:au:=fun args I=>aD prog [] agq [] f122 args I
theorem apf:Known prog [] 122 agr:=ah func122 rfl (by kernel_rfl) mixed ai7 (by kernel_rfl)
noncomputable def D (n k:Int):Int:=IntKind.u8.wrap (bits .and .i64 (aX .i64 n (IntKind.i64.wrap (k - 1))) 1)
def o8 (a b:Int):Int:=bits .or .u8 a b
def x8 (a b:Int):Int:=bits .xor .u8 a b
def PB (d1 d2 d3 d4:Int):Int:=o8 (o8 (o8 (o8 (bH .u8 d1 1) (bH .u8 d2 3)) (bH .u8 d3 5)) (bH .u8 d4 7)) (o8 (o8 (bH .u8 (x8 (x8 (x8 1 d1) d3) d4) 0) (bH .u8 (x8 (x8 (x8 1 d1) d2) d4) 2)) (bH .u8 (x8 (x8 (x8 1 d1) d2) d3) 4))
theorem TJ (n:Int) (R:Out->Prop):(agr [.c (.i .i64 n)] []).run R =
 ((0<=PB (D n 1) (D n 2) (D n 3) (D n 4)∧PB (D n 1) (D n 2) (D n 3) (D n 4)<256)∧af (Gc (PB (D n 1) (D n 2) (D n 3) (D n 4))) (R ⟨.v (.c (.i .u8 (o8 (PB (D n 1) (D n 2) (D n 3) (D n 4)) 64))),[]⟩) (R ⟨.v (.c (.i .u8 (PB (D n 1) (D n 2) (D n 3) (D n 4)))),[]⟩)):=by kernel_rfl
def ai8:List Int:=[0x15,0x02,0x49,0x5E,0x64,0x73,0x38,0x2F,0xD0,0xC7,0x8C,0x9B,0xA1,0xB6,0xFD,0xEA]
def put (n:Int):Int:=ai8.getD (n % 16).toNat 0
def bit (n:Int) (k:Nat):Int:=n / 2 ^ k % 2
theorem abF (n:Int) (k:Nat) (hk:k<4):D n (k+1)=bit n k:=by
 have e1:IntKind.i64.wrap ((k:Int)+1 - 1)=(k:Int):=by rw [ay']; omega
 have e2:aX .i64 n (k:Int)=n / 2 ^ k:=by
  unfold aX
  have:min (k:Int).toNat IntKind.i64.bits=k:=by
   show min (k:Int).toNat 64=k
   simp; omega
  rw [this,aze _ (by exact_mod_cast Nat.zero_le _)]
 have e3:bits .and .i64 (n / 2 ^ k) 1=n / 2 ^ k % 2:=cB _ 1 (by decide)
 unfold D bit
 rw [e1,e2,e3,azf]
 have:=azc (n / 2 ^ k) (b:=2) (by decide)
 have:=Int.emod_lt_of_pos (n / 2 ^ k) (b:=2) (by decide)
 omega
theorem C7 (n:Int) (k:Nat) (hk:k<4):bit n k=bit (n % 16) k:=by
 unfold bit
 have:k=0∨k=1∨k=2∨k=3:=by omega
 rcases this with rfl | rfl | rfl | rfl <;> simp <;> omega
theorem kR:∀ m<16,(0<=PB (bit (azi m) 0) (bit (azi m) 1) (bit (azi m) 2) (bit (azi m) 3)∧PB (bit (azi m) 0) (bit (azi m) 1) (bit (azi m) 2) (bit (azi m) 3)<256)∧
 (bif Gc (PB (bit (azi m) 0) (bit (azi m) 1) (bit (azi m) 2) (bit (azi m) 3)) then o8 (PB (bit (azi m) 0) (bit (azi m) 1) (bit (azi m) 2) (bit (azi m) 3)) 64 else PB (bit (azi m) 0) (bit (azi m) 1) (bit (azi m) 2) (bit (azi m) 3))=put (azi m):=by decide +kernel
theorem TK (n:Int):put (n % 16)=put n:=by
 unfold put
 rw [Int.emod_emod_of_dvd _ (Int.dvd_refl 16)]
theorem apg (n:Int):(0<=PB (D n 1) (D n 2) (D n 3) (D n 4)∧PB (D n 1) (D n 2) (D n 3) (D n 4)<256)∧(bif Gc (PB (D n 1) (D n 2) (D n 3) (D n 4)) then o8 (PB (D n 1) (D n 2) (D n 3) (D n 4)) 64 else PB (D n 1) (D n 2) (D n 3) (D n 4))=put n:=by
 have d1:D n 1=bit n 0:=abF n 0 (by decide)
 have d2:D n 2=bit n 1:=abF n 1 (by decide)
 have d3:D n 3=bit n 2:=abF n 2 (by decide)
 have d4:D n 4=bit n 3:=abF n 3 (by decide)
 rw [d1,d2,d3,d4,C7 n 0 (by decide),C7 n 1 (by decide),C7 n 2 (by decide),C7 n 3 (by decide),<- TK n]
 have h0:=azc n (b:=16) (by decide)
 have h1:=Int.emod_lt_of_pos n (b:=16) (by decide)
 have e:n % 16=azi (n % 16).toNat:=by show n % 16=(((n % 16).toNat:Nat):Int); omega
 have hm:(n % 16).toNat<16:=by omega
 generalize (n % 16).toNat=m at *
 rw [e]
 exact kR m hm
noncomputable def ai9:au:=fun args I=>match args,I with
 | [.c (.i .i64 n)],[]=>.ret ⟨.v (.c (.i .u8 (put n))),[]⟩
 | _,_=>.fail
theorem auX:Known prog [] 122 ai9:=by
 refine apf.less fun args I R h=>aJ.out ?_
 unfold ai9 at h
 split at h
 case h_2=>exact h.elim
 rename_i n
 have h2:R ⟨.v (.c (.i .u8 (put n))),[]⟩:=h
 clear h
 obtain ⟨p1,p2⟩:=apg n
 refine aJ.of_eq (TJ n R) ⟨p1,?_⟩
 rw [<- p2] at h2
 cases hb:Gc (PB (D n 1) (D n 2) (D n 3) (D n 4)) with
 | true=>rw [hb] at h2; exact h2
 | false=>rw [hb] at h2; exact h2
noncomputable def TL:FuncId->Option au:=aE [(122,ai9),(121,Jo)]
theorem TM:∀ f T,TL f=some T->Known prog [] f T:=(aq.cons auX (aq.cons ai5 aq.nil)).get
noncomputable def ags:Cx:={P:=prog,con:=TL,glob:=[],m:=0,loops:=[]}
noncomputable def agt:au:=fun args I=>if I.length=0 then aD prog [] TL [(0,[0,5],cF ags 0 [0,5] [2,3] (ae f76 0) 17)] f76 args I else .fail
theorem aph:Known prog [] 76 agt:=av 0 func76 rfl (by kernel_rfl) mixed TM (aM.one (id:=0) (body:=ae f76 0) (by kernel_rfl) rfl (bL (X:=ags) TM mixed (aM.none (by kernel_rfl)) [0,5] [2,3] 17))
def oG (n:Int) (x:Bool):Out:=⟨.tu [.c (.i .i64 n),.c (.b x)],[]⟩
def C8 (b:Int) (k:Nat):Bool:=decide (pc (x8 b (put (k:Int)))<=1)
def ai' (b:Int) (R:Out->Prop):List Nat->Prop
 | []=>R (oG 0 false)
 | k::ks=>(0<=x8 b (put (k:Int))∧x8 b (put (k:Int))<256)∧af (C8 b k) (R (oG (k:Int) true)) (ai' b R ks)
theorem yG (b:Int) (R:Out->Prop):(agt [.c (.i .u8 b)] []).run R=ai' b R (axy 16):=by kernel_rfl
def get (b:Int):Option Nat:=(axy 16).find? (C8 b)
def bw (b:Int):Int:=((get b).getD 0:Nat)
def cz (b:Int):Bool:=(get b).isSome
theorem api (a b:Int):0<=x8 a b∧x8 a b<256:=by
 unfold x8 bits
 rw [azf]
 omega
theorem L8 {b:Int} {R:Out->Prop}:∀ {l:List Nat},R (oG ((l.find? (C8 b)).getD 0:Nat) (l.find? (C8 b)).isSome)->ai' b R l
 | [],h=>h
 | k::ks,h=>by
   refine ⟨api _ _,?_⟩
   rw [azj] at h
   cases hk:C8 b k with
   | true=>rw [hk] at h; exact h
   | false=>rw [hk] at h; exact L8 h
noncomputable def C9:au:=fun args I=>match args,I with
 | [.c (.i .u8 b)],[]=>.ret (oG (bw b) (cz b))
 | _,_=>.fail
theorem abG:Known prog [] 76 C9:=by
 refine aph.less fun args I R h=>aJ.out ?_
 unfold C9 at h
 split at h
 case h_2=>exact h.elim
 rename_i b
 exact aJ.of_eq (yG b R) (L8 h)
noncomputable def Jq:FuncId->Option au:=aE [(76,C9)]
theorem L9:∀ f T,Jq f=some T->Known prog [] f T:=(aq.cons abG aq.nil).get
noncomputable def TN:Cx:={P:=prog,con:=Jq,glob:=[],m:=0,loops:=[]}
noncomputable def TO:au:=fun args I=>if I.length=0 then aD prog [] Jq [(0,[4,9,10,11],cF TN 0 [4,9,10,11] [2,3,4] (ae f73 0) 3)] f73 args I else .fail
theorem aja:Known prog [] 73 TO:=av 0 func73 rfl (by kernel_rfl) mixed L9 (aM.one (id:=0) (body:=ae f73 0) (by kernel_rfl) rfl (bL (X:=TN) L9 mixed (aM.none (by kernel_rfl)) [4,9,10,11] [2,3,4] 3))
def oO (a b:Int):Out:=⟨.tu [.c (.h 0 0 2),.c (.b true)],[some ⟨1,3,.ints .i64 [a,b]⟩]⟩
def oN:Out:=⟨.tu [.c .sn,.c (.b false)],[]⟩
theorem PN (a b:Int) (R:Out->Prop):(TO [.c (.l .u8 [a,b])] []).run R=af (!cz a) (R oN) (af (!cz b) (R oN) (R (oO (bw a) (bw b)))):=by kernel_rfl
noncomputable def L':au:=fun args I=>match args,I with
 | [.c (.l .u8 ys)],[]=>.aF (ys.length=2) (.br (cz (ys.getD 0 0)&&cz (ys.getD 1 0)) (.ret (oO (bw (ys.getD 0 0)) (bw (ys.getD 1 0)))) (.ret oN))
 | _,_=>.fail
theorem apj:Known prog [] 73 L':=by
 refine aja.less fun args I R h=>aJ.out ?_
 unfold L' at h
 split at h
 case h_2=>exact h.elim
 rename_i ys
 have h1:=h.1
 have h2:=aW.1 h.2
 clear h
 obtain ⟨a,b,rfl⟩:∃ a b,ys=[a,b]:=by
  match ys,h1 with
  | [a,b],_=>exact ⟨a,b,rfl⟩
 refine aJ.of_eq (PN a b R) ?_
 rcases h2 with ⟨c,hR⟩ | ⟨c,hR⟩
 ·have c:(cz a&&cz b)=true:=c
  rw [ayu] at c
  rw [c.1,c.2]
  exact hR
 ·have c:(cz a&&cz b)=false:=c
  cases ha:cz a with
  | false=>exact hR
  | true=>
    cases hb:cz b with
    | false=>exact hR
    | true=>rw [ha,hb] at c; cases c
noncomputable def Jr:au:=fun args I=>aD prog [] (fun _=>ay1) [] f74 args I
theorem ajb:Known prog [] 74 Jr:=ah func74 rfl (by kernel_rfl) mixed az (by kernel_rfl)
noncomputable def Gd:au:=fun args I=>aD prog [] (fun _=>ay1) [] f75 args I
theorem TP:Known prog [] 75 Gd:=ah func75 rfl (by kernel_rfl) mixed az (by kernel_rfl)
end pk
end Go.Proofs.YthknkidbonfbnaaGreatDoor
namespace Go.Nx
open Go
theorem bX {P:Program} {gl:List Nat} {f:FuncId} {T:au} (h:Known P [] f T):Known P gl f T:=
 ⟨h.qV,fun args I R hR Γ w vs hw _ ha ho=>h.sound args I R hR Γ w vs hw ⟨(fun x hx=>by cases hx),(fun x hx=>by cases hx)⟩ ha ho⟩
end Go.Nx
namespace Go.Proofs.YthknkidbonfbnaaGreatDoor
open Go.Proofs.Tryz
namespace pk
open Go Go.Nx
abbrev fM:Nat:=1
abbrev dX:Nat:=2
abbrev fN:Nat:=3
abbrev oY:Nat:=0
def GL:List Nat:=[283,0,1,2,3]
end pk
namespace ac
open Go Go.Nx
def K3:List CK:=[.i .i64,.i .i64,.i .i64]
def K1:List CK:=[.b]
structure Pg where
 mg:Int
 pn:Int
 sb:Int
 c:List (List Sc)
 op:Int
 rows:List Int
 th:List (List Sc)
 ex:List (List Sc)
 lk:List (List Sc)
 ld:Bool
 df:Int
def apk:List Part:=[.i .i64,.i .i64,.i .i64,.ar K1 11,.i .i64,.ai .u8 1000,.ar K1 25,.lr K3,.ar K3 6,.b,.i .i64]
def di:List Part:=[.i .i64,.i .i64,.i .i64]
def Pg.row (p:Pg):List FC:=[.i p.mg,.i p.pn,.i p.sb,.rs p.c,.i p.op,.is p.rows,.rs p.th,.rs p.ex,.rs p.lk,.b p.ld,.i p.df]
def Pg.key (p:Pg):List FC:=[.i p.mg,.i p.pn,.i p.sb]
def uw (p:Pg) (x:NC) (pre:List NC) (post:List NC->List bq):List bq:=
 .cells (pre++[.i .i64 p.mg,.i .i64 p.pn,.i .i64 p.sb])::.aA K1 11 p.c::.cells [.i .i64 p.op]::.ints .u8 1000 p.rows::.aA K1 25 p.th::.cells [x]::.aA K3 6 p.lk::post [.b p.ld,.i .i64 p.df]
def fO:Pg:=⟨0,0,0,axx 11 [.b false],0,axx 1000 0,axx 25 [.b false],[],axx 6 [.i 0,.i 0,.i 0],false,0⟩
structure Hd where
 mg:Int
 pn:Int
 sb:Int
 c:List (List Sc)
 op:Int
structure Mg where
 TQ:Bool
 p:Pg
 x:NC
 h:Hd
 t:NC
 bg:Bool
 rg:Int
 td:Bool
def lp (m:Mg) (pre:List NC) (post:List NC->List bq):List bq:=
 uw m.p m.x (pre++[.b m.TQ]) fun q=>.cells (q++[.i .i64 m.h.mg,.i .i64 m.h.pn,.i .i64 m.h.sb])::.aA K1 11 m.h.c::post [.i .i64 m.h.op,m.t,.b m.bg,.i .i64 m.rg,.b m.td]
def C' (r:Nat) (v:Nat->Mg) (inf:List NC):List bq:=
 lp (v 0) [.p r 0 0] fun q=>lp (v 1) q fun q=>lp (v 2) q fun q=>lp (v 3) q fun q=>lp (v 4) q fun q=>lp (v 5) q fun q=>lp (v 6) q fun q=>lp (v 7) q fun q=>lp (v 8) q fun q=>[.cells (q++inf)]
noncomputable def apl (r:Nat) (v:Nat->Mg) (inf:List NC):aG:=⟨9741,97,.sg (C' r v inf)⟩
noncomputable def Ma (gA:Int) (mp:Nat) (ord:NC) (a b c:Int) (wi:Bool):aG:=⟨7,154,.cells [.i .i64 gA,.m mp,ord,.i .i64 a,.i .i64 b,.i .i64 c,.b wi]⟩
noncomputable def eN (l:List (List FC × List FC)):aG:=⟨0,152,.mp di apk l⟩
end ac
end Go.Proofs.YthknkidbonfbnaaGreatDoor
namespace Go.Nx
open Go
theorem aQ.ajc {Γ:Env} {rg:List (Option aG)} {w:World} (hW:aQ Γ rg w) {r st:Nat} {e:TypeId} {xs ys:List NC} (hr:rg[r]? = some (some ⟨st,e,.cells xs⟩)) (hlen:ys.length=xs.length)
  (hxy:∀ B c l l2,Γ.μ r=some B->w.heap[B.ax]? = some (.cells c B.e (0,0))->c.toList.drop B.o=l++l2->R2 (CR Γ) xs l->R2 (CR Γ) ys l):aQ Γ (putAt rg r (some ⟨st,e,.cells ys⟩)) w:=by
 refine ⟨fun n g hn=>?_,fun a b Ba Bb b9 la lb=>hW.inj a b Ba Bb b9 ?_ ?_,hW.kp,fun n B ln=>hW.apart n B ?_,hW.ro⟩
 ·rcases (bn _ _ _ _ _).1 hn with ⟨rfl,he⟩ | ⟨h1,h2⟩
  ·cases he
   obtain ⟨B,hB,hrr⟩:=hW.live n _ hr
   refine ⟨B,hB,?_⟩
   rcases hrr with ⟨-,⟨k,hk⟩ | ⟨ks,hk⟩ | ⟨sch,hk,-⟩⟩ | ⟨h0,c,h1,h2,h3,⟨l1,l2,h4,h5⟩,h6⟩ | ⟨-,hM⟩
   ·cases hk
   ·cases hk
   ·cases hk
   rotate_left
   ·obtain ⟨_,_,_,_,_,hk,-⟩:=hM.mp; cases hk
   exact .inr (.inl ⟨h0,c,h1,h2,h3,⟨l1,l2,h4,hxy B c l1 l2 hB h1 h4 h5⟩,h6.same (congrArg some hlen) rfl⟩)
  ·exact hW.live n g h2
 ·rcases (cq _ _ _ _).1 la with ⟨rfl,-⟩ | ⟨-,h⟩
  ·exact ⟨_,hr⟩
  ·exact h
 ·rcases (cq _ _ _ _).1 lb with ⟨rfl,-⟩ | ⟨-,h⟩
  ·exact ⟨_,hr⟩
  ·exact h
 ·rcases (cq _ _ _ _).1 ln with ⟨rfl,-⟩ | ⟨-,h⟩
  ·exact ⟨_,hr⟩
  ·exact h
theorem aQ.move {Γ:Env} {rg:List (Option aG)} {w:World} (h:aQ Γ rg w) {k nm:Nat} {g:aG} {B:cR} (hk:rg[k]? = some (some g)) (hB:Γ.μ k=some B) (fH:Γ.μ nm=none) :
  aQ (Γ.add nm B) (putAt (putAt rg k none) nm (some g)) w:=by
 have hle:=Γ.jq nm B fH
 have hkn:k≠nm:=fun e=>by rw [e,fH] at hB; cases hB
 have Cz:∀ {m B'},(Γ.add nm B).pt m=some B'->(m=nm∧Γ.pt k=some B')∨(m≠nm∧Γ.pt m=some B'):=fun {m B'} h'=>by
  by_cases e:m=nm
  ·subst e
   obtain ⟨h1,h2⟩:=Env.bt.1 h'
   rw [Env.dq] at h1
   cases h1
   exact .inl ⟨rfl,Env.bt.2 ⟨hB,h2⟩⟩
  ·rw [Env.cw e] at h'; exact .inr ⟨e,h'⟩
 have hl:∀ m,m≠nm->Nx.live (putAt (putAt rg k none) nm (some g)) m->m≠k∧Nx.live rg m:=fun m e hm=>by
  rcases (cq _ _ _ _).1 hm with ⟨h1,-⟩ | ⟨-,h1⟩
  ·exact (e h1).elim
  ·rcases (cq _ _ _ _).1 h1 with ⟨-,h2⟩ | h2
   ·cases h2
   ·exact h2
 have lk:Nx.live rg k:=⟨_,hk⟩
 refine ⟨fun m g' hm=>?_,fun a b B1 B2 b9 la lb ea eb=>?_,h.kp,fun m B' hm eB=>?_,h.ro⟩
 ·rcases (bn _ _ _ _ _).1 hm with ⟨rfl,e⟩ | ⟨b9,e⟩
  ·cases e
   obtain ⟨B',h1,h2⟩:=h.live k g hk
   rw [hB] at h1
   cases h1
   exact ⟨B,Env.dq _ _ _,h2.mono hle⟩
  ·rcases (bn _ _ _ _ _).1 e with ⟨-,e⟩ | ⟨-,e⟩
   ·cases e
   obtain ⟨B',h1,h2⟩:=h.live m g' e
   exact ⟨B',hle.μ _ _ h1,h2.mono hle⟩
 ·rcases Cz ea with ⟨a1,a2⟩ | ⟨a1,a2⟩ <;> rcases Cz eb with ⟨b1,b2⟩ | ⟨b1,b2⟩
  ·exact (b9 (a1.trans b1.symm)).elim
  ·obtain ⟨c1,c2⟩:=hl b b1 lb
   exact h.inj k b B1 B2 (fun e=>c1 e.symm) lk c2 a2 b2
  ·obtain ⟨c1,c2⟩:=hl a a1 la
   exact h.inj a k B1 B2 c1 c2 lk a2 b2
  ·exact h.inj a b B1 B2 b9 (hl a a1 la).2 (hl b b1 lb).2 a2 b2
 ·rcases Cz eB with ⟨a1,a2⟩ | ⟨a1,a2⟩
  ·exact h.apart k B' lk a2
  ·exact h.apart m B' (hl m a1 hm).2 a2
theorem Inv.ghost {gl:List Nat} {N:Nat} {Γ:Env} {s:St} {a:Act} {w:World} (h:Inv gl N Γ s a w) {g:aG} (hg:uY g) :
  ∃ Γ' B,Γ'.μ s.rg.length=some B∧Ext Γ w Γ'∧Inv gl N Γ' {fr:=s.fr,rg:=putAt s.rg s.rg.length (some g)} a w:=by
 have h0:=h.nw s.rg.length (axB _)
 have hle:=Γ.jq s.rg.length (cR.none w) h0
 refine ⟨Γ.add s.rg.length (cR.none w),_,Env.dq _ _ _,Ext.add h0 (fun h=>by cases h),h.wr.ghost h0 hg,h.fr.mono hle,h.gl.mono hle,fun n hn=>?_,h.df.mono hle⟩
 have hn:(putAt s.rg s.rg.length (some g)).length<=n:=hn
 have:=(dv s.rg s.rg.length (some g)).2
 have b9:n≠s.rg.length:=by omega
 have:(Γ.add s.rg.length (cR.none w)).μ n=Γ.μ n:=by simp [Env.add,b9]
 rw [this]
 exact h.nw n (by omega)
structure qh (Γ Γ' : Env):Prop where
 le:Γ.le Γ'
 ro:Γ'.ro=Γ.ro
 pt:∀ n B,Γ'.pt n=some B->∃ n',Γ.pt n'=some B
theorem qh.refl (Γ:Env):qh Γ Γ:=⟨Env.le.refl Γ,rfl,fun n B h=>⟨n,h⟩⟩
theorem qh.trans {a b c:Env} (h:qh a b) (k:qh b c):qh a c:=⟨h.le.trans k.le,k.ro.trans h.ro,fun n B hB=>by
 obtain ⟨n',h1⟩:=k.pt n B hB
 exact h.pt n' B h1⟩
theorem qh.ext {Γ0 Γ Γ' : Env} {w0:World} (hE:Ext Γ0 w0 Γ) (h:qh Γ Γ'):Ext Γ0 w0 Γ':=⟨hE.le.trans h.le,fun b hb=>hE.ro b (by rw [<- h.ro]; exact hb),fun n B hB=>by
 obtain ⟨n',h1⟩:=h.pt n B hB
 exact hE.nw n' B h1⟩
theorem qh.ghost {Γ:Env} (w:World) {nm:Nat} (h0:Γ.μ nm=none):qh Γ (Γ.add nm (cR.none w)):=by
 refine ⟨Γ.jq nm _ h0,rfl,fun n B hB=>?_⟩
 by_cases e:n=nm
 ·obtain ⟨h1,h2⟩:=Env.bt.1 hB
  rw [e,Env.dq] at h1
  cases h1
  cases h2
 ·rw [Env.cw e] at hB
  exact ⟨n,hB⟩
theorem qh.move {Γ:Env} {nm k:Nat} {B:cR} (h0:Γ.μ nm=none) (hB:Γ.μ k=some B):qh Γ (Γ.add nm B):=by
 refine ⟨Γ.jq nm _ h0,rfl,fun n B' sj=>?_⟩
 by_cases e:n=nm
 ·obtain ⟨h1,h2⟩:=Env.bt.1 sj
  rw [e,Env.dq] at h1
  cases h1
  exact ⟨k,Env.bt.2 ⟨hB,h2⟩⟩
 ·rw [Env.cw e] at sj
  exact ⟨n,sj⟩
theorem TR {Γ:Env} {nm n:Nat} {B:cR} (h:n≠nm):(Γ.add nm B).μ n=Γ.μ n:=by simp [Env.add,h]
def rowOf:NC->Option (Nat × Nat)
 | .h k o n=>(match o with
   | 0=>some (k,n)
   | _=>none)
 | .hz k n=>some (k,n)
 | _=>none
theorem TS {Γ:Env} {x:NC} {k n nm:Nat} {B:cR} {v:Value} (h:rowOf x=some (k,n)) (h0:Γ.μ nm=none) (hB:Γ.μ k=some B) (hv:CR Γ x v):CR (Γ.add nm B) (.hz nm n) v:=by
 have hle:=Γ.jq nm B h0
 have row:∀ B',Γ.wh k=some B'->(Γ.add nm B).wh nm=some B':=fun B' h1=>by
  obtain ⟨k1,k2⟩:=Env.fL.1 h1
  rw [hB] at k1
  cases k1
  exact Env.fL.2 ⟨Env.dq _ _ _,k2⟩
 have hg:(Γ.add nm B).μ nm=some B:=Env.dq _ _ _
 cases x <;> simp only [rowOf] at h
 case h r o len=>
  split at h
  ·cases h
   obtain ⟨⟨B',o,cap,h1,h2⟩,h3⟩:=hv
   exact ⟨.inr ⟨B',o,cap,row B' h1,h2⟩,h3⟩
  ·cases h
 case hz r len=>
  cases h
  obtain ⟨h1 | ⟨B',o,cap,h1,h2⟩,h3⟩:=hv
  ·exact ⟨.inl ⟨h1.1,h1.2.1,B,hg⟩,h3⟩
  ·exact ⟨.inr ⟨B',o,cap,row B' h1,h2⟩,h3⟩
 all_goals cases h
def ajd (g:aG):Bool:=match g.body with
 | .ints _ xs=>xs.isEmpty
 | .aA _ xs=>xs.isEmpty
 | _=>false
theorem abH {g:aG} (h:ajd g=true):uY g:=by
 unfold ajd at h
 split at h
 ·rename_i k xs e
  have:xs=[]:=by simpa using h
  subst this
  exact .inl ⟨k,e⟩
 ·rename_i ks xs e
  have:xs=[]:=by simpa using h
  subst this
  exact .inr (.inl ⟨ks,e⟩)
 ·cases h
def toEnd (g:aG) (x:NC) (rg:List (Option aG)):Option (NC × List (Option aG)):=
 match x with
 | .sn=>(match ajd g with
   | true=>some (.hz rg.length 0,putAt rg rg.length (some g))
   | false=>none)
 | x=>(match rowOf x with
   | some (k,n)=>(match rg[k]? with
     | some (some gk)=>some (.hz rg.length n,putAt (putAt rg k none) rg.length (some gk))
     | _=>none)
   | none=>none)
structure TT (Γ:Env) (rg:List (Option aG)) (w:World) (Γ' : Env) (mY : List (Option aG)):Prop where
 tJ:qh Γ Γ'
 wr:aQ Γ' mY w
 nw:∀ n,mY.length<=n->Γ'.μ n=none
theorem Ge {Γ:Env} {g:aG} {x y:NC} {rg mY : List (Option aG)} {w:World} (hW:aQ Γ rg w) (hF:∀ n,rg.length<=n->Γ.μ n=none) (h:toEnd g x rg=some (y,mY)) :
  ∃ Γ',TT Γ rg w Γ' mY∧(∀ v,CR Γ x v->CR Γ' y v)∧rg.length<mY.length:=by
 have h0:=hF rg.length (axB _)
 have main:∀ k n,rowOf x=some (k,n)->(match rg[k]? with
   | some (some gk)=>some ((.hz rg.length n:NC),putAt (putAt rg k none) rg.length (some gk))
   | _=>none)=some (y,mY)->∃ Γ',TT Γ rg w Γ' mY∧(∀ v,CR Γ x v->CR Γ' y v)∧rg.length<mY.length:=fun k n hx h=>by
  split at h
  case h_2=>cases h
  rename_i gk hk
  cases h
  obtain ⟨B,hB,-⟩:=hW.live k gk hk
  have O6:k<rg.length:=(List.getElem?_eq_some_iff.1 hk).1
  have l1:=dv rg k none
  have l2:=dv (putAt rg k none) rg.length (some gk)
  refine ⟨Γ.add rg.length B,⟨qh.move h0 hB,hW.move hk hB h0,fun m hm=>?_⟩,fun v hv=>TS hx h0 hB hv,by omega⟩
  rw [TR (by omega)]
  exact hF m (by omega)
 unfold toEnd at h
 split at h
 ·split at h
  ·rename_i hg
   cases h
   have l1:=dv rg rg.length (some g)
   refine ⟨Γ.add rg.length (cR.none w),⟨qh.ghost w h0,hW.ghost h0 (abH hg),fun n hn=>?_⟩,fun v hv=>⟨.inl ⟨rfl,hv.1,_,Env.dq _ _ _⟩,hv.2⟩,by omega⟩
   rw [TR (by omega)]
   exact hF n (by omega)
  ·cases h
 ·split at h
  ·rename_i k n hx
   exact main k n hx h
  ·cases h
def Da (c:Nat × Nat × aG) (rg:List (Option aG)):Option (List (Option aG)):=
 match rg[c.1]? with
 | some (some ⟨st,e,.cells xs⟩)=>(match xs[c.2.1]? with
   | some x=>(match toEnd c.2.2 x rg with
     | some (y,If)=>(match If[c.1]? with
       | some (some ⟨st',e',.cells xs'⟩)=>(match decide (rg.length=c.1) with
         | false=>some (putAt If c.1 (some ⟨st',e',.cells (xs'.set c.2.1 y)⟩))
         | true=>none)
       | _=>none)
     | none=>none)
   | none=>none)
 | _=>none
theorem PO {g:aG} {x y:NC} {rg If:List (Option aG)} {r:Nat} {z:aG} (h:toEnd g x rg=some (y,If)) (hr:If[r]? = some (some z)) (hl:rg.length≠r):rg[r]? = some (some z):=by
 have main:∀ k n,(match rg[k]? with
   | some (some gk)=>some ((.hz rg.length n:NC),putAt (putAt rg k none) rg.length (some gk))
   | _=>none)=some (y,If)->rg[r]? = some (some z):=fun k n h=>by
  split at h
  case h_2=>cases h
  rename_i gk hk
  cases h
  rcases (bn _ _ _ _ _).1 hr with ⟨e,-⟩ | ⟨-,h2⟩
  ·exact (hl e.symm).elim
  rcases (bn _ _ _ _ _).1 h2 with ⟨-,h3⟩ | ⟨-,h3⟩
  ·cases h3
  ·exact h3
 unfold toEnd at h
 split at h
 ·split at h
  ·cases h
   rcases (bn _ _ _ _ _).1 hr with ⟨e,-⟩ | ⟨-,h2⟩
   ·exact (hl e.symm).elim
   ·exact h2
  ·cases h
 ·split at h
  ·rename_i k n hx
   exact main k n h
  ·cases h
theorem Js {Γ:Env} {c:Nat × Nat × aG} {rg mY : List (Option aG)} {w:World} (hW:aQ Γ rg w) (hF:∀ n,rg.length<=n->Γ.μ n=none) (h:Da c rg=some mY):∃ Γ',TT Γ rg w Γ' mY:=by
 obtain ⟨r,j,g⟩:=c
 unfold Da at h
 split at h
 case h_2=>cases h
 rename_i st e xs hr
 simp only at hr
 split at h
 case h_2=>cases h
 rename_i x hj
 simp only at hj
 split at h
 case h_2=>cases h
 rename_i y If ht
 split at h
 case h_2=>cases h
 rename_i st' e' xs' lz
 simp only at lz
 split at h
 case h_2=>cases h
 rename_i hd
 cases h
 have b9:rg.length≠r:=of_decide_eq_false hd
 have hz:=PO ht lz b9
 rw [hr] at hz
 cases hz
 obtain ⟨Γ',hs,hc,hl⟩:=Ge hW hF ht
 refine ⟨Γ',hs.tJ,hs.wr.ajc lz (axV ..) fun B cc l l2 hB hcc hdr Ez=>?_,fun n hn=>hs.nw n (ay5 (dv _ r _).1 hn)⟩
 -- the auY value was one of x in the agu ahead
 have hrl:r<rg.length:=(List.getElem?_eq_some_iff.1 hr).1
 obtain ⟨B0,hB0,hrr⟩:=hW.live r _ hr
 have hBB:B=B0:=by
  have:=hs.tJ.le.μ _ _ hB0
  rw [hB] at this
  cases this
  rfl
 subst hBB
 rcases hrr with ⟨-,⟨k',hk⟩ | ⟨ks,hk⟩ | ⟨sch,hk,-⟩⟩ | ⟨h0,c1,h1,h2,h3,⟨l1,l2',h4,h5⟩,h6⟩ | ⟨-,hM⟩
 ·cases hk
 ·cases hk
 ·cases hk
 rotate_left
 ·obtain ⟨_,_,_,_,_,hk,-⟩:=hM.mp; cases hk
 rw [hcc] at h1
 cases h1
 have e1:l=l1:=by
  have a1:=Ez.length
  have a2:=h5.length
  rw [h4] at hdr
  exact ((List.append_inj hdr (by omega)).1).symm
 subst e1
 obtain ⟨u,hu,hcu⟩:=h5.get hj
 have:=Ez.set j (hc u hcu)
 have e2:l.set j u=l:=by
  apply List.ext_getElem?
  intro q
  rw [List.getElem?_set]
  split
  ·rename_i e; subst e
   split
   ·exact hu.symm
   ·rename_i hq; rw [List.getElem?_eq_none (by omega)] at hu; cases hu
  ·rfl
 rw [e2] at this
 exact this
def sS:List (Nat × Nat × aG)->List (Option aG)->Option (List (Option aG))
 | [],rg=>some rg
 | c::cs,rg=>match Da c rg with
   | some If=>sS cs If
   | none=>none
theorem TT.refl {Γ:Env} {rg:List (Option aG)} {w:World} (hW:aQ Γ rg w) (hF:∀ n,rg.length<=n->Γ.μ n=none):TT Γ rg w Γ rg:=⟨qh.refl Γ,hW,hF⟩
theorem TT.trans {Γ EA eG:Env} {rg If rg2:List (Option aG)} {w:World} (h:TT Γ rg w EA If) (k:TT EA If w eG rg2):TT Γ rg w eG rg2:=⟨h.tJ.trans k.tJ,k.wr,k.nw⟩
theorem o3 {w:World}:∀ (cs:List (Nat × Nat × aG)) {Γ:Env} {rg mY : List (Option aG)},aQ Γ rg w->(∀ n,rg.length<=n->Γ.μ n=none)->sS cs rg=some mY->∃ Γ',TT Γ rg w Γ' mY
 | [],Γ,rg,mY,hW,hF,h=>by cases h; exact ⟨Γ,TT.refl hW hF⟩
 | c::cs,Γ,rg,mY,hW,hF,h=>by
   simp only [sS] at h
   split at h
   case h_2=>cases h
   rename_i If h1
   obtain ⟨EA,s1⟩:=Js hW hF h1
   obtain ⟨eG,s2⟩:=o3 cs s1.wr s1.nw h
   exact ⟨eG,s1.trans s2⟩
def Db (F:Nat) (cs:List (Nat × Nat × aG)) (res:Option aG) (o:Out):Tr Out:=
 match decide (o.rg.length<=F),sS cs (o.rg++axx (F - o.rg.length) none) with
 | true,some rg=>(match res with
   | none=>.ret ⟨o.res,rg⟩
   | some g=>(match o.res with
     | .v (.c x)=>(match toEnd g x rg with
       | some (y,If)=>.ret ⟨.v (.c y),If⟩
       | none=>.fail)
     | _=>.fail))
 | _,_=>.fail
theorem Bh {F:Nat} {cs:List (Nat × Nat × aG)} {res:Option aG} {o:Out} {R:Out->Prop} (h:(Db F cs res o).run R):∃ o',jw o o'∧R o':=by
 unfold Db at h
 split at h
 case h_2=>exact h.elim
 rename_i rg hd hcs
 have hd:=of_decide_eq_true hd
 have pad:∀ {Γ:Env} {w:World},aQ Γ o.rg w->(∀ n,o.rg.length<=n->Γ.μ n=none)->aQ Γ (o.rg++axx (F - o.rg.length) none) w∧∀ n,(o.rg++axx (F - o.rg.length) none).length<=n->Γ.μ n=none:=fun {Γ w} hW hF=>by
  refine ⟨hW.Tp fun n g hn=>?_,fun n hn=>hF n (by rw [axG] at hn; omega)⟩
  by_cases ff:n<o.rg.length
  ·rw [List.getElem?_append_left ff] at hn; exact hn
  ·rw [List.getElem?_append_right (by omega),List.getElem?_replicate] at hn
   split at hn <;> simp at hn
 split at h
 ·refine ⟨_,fun Γ0 Γ w0 w v hE hS hW hF=>?_,h⟩
  obtain ⟨p1,p2⟩:=pad hW hF
  obtain ⟨EA,s1⟩:=o3 cs p1 p2 hcs
  exact ⟨EA,s1.tJ.ext hE,hS.mono s1.tJ.le,s1.wr,s1.nw⟩
 ·rename_i g
  split at h
  case h_2=>exact h.elim
  rename_i x hx
  split at h
  case h_2=>exact h.elim
  rename_i y If ht
  refine ⟨_,fun Γ0 Γ w0 w v hE hS hW hF=>?_,h⟩
  obtain ⟨p1,p2⟩:=pad hW hF
  obtain ⟨EA,s1⟩:=o3 cs p1 p2 hcs
  obtain ⟨eG,s2,hc,-⟩:=Ge s1.wr s1.nw ht
  have hS1:b5 EA o.res v:=hS.mono s1.tJ.le
  rw [hx] at hS1
  exact ⟨eG,(s1.tJ.trans s2.tJ).ext hE,hc v hS1,s2.wr,s2.nw⟩
def iM (F:Nat) (cs:List (Nat × Nat × aG)) (res:Option aG) (T:au):au:=fun args I=>(T args I).bind (Db F cs res)
theorem bP.canon {P:Program} {gl:List Nat} {f:FuncId} {T:au} (h:bP P gl f T) (F:Nat) (cs:List (Nat × Nat × aG)) (res:Option aG):bP P gl f (iM F cs res T):=by
 refine h.To fun args I R hR=>?_
 unfold iM at hR
 rw [Tr.run_bind] at hR
 exact Tr.aN _ (fun o ho=>Bh ho) hR
theorem Gf {rg:List (Option aG)} {m n:Nat} {g:aG} (h:(rg.take m)[n]? = some (some g)):rg[n]? = some (some g):=by
 rw [List.getElem?_take] at h
 split at h
 ·exact h
 ·cases h
def im (Γ:Env) (x y:NC):Prop:=∀ v,CR Γ x v->CR Γ y v
theorem im.refl (Γ:Env) (x:NC):im Γ x x:=fun _ h=>h
theorem R2.soft {Γ:Env} {xs ys:List NC} {l:List Value} (h:R2 (im Γ) xs ys) (k:R2 (CR Γ) xs l):R2 (CR Γ) ys l:=by
 induction h generalizing l with
 | nil=>exact k
 | cons a _ ih=>
   cases k with
   | cons b k=>exact .cons (a _ b) (ih k)
def yH (φ:Nat->NC->NC):Nat->List NC->List NC
 | _,[]=>[]
 | j,x::xs=>φ j x::yH φ (j+1) xs
def eW (φ:Nat->Nat->NC->NC):Nat->List bq->List bq
 | _,[]=>[]
 | i,.cells xs::l=>.cells (yH (φ i) 0 xs)::eW φ (i+1) l
 | i,s::l=>s::eW φ (i+1) l
def aje (φ:Nat->Nat->NC->NC):NV->NV
 | .c x=>.c (φ 0 0 x)
 | .ag xs=>.ag (yH (φ 0) 0 xs)
 | .sg l=>.sg (eW φ 0 l)
def TU (φ:Nat->Nat->Nat->NC->NC):Nat->List NV->List NV
 | _,[]=>[]
 | i,x::l=>aje (φ i) x::TU φ (i+1) l
def ajf (φ:Nat->Nat->Nat->NC->NC):NS->NS
 | .v x=>.v (aje (φ 0) x)
 | .tu l=>.tu (TU φ 0 l)
 | .dead=>.dead
def ajg (φ:Nat->Nat->NC->NC) (g:aG):aG:=
 match g.body with
 | .cells xs=>{g with body:=.cells (yH (φ 0) 0 xs)}
 | .sg l=>{g with body:=.sg (eW φ 0 l)}
 | _=>g
def j0 (φ:Nat->Nat->Nat->NC->NC):Nat->List (Option aG)->List (Option aG)
 | _,[]=>[]
 | i,none::l=>none::j0 φ (i+1) l
 | i,some g::l=>some (ajg (φ i) g)::j0 φ (i+1) l
def NS.gU:NS->List NC
 | .v x=>x.gU
 | .tu l=>l.flatMap NV.gU
 | .dead=>[]
def Body.gU:Body->List NC
 | .cells xs=>xs
 | .sg l=>dt l
 | _=>[]
def qz:List (Option aG)->List NC
 | []=>[]
 | none::l=>qz l
 | some g::l=>g.body.gU++qz l
theorem kS (s:bq) (l:List bq):dt (s::l)=s.gU++dt l:=by cases l <;> simp [dt]
theorem nt {Γ:Env} {φ:Nat->NC->NC}:∀ (xs:List NC) (j:Nat),(∀ j x,x∈xs->im Γ x (φ j x))->R2 (im Γ) xs (yH φ j xs)
 | [],_,_=>.nil
 | x::xs,j,h=>.cons (h j x (by simp)) (nt xs (j+1) fun j y hy=>h j y (by simp [hy]))
theorem nu (φ:Nat->NC->NC):∀ (xs:List NC) (j:Nat),(yH φ j xs).length=xs.length
 | [],_=>rfl
 | _::xs,j=>by simp [yH,nu φ xs (j+1)]
theorem R2.ux (Γ:Env):∀ xs:List NC,R2 (im Γ) xs xs
 | []=>.nil
 | x::xs=>.cons (im.refl Γ x) (R2.ux Γ xs)
theorem ic {Γ:Env} {φ:Nat->Nat->NC->NC}:∀ (l:List bq) (i:Nat),(∀ i j x,x∈dt l->im Γ x (φ i j x))->R2 (im Γ) (ay l) (ay (eW φ i l))
 | [],_,_=>.nil
 | .cells xs::l,i,h=>by
   rw [eW,ak,ak]
   exact (nt xs 0 fun j x hx=>h i j x (by rw [kS]; exact azk _ hx)).append (ic l (i+1) fun i j x hx=>h i j x (by rw [kS]; exact azl _ hx))
 | .ints k n xs::l,i,h=>by
   rw [eW,ak,ak]
   ·exact (R2.ux Γ _).append (ic l (i+1) fun i j x hx=>h i j x (by rw [kS]; exact azl _ hx))
   ·intro _ h; cases h
 | .aA ks n xs::l,i,h=>by
   rw [eW,ak,ak]
   ·exact (R2.ux Γ _).append (ic l (i+1) fun i j x hx=>h i j x (by rw [kS]; exact azl _ hx))
   ·intro _ h; cases h
theorem rh (φ:Nat->Nat->NC->NC):∀ (l:List bq) (i:Nat),aK l->aK (eW φ i l)
 | [],_,h=>h
 | s::l,i,h=>by
   have h1:s.ok:=h s (by simp)
   have h2:=rh φ l (i+1) fun s hs=>h s (by simp [hs])
   cases s with
   | cells xs=>
     intro s hs
     simp only [eW,ayD] at hs
     rcases hs with rfl | hs
     ·trivial
     ·exact h2 s hs
   | ints k n xs=>
     intro s hs
     simp only [eW,ayD] at hs
     rcases hs with rfl | hs
     ·exact h1
     ·exact h2 s hs
   | aA ks n xs=>
     intro s hs
     simp only [eW,ayD] at hs
     rcases hs with rfl | hs
     ·exact h1
     ·exact h2 s hs
theorem qA (φ:Nat->Nat->NC->NC):∀ (l:List bq) (i:Nat),b6 (eW φ i l)=b6 l
 | [],_=>rfl
 | s::l,i=>by
   have:=qA φ l (i+1)
   cases s <;> simp [eW,b6,bq.size,nu,this]
theorem Bi {Γ:Env} {φ:Nat->Nat->NC->NC} {x:NV} {v:Value} (h:∀ i j y,y∈x.gU->im Γ y (φ i j y)) (hv:cM Γ x v):cM Γ (aje φ x) v:=by
 cases x with
 | c x=>exact h 0 0 x (by simp [NV.gU]) v hv
 | ag xs=>
   obtain ⟨vs,h1,h2⟩:=hv
   exact ⟨vs,h1,(nt xs 0 fun j x hx=>h 0 j x hx).soft h2⟩
 | sg l=>
   obtain ⟨vs,h1,h2,h3⟩:=hv
   exact ⟨vs,h1,(ic l 0 fun i j x hx=>h i j x hx).soft h2,rh φ l 0 h3⟩
theorem yI {Γ:Env} {φ:Nat->Nat->Nat->NC->NC}:∀ (l:List NV) (vs:List Value) (i:Nat),(∀ i j k y,y∈l.flatMap NV.gU->im Γ y (φ i j k y))->R2 (cM Γ) l vs->R2 (cM Γ) (TU φ i l) vs
 | [],_,_,_,hv=>hv
 | x::l,_,i,h,hv=>by
   cases hv with
   | cons a hv=>exact .cons (Bi (fun j k y hy=>h i j k y (by rw [List.flatMap_cons]; exact azk _ hy)) a) (yI l _ (i+1) (fun i j k y hy=>h i j k y (by rw [List.flatMap_cons]; exact azl _ hy)) hv)
theorem Bj {Γ:Env} {φ:Nat->Nat->Nat->NC->NC} {x:NS} {v:Value} (h:∀ i j k y,y∈x.gU->im Γ y (φ i j k y)) (hv:b5 Γ x v):b5 Γ (ajf φ x) v:=by
 cases x with
 | v x=>exact Bi (fun j k y hy=>h 0 j k y hy) hv
 | tu l=>
   obtain ⟨vs,h1,h2⟩:=hv
   exact ⟨vs,h1,yI l vs 0 h h2⟩
 | dead=>trivial
theorem PQ {Γ:Env} {φ:Nat->Nat->NC->NC} {g:aG} {B:cR} {w:World} (h:∀ i j y,y∈g.body.gU->im Γ y (φ i j y)) (hr:cN Γ g B w):cN Γ (ajg φ g) B w:=by
 obtain ⟨st,e,body⟩:=g
 cases body with
 | cells xs=>
   rcases hr with ⟨-,⟨k,hk⟩ | ⟨ks,hk⟩ | ⟨sch,hk,-⟩⟩ | ⟨h0,c,h1,h2,h3,⟨l1,l2,h4,h5⟩,h6⟩ | ⟨-,hM⟩
   ·cases hk
   ·cases hk
   ·cases hk
   ·exact .inr (.inl ⟨h0,c,h1,h2,h3,⟨l1,l2,h4,(nt xs 0 fun j x hx=>h 0 j x hx).soft h5⟩,h6.same (congrArg some (nu _ _ _)) rfl⟩)
   ·obtain ⟨_,_,_,_,_,hk,-⟩:=hM.mp; cases hk
 | sg l=>
   rcases hr with ⟨-,⟨k,hk⟩ | ⟨ks,hk⟩ | ⟨sch,hk,-⟩⟩ | ⟨h0,c,h1,h2,h3,⟨l1,l2,h4,h5,h7⟩,h6⟩ | ⟨-,hM⟩
   ·cases hk
   ·cases hk
   ·cases hk
   ·exact .inr (.inl ⟨h0,c,h1,h2,h3,⟨l1,l2,h4,(ic l 0 fun i j x hx=>h i j x hx).soft h5,rh φ l 0 h7⟩,h6.same (congrArg some (qA _ _ _)) rfl⟩)
   ·obtain ⟨_,_,_,_,_,hk,-⟩:=hM.mp; cases hk
 | ints k xs=>exact hr
 | aA ks xs=>exact hr
 | ij sch xs=>exact hr
 | mp ks sch xs=>exact hr
theorem pZ {φ:Nat->Nat->Nat->NC->NC}:∀ (rg:List (Option aG)) (i n:Nat) (g' : aG),(j0 φ i rg)[n]? = some (some g')->∃ g m,rg[n]? = some (some g)∧g'=ajg (φ m) g
 | [],_,_,_,h=>by simp [j0] at h
 | none::l,i,n,g',h=>by
   cases n with
   | zero=>simp [j0] at h
   | succ n=>simp only [j0,List.getElem?_cons_succ] at h; obtain ⟨g,m,h1,h2⟩:=pZ l (i+1) n g' h; exact ⟨g,m,by simpa using h1,h2⟩
 | some g::l,i,n,g',h=>by
   cases n with
   | zero=>simp [j0] at h; exact ⟨g,i,by simp,h.symm⟩
   | succ n=>simp only [j0,List.getElem?_cons_succ] at h; obtain ⟨g,m,h1,h2⟩:=pZ l (i+1) n g' h; exact ⟨g,m,by simpa using h1,h2⟩
theorem nz (φ:Nat->Nat->Nat->NC->NC):∀ (rg:List (Option aG)) (i:Nat),(j0 φ i rg).length=rg.length
 | [],_=>rfl
 | none::l,i=>by simp [j0,nz φ l (i+1)]
 | some g::l,i=>by simp [j0,nz φ l (i+1)]
theorem uy:∀ {rg:List (Option aG)} {n:Nat} {g:aG} {x:NC},rg[n]? = some (some g)->x∈g.body.gU->x∈qz rg
 | [],_,_,_,h,_=>by simp at h
 | none::l,n,g,x,h,hx=>by
   cases n with
   | zero=>simp at h
   | succ n=>exact uy (rg:=l) (n:=n) (by simpa using h) hx
 | some g'::l,n,g,x,h,hx=>by
   cases n with
   | zero=>simp at h; subst h; exact azk _ hx
   | succ n=>exact azl _ (uy (rg:=l) (n:=n) (by simpa using h) hx)
theorem yJ {Γ:Env} {φ:Nat->Nat->Nat->NC->NC} {rg:List (Option aG)} {w:World} (h:∀ i j k y,y∈qz rg->im Γ y (φ i j k y)) (hW:aQ Γ rg w):aQ Γ (j0 φ 0 rg) w:=by
 have hl:∀ n,Nx.live (j0 φ 0 rg) n->Nx.live rg n:=fun n ⟨g,hg⟩=>by
  obtain ⟨g1,m,h1,-⟩:=pZ rg 0 n g hg
  exact ⟨g1,h1⟩
 refine ⟨fun n g hn=>?_,fun a b Ba Bb b9 la lb=>hW.inj a b Ba Bb b9 (hl a la) (hl b lb),hW.kp,fun n B ln=>hW.apart n B (hl n ln),hW.ro⟩
 obtain ⟨g1,m,h1,rfl⟩:=pZ rg 0 n g hn
 obtain ⟨B,hB,hr⟩:=hW.live n g1 h1
 exact ⟨B,hB,PQ (fun i j y hy=>h m i j y (uy h1 hy)) hr⟩
def Mb (ls:List (Nat × Nat × Nat × NC)) (q i j:Nat) (x:NC):NC:=
 match x with
 | .sn=>(match ls.find? fun p=>p.1==q&&p.2.1==i&&p.2.2.1==j with
   | some (_,_,_,.l k [])=>.l k []
   | some (_,_,_,.lr (c::ks) [])=>.lr (c::ks) []
   | _=>.sn)
 | x=>x
theorem yK (Γ:Env) (ls:List (Nat × Nat × Nat × NC)) (q i j:Nat) (x:NC):im Γ x (Mb ls q i j x):=by
 unfold Mb
 split
 ·split
  ·exact fun v h=>⟨⟨none,0,h.1,axB _,.inl rfl⟩,h.2⟩
  ·exact fun v h=>⟨⟨none,0,h.1,axB _,by simp,.inl rfl⟩,h.2⟩
  ·exact im.refl _ _
 ·exact im.refl _ _
def Jt (rs gs:List (Nat × Nat × Nat × NC)) (o:Out):Out:=⟨ajf (Mb rs) o.res,j0 (Mb gs) 0 o.rg⟩
theorem Bk (rs gs:List (Nat × Nat × Nat × NC)) (o:Out):nr o (Jt rs gs o):=fun _ Γ _ _ _ h1 h2 h3=>
 ⟨Γ,h1,Bj (fun i j k y _=>yK Γ rs i j k y) h2,yJ (fun i j k y _=>yK Γ gs i j k y) h3⟩
def Body.mc:Body->Option Nat
 | .ints _ xs=>some xs.length
 | .aA ks xs=>if 0<ks.length then some xs.length else none
 | .ij sch xs=>if 0<aO sch then some xs.length else none
 | _=>none
def Bl (b:Body) (x:NC):NC:=
 match b with
 | .ints q xs=>.l q xs
 | .aA ks xs=>.lr ks xs
 | .ij sch xs=>.lt sch xs
 | _=>x
def PR (k:Nat):NC->List Nat
 | .h r 0 n=>if r=k then [n] else []
 | .hz r n=>if r=k then [n] else []
 | _=>[]
def TV (k:Nat) (b:Body):NC->NC
 | .h r 0 n=>if r=k then Bl b (.h r 0 n) else .h r 0 n
 | .hz r n=>if r=k then Bl b (.hz r n) else .hz r n
 | x=>x
theorem PS {Γ:Env} {k:Nat} {g:aG} {B:cR} {cs:Array Value} {m n:Nat} (hB:Γ.wh k=some B) (fv:B.st=g.st) (hb:bG Γ g.st g.body cs.toList) (hr:Γ.ro B.ax=true) (Pc:Γ.kp B.ax=some (.cells cs g.e (0,0)))
  (hm:g.body.mc=some m) (hn:n=m):∀ v,(∃ B o cap,Γ.wh k=some B∧v=.slice (some ⟨B.ax,o,none⟩) n cap∧n<=cap∧cap<=maxLen∧(o=0 * B.st∧(0+cap) * B.st=B.sz∨cap=0))->lH Γ (Bl g.body (.h k 0 n)) v:=by
 rintro v ⟨B',o,cap,sj,rfl,hc,nV,ho⟩
 rw [hB] at sj
 cases sj
 obtain ⟨st,e,body⟩:=g
 subst hn
 cases body with
 | ints q xs=>
   cases hm
   obtain ⟨abt,l2,hl⟩:=hb
   refine ⟨_,cap,rfl,hc,?_⟩
   rcases ho with ⟨ho,_⟩ | ho
   ·refine .inr ⟨B.ax,0,by rw [ho,Nat.zero_mul],hr,cs,e,(0,0),Pc,fun j u hj=>?_⟩
    rw [ayf,<- ayM,hl]
    exact aV hj
   ·exact .inl (ayb (by omega))
 | aA ks xs=>
   simp only [Body.mc] at hm
   split at hm
   case isFalse=>cases hm
   cases hm
   obtain ⟨abt,jc,l2,hl⟩:=hb
   refine ⟨_,cap,rfl,hc,jc,?_⟩
   rcases ho with ⟨ho,_⟩ | ho
   ·refine .inr ⟨B.ax,0,by rw [ho,Nat.zero_mul],hr,cs,e,(0,0),Pc,fun j u hj=>?_⟩
    rw [ayf,<- ayM,hl]
    exact aV hj
   ·exact .inl (ayb (by omega))
 | ij sch xs=>
   simp only [Body.mc] at hm
   split at hm
   case isFalse=>cases hm
   cases hm
   obtain ⟨abt,jc,l1,l2,hl,h5,h6⟩:=hb
   refine ⟨_,cap,rfl,hc,jc,h6,?_⟩
   rcases ho with ⟨ho,_⟩ | ho
   ·refine .inr ⟨B.ax,0,l1,by rw [ho,Nat.zero_mul],⟨hr,cs,e,(0,0),Pc,fun j u hj=>?_⟩,h5⟩
    rw [ayf,<- ayM,hl]
    exact aV hj
   ·exact .inl (ayb (by omega))
 | cells xs=>cases hm
 | sg l=>cases hm
 | mp ks sch xs=>cases hm
theorem Gg {Γ:Env} {b:Body} {x:NC} (hm:b.mc=some 0):lH Γ (Bl b x) (.slice none 0 0):=by
 cases b with
 | ints q xs=>
   simp only [Body.mc,Option.some.injEq] at hm
   have:xs=[]:=ayb hm
   subst this
   exact ⟨none,0,rfl,axB _,.inl rfl⟩
 | aA ks xs=>
   simp only [Body.mc] at hm
   split at hm
   case isFalse=>cases hm
   rename_i h0
   have:xs=[]:=ayb (by simpa using hm)
   subst this
   exact ⟨none,0,rfl,axB _,h0,.inl rfl⟩
 | ij sch xs=>
   simp only [Body.mc] at hm
   split at hm
   case isFalse=>cases hm
   rename_i h0
   have:xs=[]:=ayb (by simpa using hm)
   subst this
   exact ⟨none,0,rfl,axB _,h0,fun _ h=>by simp at h,.inl rfl⟩
 | cells xs=>cases hm
 | sg l=>cases hm
 | mp ks sch xs=>cases hm
theorem TW {b:Body} {m:Nat} (hm:b.mc=some m) (x y:NC):Bl b x=Bl b y:=by
 cases b <;> first | rfl | (cases hm; done)
theorem abI {Γ0 Γ:Env} {w0 w:World} {rg:List (Option aG)} {k m:Nat} {g:aG} (hE:Ext Γ0 w0 Γ) (hW:aQ Γ rg w) (hk:rg[k]? = some (some g)) (hm:g.body.mc=some m) :
  ∃ Γ',Ext Γ0 w0 Γ'∧Γ.le Γ'∧Γ'.μ=Γ.μ∧aQ Γ' (putAt rg k none) w∧∀ x,(∀ n∈PR k x,n=m)->im Γ' x (TV k g.body x):=by
 have hold:∀ (n:Nat) (g:aG),(putAt rg k none)[n]? = some (some g)->n≠k∧rg[n]? = some (some g):=fun n g hn=>by
  rcases (bn _ _ _ _ _).1 hn with ⟨_,he⟩ | ⟨h1,h2⟩
  ·cases he
  ·exact ⟨h1,h2⟩
 obtain ⟨B,apm,hrr⟩:=hW.live k g hk
 have hlen:g.body.len=none:=by cases hb:g.body <;> rw [hb] at hm <;> first | rfl | (cases hm; done)
 cases RH:B.gh with
 | true=>
   have Pd:Γ.wh k=none:=by
    cases hw:Γ.wh k with
    | none=>rfl
    | some B'=>
      obtain ⟨h1,h2,-⟩:=Env.fL.1 hw
      rw [apm] at h1
      cases h1
      rw [RH] at h2; cases h2
   refine ⟨Γ,hE,Env.le.refl Γ,rfl,hW.Tp fun n g h=>(hold n g h).2,fun x hx v hv=>?_⟩
   unfold TV
   split
   ·rename_i r n
    split
    ·rename_i e
     subst e
     obtain ⟨⟨B',o,cap,sj,-⟩,-⟩:=hv
     rw [Pd] at sj; cases sj
    ·exact hv
   ·rename_i r n
    split
    ·rename_i e
     subst e
     have hn:n=m:=hx n (by simp [PR])
     rcases hv with ⟨⟨h0,rfl,-⟩ | ⟨B',o,cap,sj,-⟩,hv⟩
     ·exact ⟨Gg (by rw [hm,<- hn,h0]),hv⟩
     ·rw [Pd] at sj; cases sj
    ·exact hv
   ·exact hv
 | false=>
 have hB:Γ.pt k=some B:=Env.bt.2 ⟨apm,RH⟩
 have hBw:=hW.whole hB hk hlen
 obtain ⟨cs,hcs,fv,cS,aH⟩:=hW.Cg hBw hk
 have jv:live rg k:=⟨_,hk⟩
 have Po:Γ.kp B.ax=none:=hW.apart k B jv hB
 let Jd : Env:={Γ with kp:=fun b=>if b=B.ax then some (.cells cs g.e (0,0)) else Γ.kp b,ro:=fun b=>if b=B.ax then true else Γ.ro b}
 have hle:Γ.le Jd:=⟨fun _ _ h=>h,fun b o h=>by
  show (if b=B.ax then _ else Γ.kp b)=some o
  by_cases hb:b=B.ax
  ·rw [hb,Po] at h; cases h
  ·rw [if_neg hb]; exact h,fun b h=>by
  show (if b=B.ax then true else Γ.ro b)=true
  by_cases hb:b=B.ax
  ·rw [if_pos hb]
  ·rw [if_neg hb]; exact h,rfl⟩
 have hls:=fun n (hn:n=m)=>PS (Γ:=Jd) (k:=k) (g:=g) (B:=B) (cs:=cs) (n:=n) (hle.wh hBw) fv (aH.mono hle) (if_pos rfl) (if_pos rfl) hm hn
 refine ⟨Jd,⟨hE.le.trans hle,fun b h=>?_,fun n B' h=>hE.nw n B' h⟩,hle,rfl,⟨fun n g h=>?_,fun a b Ba Bb b9 la lb ha hb=>?_,fun b o h=>?_,fun n Bn hn zW=>?_,fun b h=>?_⟩,fun x hx v hv=>?_⟩
 ·have h:(if b=B.ax then true else Γ.ro b)=true:=h
  by_cases hb:b=B.ax
  ·rcases hE.nw k B hB with h1 | ⟨n',B',h1,h2⟩
   ·rw [hb]; exact .inr (.inl h1)
   ·exact .inr (.inr ⟨n',B',h1,by rw [h2,hb]⟩)
  ·rw [if_neg hb] at h; exact hE.ro b h
 ·obtain ⟨b9,hg⟩:=hold n g h
  obtain ⟨Bn,zW,hr⟩:=hW.live n g hg
  exact ⟨Bn,zW,hr.mono hle⟩
 ·obtain ⟨ga,ha'⟩:=la
  obtain ⟨gb,hH⟩:=lb
  exact hW.inj a b Ba Bb b9 ⟨ga,(hold a ga ha').2⟩ ⟨gb,(hold b gb hH).2⟩ ha hb
 ·have h:(if b=B.ax then some (Obj.cells cs g.e (0,0)) else Γ.kp b)=some o:=h
  by_cases hb:b=B.ax
  ·rw [if_pos hb] at h
   cases h
   rw [hb]; exact hcs
  ·rw [if_neg hb] at h; exact hW.kp b o h
 ·obtain ⟨g',hg⟩:=hn
  obtain ⟨b9,hg⟩:=hold n g' hg
  show (if Bn.ax=B.ax then some _ else Γ.kp Bn.ax)=none
  rw [if_neg (hW.inj n k Bn B b9 ⟨g',hg⟩ jv zW hB)]
  exact hW.apart n Bn ⟨g',hg⟩ zW
 ·have h:(if b=B.ax then true else Γ.ro b)=true:=h
  show ∃ o,(if b=B.ax then some (Obj.cells cs g.e (0,0)) else Γ.kp b)=some o
  by_cases hb:b=B.ax
  ·exact ⟨_,by rw [if_pos hb]⟩
  ·rw [if_neg hb] at h ⊢; exact hW.ro b h
 ·unfold TV
  split
  ·rename_i r n
   split
   ·rename_i e
    subst e
    exact ⟨hls n (hx n (by simp [PR])) v hv.1,hv.2⟩
   ·exact hv
  ·rename_i r n
   split
   ·rename_i e
    subst e
    have hn:n=m:=hx n (by simp [PR])
    rcases hv with ⟨⟨h0,rfl,-⟩ | h1,hv⟩
    ·exact ⟨Gg (by rw [hm,<- hn,h0]),hv⟩
    ·rw [TW hm _ (.h r 0 n)]
     exact ⟨hls n hn v h1,hv⟩
   ·exact hv
  ·exact hv
def PT (k:Nat) (g:aG) (o:Out):Out:=⟨ajf (fun _ _ _=>TV k g.body) o.res,j0 (fun _ _ _=>TV k g.body) 0 (putAt o.rg k none)⟩
def wU (k:Nat) (o:Out):List Nat:=(o.res.gU++qz o.rg).flatMap (PR k)
theorem Md {k m:Nat} {g:aG} {o:Out} (hk:o.rg[k]? = some (some g)) (hm:g.body.mc=some m) (hh:∀ n∈wU k o,n=m) {Γ0 Γ:Env} {w0 w:World} {v:Value} (hE:Ext Γ0 w0 Γ) (hS:b5 Γ o.res v) (hW:aQ Γ o.rg w) :
  ∃ Γ',Ext Γ0 w0 Γ'∧b5 Γ' (PT k g o).res v∧aQ Γ' (PT k g o).rg w∧Γ'.μ=Γ.μ:=by
 obtain ⟨Γ',h1,h2,h3,h4,h5⟩:=abI hE hW hk hm
 have Cr:∀ x,x∈qz (putAt o.rg k none)->x∈qz o.rg:=fun x hx=>by
  have:∀ (l:List (Option aG)) (n:Nat),x∈qz (l.set n none)->x∈qz l:=by
   intro l
   induction l with
   | nil=>intro n h; exact h
   | cons a l ih=>
     intro n h
     cases n with
     | zero=>
       cases a with
       | none=>exact h
       | some g=>exact azl _ h
     | succ n=>
       cases a with
       | none=>exact ih n h
       | some g=>
         rcases List.mem_append.1 h with h | h
         ·exact azk _ h
         ·exact azl _ (ih n h)
  have hl:k<o.rg.length:=by
   apply Classical.byContradiction
   intro hn
   rw [List.getElem?_eq_none (by omega)] at hk
   cases hk
  have e:putAt o.rg k none=o.rg.set k none:=by unfold putAt; rw [if_pos hl]
  rw [e] at hx
  exact this _ _ hx
 exact ⟨Γ',h1,Bj (fun _ _ _ y hy=>h5 y fun n hn=>hh n (List.mem_flatMap.2 ⟨y,azk _ hy,hn⟩)) (hS.mono h2),
  yJ (fun _ _ _ y hy=>h5 y fun n hn=>hh n (List.mem_flatMap.2 ⟨y,azl _ (Cr y hy),hn⟩)) h4,h3⟩
theorem PU {k m:Nat} {g:aG} {o:Out} (hk:o.rg[k]? = some (some g)) (hm:g.body.mc=some m) (hh:∀ n∈wU k o,n=m):nr o (PT k g o):=fun Γ0 Γ w0 w v h1 h2 h3=>by
 obtain ⟨Γ',h4,h5,h6,-⟩:=Md hk hm hh h1 h2 h3
 exact ⟨Γ',h4,h5,h6⟩
theorem Ju {k m:Nat} {g:aG} {o:Out} (hk:o.rg[k]? = some (some g)) (hm:g.body.mc=some m) (hh:∀ n∈wU k o,n=m):jw o (PT k g o):=fun Γ0 Γ w0 w v h1 h2 h3 h4=>by
 obtain ⟨Γ',h5,h6,h7,h8⟩:=Md hk hm hh h1 h2 h3
 refine ⟨Γ',h5,h6,h7,fun n hn=>?_⟩
 rw [h8]
 refine h4 n (ay5 (dv o.rg k none).1 ?_)
 rw [PT,nz] at hn
 exact hn
def yL (m:Nat) {α:Type}:List Nat->Tr α->Tr α
 | [],t=>t
 | n::l,t=>.aF (n=m) (yL m l t)
theorem sU {m:Nat} {α:Type} {t:Tr α} {R:α->Prop}:∀ {l:List Nat},(yL m l t).run R->(∀ n∈l,n=m)∧t.run R
 | [],h=>⟨fun _ h=>(by cases h),h⟩
 | n::l,h=>by
   obtain ⟨h1,h2⟩:=sU (l:=l) h.2
   refine ⟨fun x hx=>?_,h2⟩
   rcases List.mem_cons.1 hx with rfl | hx
   ·exact h.1
   ·exact h1 x hx
def Jv:List Nat->Out->Tr Out
 | [],o=>.ret o
 | k::ks,o=>match o.rg[k]? with
   | some (some g)=>(match g.body.mc with
     | some m=>yL m (wU k o) (Jv ks (PT k g o))
     | none=>.fail)
   | _=>Jv ks o
theorem wV:∀ {ks:List Nat} {o:Out} {R:Out->Prop},(Jv ks o).run R->∃ o',(nr o o'∧jw o o')∧R o'
 | [],o,R,h=>⟨o,⟨nr.refl o,jw.refl o⟩,h⟩
 | k::ks,o,R,h=>by
   unfold Jv at h
   split at h
   ·rename_i g hk
    split at h
    ·rename_i m hm
     obtain ⟨h1,h2⟩:=sU h
     obtain ⟨o',⟨h3,h4⟩,h5⟩:=wV h2
     exact ⟨o',⟨(PU hk hm h1).trans h3,(Ju hk hm h1).trans h4⟩,h5⟩
    ·exact h.elim
   ·exact wV h
def abJ (n:Nat):Body->Body
 | .ints k xs=>.ints k (xs.take n)
 | .aA ks xs=>.aA ks (xs.take n)
 | .ij sch xs=>.ij sch (xs.take n)
 | b=>b
def Jw (n:Nat) (g:aG):aG:={g with body:=abJ n g.body}
theorem PX (ks:List CK) (xs:List (List Sc)) (n:Nat):aL ks xs=aL ks (xs.take n)++aL ks (xs.drop n):=by
 unfold aL
 rw [<- List.flatMap_append,axE]
theorem PY (sch:List Part) (xs:List (List FC)) (n:Nat):cL sch xs=cL sch (xs.take n)++cL sch (xs.drop n):=by
 unfold cL
 rw [<- List.flatMap_append,axE]
theorem R2.apn {α β:Type} {R:α->β->Prop}:∀ {a b:List α} {l:List β},R2 R (a++b) l->∃ l1 l2,l=l1++l2∧R2 R a l1∧R2 R b l2
 | [],_,l,h=>⟨[],l,rfl,.nil,h⟩
 | x::a,b,_,h=>by
   cases h with
   | cons r h=>
     obtain ⟨l1,l2,rfl,h1,h2⟩:=R2.apn h
     exact ⟨_::l1,l2,rfl,.cons r h1,h2⟩
theorem TX {Γ:Env} {g:aG} {B:cR} {w:World} (n:Nat) (h:cN Γ g B w):cN Γ (Jw n g) B w:=by
 obtain ⟨st,e,body⟩:=g
 cases body with
 | ints k xs=>
   rcases h with ⟨hg,⟨k',hk⟩ | ⟨ks,hk⟩ | ⟨sch,hk,-⟩⟩ | ⟨h0,c,h1,h2,h3,⟨h4,l2,h5⟩,h6⟩ | ⟨-,hM⟩
   ·cases hk; exact .inl ⟨hg,.inl ⟨k,by simp [Jw,abJ]⟩⟩
   ·cases hk
   ·cases hk
   ·refine .inr (.inl ⟨h0,c,h1,h2,h3,⟨h4,(xs.drop n).map (.int k)++l2,?_⟩,h6.same rfl rfl⟩)
    rw [h5,<- axC,<- ayr,axE]
   ·obtain ⟨_,_,_,_,_,hk,-⟩:=hM.mp; cases hk
 | aA ks xs=>
   rcases h with ⟨hg,⟨k',hk⟩ | ⟨nT,hk⟩ | ⟨sch,hk,-⟩⟩ | ⟨h0,c,h1,h2,h3,⟨h4,h7,l2,h5⟩,h6⟩ | ⟨-,hM⟩
   ·cases hk
   ·cases hk; exact .inl ⟨hg,.inr (.inl ⟨ks,by simp [Jw,abJ]⟩)⟩
   ·cases hk
   ·refine .inr (.inl ⟨h0,c,h1,h2,h3,⟨h4,h7,aL ks (xs.drop n)++l2,?_⟩,h6.same rfl rfl⟩)
    rw [h5,<- axC,<- PX]
   ·obtain ⟨_,_,_,_,_,hk,-⟩:=hM.mp; cases hk
 | ij sch xs=>
   rcases h with ⟨hg,⟨k',hk⟩ | ⟨nT,hk⟩ | ⟨rV,hk,hp⟩⟩ | ⟨h0,c,h1,h2,h3,⟨h4,h7,l1,l2,h5,h8,h9⟩,h6⟩ | ⟨-,hM⟩
   ·cases hk
   ·cases hk
   ·cases hk; exact .inl ⟨hg,.inr (.inr ⟨sch,by simp [Jw,abJ],hp⟩)⟩
   ·rw [PY sch xs n] at h8
    obtain ⟨m1,m2,rfl,h10,-⟩:=R2.apn h8
    refine .inr (.inl ⟨h0,c,h1,h2,h3,⟨h4,h7,m1,m2++l2,?_,h10,fun r hr=>h9 r (List.mem_of_mem_take hr)⟩,h6.same rfl rfl⟩)
    rw [h5,axC]
   ·obtain ⟨_,_,_,_,_,hk,-⟩:=hM.mp; cases hk
 | cells xs=>exact h
 | sg l=>exact h
 | mp ks sch xs=>exact h
def Me (k:Nat) (o:Out):Out:=
 match o.rg[k]?,(o.res.gU++qz o.rg).flatMap (PR k) with
 | some (some g),[n]=>⟨o.res,putAt o.rg k (some (Jw n g))⟩
 | _,_=>o
theorem yM (k:Nat) (o:Out):nr o (Me k o)∧jw o (Me k o):=by
 unfold Me
 split
 case h_2=>exact ⟨nr.refl o,jw.refl o⟩
 rename_i g n hk _
 have key:∀ (Γ:Env) (w:World),aQ Γ o.rg w->aQ Γ (putAt o.rg k (some (Jw n g))) w:=fun Γ w hW=>by
  have hl:∀ m,Nx.live (putAt o.rg k (some (Jw n g))) m->Nx.live o.rg m:=fun m hm=>by
   rcases (cq _ _ _ _).1 hm with ⟨rfl,-⟩ | ⟨-,h⟩
   ·exact ⟨_,hk⟩
   ·exact h
  refine ⟨fun m g' hm=>?_,fun a b Ba Bb b9 la lb=>hW.inj a b Ba Bb b9 (hl a la) (hl b lb),hW.kp,fun m B ln=>hW.apart m B (hl m ln),hW.ro⟩
  rcases (bn _ _ _ _ _).1 hm with ⟨rfl,he⟩ | ⟨h1,h2⟩
  ·cases he
   obtain ⟨B,hB,hr⟩:=hW.live m g hk
   exact ⟨B,hB,TX n hr⟩
  ·exact hW.live m g' h2
 exact ⟨fun _ Γ _ _ _ h1 h2 h3=>⟨Γ,h1,h2,key Γ _ h3⟩,fun _ Γ _ _ _ h1 h2 h3 h4=>⟨Γ,h1,h2,key Γ _ h3,fun m hm=>h4 m (ay5 (dv o.rg k _).1 hm)⟩⟩
def Bo:List Nat->Out->Out
 | [],o=>o
 | k::ks,o=>Bo ks (Me k o)
theorem nA:∀ (ks:List Nat) (o:Out),nr o (Bo ks o)∧jw o (Bo ks o)
 | [],o=>⟨nr.refl o,jw.refl o⟩
 | k::ks,o=>⟨(yM k o).1.trans (nA ks _).1,(yM k o).2.trans (nA ks _).2⟩
def da (tr:List Nat) (fz:List Nat) (rs gs:List (Nat × Nat × Nat × NC)) (F:Nat) (T:au):au:=fun args I=>(T args I).bind fun o=>(Jv fz (Bo tr o)).bind fun o=>.ret ⟨(Jt rs gs o).res,(Jt rs gs o).rg.take F⟩
theorem bP.soft {P:Program} {gl:List Nat} {f:FuncId} {T:au} (h:bP P gl f T) (tr fz:List Nat) (rs gs:List (Nat × Nat × Nat × NC)) (F:Nat):Known P gl f (da tr fz rs gs F T):=by
 refine h.known.To fun args I R hR=>?_
 refine Tr.aN _ (fun o ho=>?_) (Eq.mp (Tr.run_bind _ _ _) hR)
 obtain ⟨o',⟨h1,-⟩,h2⟩:=wV (Eq.mp (Tr.run_bind _ _ _) ho)
 exact ⟨_,(nA tr o).1.trans <| h1.trans ((Bk rs gs o').trans (nr.drop fun n g hn=>Gf hn)),h2⟩
theorem Known.soft {P:Program} {gl:List Nat} {f:FuncId} {T:au} (h:Known P gl f T) (tr fz:List Nat) (rs gs:List (Nat × Nat × Nat × NC)) (F:Nat):Known P gl f (da tr fz rs gs F T):=by
 refine h.To fun args I R hR=>?_
 refine Tr.aN _ (fun o ho=>?_) (Eq.mp (Tr.run_bind _ _ _) hR)
 obtain ⟨o',⟨h1,-⟩,h2⟩:=wV (Eq.mp (Tr.run_bind _ _ _) ho)
 exact ⟨_,(nA tr o).1.trans <| h1.trans ((Bk rs gs o').trans (nr.drop fun n g hn=>Gf hn)),h2⟩
end Go.Nx
namespace Go.Proofs.YthknkidbonfbnaaGreatDoor
open Go.Proofs.Tryz
namespace bR
open Go Go.Nx pk ac
noncomputable def Mf:au:=fun args I=>aD prog GL (fun _=>ay1) [] f54 args I
theorem abK:Known prog GL 54 Mf:=ah func54 rfl (by kernel_rfl) mixed az (by kernel_rfl)
noncomputable def Mh:au:=fun args I=>aD prog GL (fun _=>ay1) [] f143 args I
theorem abL:Known prog GL 143 Mh:=ah func143 rfl (by kernel_rfl) mixed az (by kernel_rfl)
noncomputable def Gh:au:=fun args I=>aD prog GL (fun _=>ay1) [] f110 args I
theorem TY:Known prog GL 110 Gh:=ah func110 rfl (by kernel_rfl) mixed az (by kernel_rfl)
noncomputable def Dc:au:=fun args I=>aD prog GL (fun _=>ay1) [] f173 args I
theorem Mi:Known prog GL 173 Dc:=ah func173 rfl (by kernel_rfl) mixed az (by kernel_rfl)
abbrev Ky:=Int × Int × Int
def yN (k:Ky):List Sc:=[.i k.1,.i k.2.1,.i k.2.2]
def aC (l:List Ky):List (List Sc):=l.map yN
def iN (k:Ky):List FC:=[.i k.1,.i k.2.1,.i k.2.2]
def dY (k:Ky):List NC:=[.i .i64 k.1,.i .i64 k.2.1,.i .i64 k.2.2]
def dN (a b:Ky):Bool:=(a.1==b.1)&&((a.2.1==b.2.1)&&((a.2.2==b.2.2)&&true))
theorem fU {a b:Ky}:dN a b=true↔a=b:=by
 obtain ⟨a1,a2,a3⟩:=a
 obtain ⟨b1,b2,b3⟩:=b
 simp [dN]
def wj:Ky:=(0,0,0)
def wW (k:Ky):aG:=⟨3,45,.cells [.i .i64 k.1,.i .i64 k.2.1,.i .i64 k.2.2]⟩
def aY (l:List (List Sc)):aG:=⟨3,45,.aA K3 l⟩
theorem a8 (l:List Ky):(aC l).length=l.length:=by simp [aC]
theorem kT {l:List Ky} {i:Nat} (h:i<l.length):(aC l).getD i []=yN (l.getD i wj):=by
 rw [axF,axF,aC,List.getElem?_map,axP h]
 rfl
theorem sT {x:Bool} {p q:Prop} (hx:x=true) (h:p):af x p q:=aW.2 (.inl ⟨hx,h⟩)
theorem sF {x:Bool} {p q:Prop} (hx:x=false) (h:q):af x p q:=aW.2 (.inr ⟨hx,h⟩)
noncomputable abbrev abM:=f185
noncomputable def ajh:FuncId->Option au:=aE [(173,Dc)]
theorem agv:∀ f T,ajh f=some T->Known prog GL f T:=(aq.cons Mi .nil).get
noncomputable def apo:Cx:={P:=prog,con:=ajh,glob:=GL,m:=1,loops:=[]}
abbrev T0 (r:Nat):NC:=.cl 173 [(r,0,0)]
noncomputable def Jx (L:List (List Sc)) (k:Ky) (i:Int):St:={fr:=frame 19 [(0,.v (.c (.lr K3 L))),(1,.v (.c (T0 0))),(7,.v (.c (.i .i64 L.length))),(8,.v (.c (.i .i64 i)))],rg:=[some (wW k)]}
def eqK (r:List Sc) (k:Ky):Bool:=dS di [.i (r.getD 0 (.i 0)).n,.i (r.getD 1 (.i 0)).n,.i (r.getD 2 (.i 0)).n] [.i k.1,.i k.2.1,.i k.2.2] 0
theorem Dd (x k:Ky):eqK (yN x) k=dN x k:=rfl
def rowAt (L:List (List Sc)) (i:Int) (N:Prop):Prop:=af (decide (0<=i)) (af (decide (i<(L.length:Int))) (af (decide (i.toNat<L.length)) N False) False) False
theorem T2 (L:List (List Sc)) (k:Ky) (i:Int) (R:RO->Prop):(bu apo 0 [0,1,7,8] [4] (ae abM 0) (Jx L k i)).run R =
 af (decide (i<(L.length:Int))) (rowAt L i (af (eqK (L.getD i.toNat []) k) (R (.done .ret {fr:=frame 19 [(4,.v (.c (.i .i64 i)))],rg:=[some (wW k)]})) (R (.next (Jx L k (IntKind.i64.wrap (i+1)))))))
  (R (.done .normal {fr:=frame 19 [],rg:=[some (wW k)]})):=by kernel_rfl
noncomputable def apq (k:Ky) (j:Int):St:={fr:=frame 19 [(4,.v (.c (.i .i64 j)))],rg:=[some (wW k)]}
noncomputable def apr (k:Ky):St:={fr:=frame 19 [],rg:=[some (wW k)]}
def wk (k:Ky):List Ky->Int->Int
 | [],_=>-1
 | x::l,i=>if dN x k then i else wk k l (i+1)
def sV (k:Ky) (l:List Ky):Bool:=l.any fun x=>dN x k
theorem abN {k x:Ky} {l:List Ky} (h:dN x k=true):sV k (x::l)=true:=by
 unfold sV
 rw [ayA,h]
 rfl
theorem T3 {k x:Ky} {l:List Ky} (h:dN x k=false):sV k (x::l)=sV k l:=by
 unfold sV
 rw [ayA,h]
 rfl
theorem T4 {k x:Ky} {i:Int} {l:List Ky} (h:dN x k=true):wk k (x::l) i=i:=by
 unfold wk
 rw [if_pos h]
theorem agw {k x:Ky} {i:Int} {l:List Ky} (h:dN x k=false):wk k (x::l) i=wk k l (i+1):=by
 rw [wk,if_neg (by rw [h]; exact Bool.false_ne_true)]
structure AX where
 l:List Ky
 k:Ky
 i:Int
def auZ (x:AX) (R:aj × St->Prop):Prop:=(0<=x.i∧x.i<=(x.l.length:Int))∧x.l.length<=1000000∧
 af (sV x.k (x.l.drop x.i.toNat)) (R (.ret,apq x.k (wk x.k (x.l.drop x.i.toNat) x.i))) (R (.normal,apr x.k))
def dj (r:List Sc):Ky:=((r.getD 0 (.i 0)).n,(r.getD 1 (.i 0)).n,(r.getD 2 (.i 0)).n)
def rdX (s:St):Option (List (List Sc) × Ky):=match s.fr[(0:Nat)]?,s.rg with
 | some (.v (.c (.lr _ L))),[some ⟨_,_,.cells [.i _ a,.i _ b,.i _ c]⟩]=>some (L,(a,b,c))
 | _,_=>none
noncomputable def aji (s:St):Tr (aj × St):=match rdX s with
 | some (L,k)=>.aF (s=Jx (aC (L.map dj)) k 0∧L.length<=1000000) (.br (sV k (L.map dj)) (.ret (.ret,apq k (wk k (L.map dj) 0))) (.ret (.normal,apr k)))
 | none=>.fail
theorem o4 (l:List Ky):(aC l).map dj=l:=by
 rw [aC,List.map_map]
 exact List.map_id l
theorem abO:jL prog GL 1 0 (ae abM 0) aji:=by
 refine cf (X:=apo) agv mixed (aM.none (by kernel_rfl)) [0,1,7,8] [4] (fun x:AX=>Jx (aC x.l) x.k x.i) (fun x=>((x.l.length:Int) - x.i).toNat) auZ ?_ ?_
 ·intro s R h
  unfold aji at h
  split at h
  case h_2=>exact h.elim
  rename_i L k hrd
  obtain ⟨⟨hs,hl⟩,hR⟩:=h
  exact ⟨⟨L.map dj,k,0⟩,hs,⟨by simp only; omega,by simp only; omega⟩,by simpa using hl,hR⟩
 ·intro x R h
  obtain ⟨l,k,i⟩:=x
  obtain ⟨⟨h0,hle⟩,hl,hR⟩:=h
  simp only at h0 hle hl hR
  refine Tr.aN _ (fun o ho=>ho) (aJ.of_eq (T2 (aC l) k i _) ?_).out
  by_cases ff:i<(l.length:Int)
  ·have hj:i.toNat<l.length:=by omega
   have hd:l.drop i.toNat=l.getD i.toNat wj::l.drop (i+1).toNat:=by
    rw [List.drop_eq_getElem_cons hj,axF,axP hj,show (i+1).toNat=i.toNat+1 by omega]
    rfl
   have hw:IntKind.i64.wrap (i+1)=i+1:=by rw [ay']; omega
   refine sT (axv (by rw [a8]; exact ff)) (sT (axv h0) (sT (axv (by rw [a8]; exact ff)) (sT (axv (by rw [a8]; exact hj)) ?_)))
   rw [hd] at hR
   rw [kT hj,Dd]
   cases he:dN (l.getD i.toNat wj) k with
   | true=>
     rw [abN he,T4 he] at hR
     exact sT rfl hR
   | false=>
     rw [T3 he,agw he] at hR
     rw [hw]
     exact sF rfl ⟨⟨l,k,i+1⟩,rfl,by simp only; omega,⟨by simp only; omega,by simp only; omega⟩,hl,hR⟩
  ·rw [List.drop_eq_nil_iff.2 (by omega)] at hR
   exact sF (axw (by rw [a8]; exact ff)) hR
noncomputable def T5:au:=fun args I=>if I.length=1 then aD prog GL ajh [(0,[0,1,7,8],aji)] abM args I else .fail
theorem aps:Known prog GL 185 T5:=av 1 func185 rfl (by kernel_rfl) mixed agv (aM.one (id:=0) (body:=ae abM 0) (by kernel_rfl) rfl abO)
def oIx (k:Ky) (j:Int):Out:=⟨.v (.c (.i .i64 j)),[some (wW k)]⟩
theorem T6 (L:List (List Sc)) (k:Ky) (R:Out->Prop):(T5 [.c (.lr K3 L),.c (T0 0)] [wW k]).run R =
 ((Jx L k 0=Jx (aC (L.map dj)) k 0∧L.length<=1000000)∧af (sV k (L.map dj)) (R (oIx k (wk k (L.map dj) 0))) (R (oIx k (-1)))):=by kernel_rfl
noncomputable def tIx:au:=fun args I=>match args,I with
 | [.c (.lr _ L),.c (.cl _ [(0,0,0)])],[⟨_,_,.cells [.i .i64 a,.i .i64 b,.i .i64 c]⟩]=>.aF ((args=[.c (.lr K3 L),.c (T0 0)]∧I=[wW (a,b,c)])∧L=aC (L.map dj)∧L.length<=1000000) (.br (sV (a,b,c) (L.map dj)) (.ret (oIx (a,b,c) (wk (a,b,c) (L.map dj) 0))) (.ret (oIx (a,b,c) (-1))))
 | _,_=>.fail
attribute [local irreducible] T5 in
theorem kIx:Known prog GL 185 tIx:=by
 refine aps.less fun args I R h=>aJ.out ?_
 unfold tIx at h
 split at h
 case h_2=>exact h.elim
 rename_i a b c
 obtain ⟨⟨⟨h1,h2⟩,h3,h4⟩,h5⟩:=h
 rw [h1,h2]
 exact aJ.of_eq (T6 _ (a,b,c) R) ⟨⟨congrArg (fun L=>Jx L (a,b,c) 0) h3,h4⟩,h5⟩
noncomputable abbrev abP:=f172
noncomputable def ajj:FuncId->Option au:=aE [(185,tIx),(173,Dc)]
theorem agx:∀ f T,ajj f=some T->Known prog GL f T:=(aq.cons kIx (.cons Mi .nil)).get
noncomputable def apt:Cx:={P:=prog,con:=ajj,glob:=GL,m:=2,loops:=[]}
noncomputable def Jy (n:Nat) (L:List (List Sc)) (k:Ky) (i j:Int):St:={fr:=frame 42 [(0,.v (.c (.hz 0 n))),(1,.v (.c (T0 1))),(5,.v (.c (.i .i64 i))),(6,.v (.c (.i .i64 j)))],rg:=[some (aY L),some (wW k)]}
noncomputable def ajk (n:Nat) (L:List (List Sc)) (k:Ky) (i:Int):St:={fr:=frame 42 [(0,.v (.c (.hz 0 n))),(5,.v (.c (.i .i64 i)))],rg:=[some (aY L),some (wW k)]}
def abQ (n:Nat) (L:List (List Sc)) (i:Int) (N:Prop):Prop:=af (decide (0<=i)) (af (decide (i<(n:Int))) (af (decide (i.toNat<L.length)) N False) False) False
theorem T7 (n:Nat) (L:List (List Sc)) (k:Ky) (i j:Int) (R:RO->Prop):(bu apt 0 [0,1,5,6] [0,5] (ae abP 0) (Jy n L k i j)).run R =
 af (decide (j<(n:Int))) (abQ n L j (af (!eqK (L.getD j.toNat []) k) (abQ n L i (R (.next (Jy n (L.set i.toNat (yN (dj (L.getD j.toNat [])))) k (IntKind.i64.wrap (i+1)) (IntKind.i64.wrap (j+1)))))) (R (.next (Jy n L k i (IntKind.i64.wrap (j+1)))))))
  (R (.done .normal (ajk n L k i))):=by kernel_rfl
def jx (k:Ky):Nat->List Ky->Nat->Nat->List Ky × Nat
 | 0,l,i,_=>(l,i)
 | q+1,l,i,j=>match dN (l.getD j wj) k with
   | true=>jx k q l i (j+1)
   | false=>jx k q (l.set i (l.getD j wj)) (i+1) (j+1)
theorem drop_cons {l:List Ky} {j:Nat} (h:j<l.length):l.drop j=l.getD j wj::l.drop (j+1):=by
 rw [List.drop_eq_getElem_cons h,axF,axP h]
 rfl
theorem ri (k:Ky):∀ (q:Nat) (l:List Ky) (i j:Nat),i<=j->j+q=l.length->
  (jx k q l i j).1.length=l.length∧(jx k q l i j).2<=l.length∧(jx k q l i j).1.take (jx k q l i j).2=l.take i++(l.drop j).filter (fun x=>!dN x k)
 | 0,l,i,j,h,hq=>by
   have:l.drop j=[]:=List.drop_eq_nil_iff.2 (by omega)
   rw [this]
   exact ⟨rfl,by show i<=_; omega,by simp [jx]⟩
 | q+1,l,i,j,h,hq=>by
   rw [drop_cons (by omega:j<l.length),jx]
   cases he:dN (l.getD j wj) k with
   | true=>
     obtain ⟨h1,h2,h3⟩:=ri k q l i (j+1) (by omega) (by omega)
     refine ⟨h1,h2,?_⟩
     rw [h3,azm (by rw [he]; decide)]
   | false=>
     obtain ⟨h1,h2,h3⟩:=ri k q (l.set i (l.getD j wj)) (i+1) (j+1) (by omega) (by rw [axV]; omega)
     rw [axV] at h1 h2
     refine ⟨h1,h2,?_⟩
     have e1:(l.set i (l.getD j wj)).take (i+1)=l.take i++[l.getD j wj]:=by
      rw [List.take_add_one,List.take_set_of_le (axB _),List.getElem?_set_self (by omega)]
      rfl
     have e2:(l.set i (l.getD j wj)).drop (j+1)=l.drop (j+1):=by rw [List.drop_set_of_lt (by omega)]
     rw [h3,e1,e2,azn (by rw [he]; decide),axC]
     rfl
structure AD where
 l:List Ky
 k:Ky
 i:Nat
 j:Nat
def au0 (x:AD) (R:aj × St->Prop):Prop:=(x.i<=x.j∧x.j<=x.l.length∧x.l.length<=1000000)∧
 R (.normal,ajk x.l.length (aC (jx x.k (x.l.length - x.j) x.l x.i x.j).1) x.k ((jx x.k (x.l.length - x.j) x.l x.i x.j).2:Int))
def rdD (s:St):Option (List (List Sc) × Ky × Int × Int):=match s.fr[(5:Nat)]?,s.fr[(6:Nat)]?,s.rg with
 | some (.v (.c (.i _ i))),some (.v (.c (.i _ j))),[some ⟨_,_,.aA _ L⟩,some ⟨_,_,.cells [.i _ a,.i _ b,.i _ c]⟩]=>some (L,(a,b,c),i,j)
 | _,_,_=>none
noncomputable def ajl (s:St):Tr (aj × St):=match rdD s with
 | some (L,k,i,j)=>.aF (s=Jy (L.map dj).length (aC (L.map dj)) k (i.toNat:Int) (j.toNat:Int)∧i.toNat<=j.toNat∧j.toNat<=(L.map dj).length∧L.length<=1000000)
    (.ret (.normal,ajk (L.map dj).length (aC (jx k ((L.map dj).length - j.toNat) (L.map dj) i.toNat j.toNat).1) k ((jx k ((L.map dj).length - j.toNat) (L.map dj) i.toNat j.toNat).2:Int)))
 | none=>.fail
theorem Gi (k:Ky):dj (yN k)=k:=rfl
theorem Jz (l:List Ky) (i:Nat) (k:Ky):(aC l).set i (yN k)=aC (l.set i k):=by rw [aC,aC,List.map_set]
theorem De {n:Nat} {L:List (List Sc)} {i:Int} {N:Prop} (h0:0<=i) (h1:i<(n:Int)) (h2:n=L.length) (h:N):abQ n L i N:=sT (axv h0) (sT (axv h1) (sT (axv (by omega)) h))
attribute [local irreducible] bu in
theorem abR:jL prog GL 2 0 (ae abP 0) ajl:=by
 refine cf (X:=apt) agx mixed (aM.none (by kernel_rfl)) [0,1,5,6] [0,5] (fun x:AD=>Jy x.l.length (aC x.l) x.k x.i x.j) (fun x=>x.l.length - x.j) au0 ?_ ?_
 ·intro s R h
  unfold ajl at h
  split at h
  case h_2=>exact h.elim
  rename_i L k i j hrd
  obtain ⟨⟨hs,h1,h2,h3⟩,hR⟩:=h
  exact ⟨⟨L.map dj,k,i.toNat,j.toNat⟩,hs,⟨h1,h2,by simpa using h3⟩,hR⟩
 ·intro x R h
  obtain ⟨l,k,i,j⟩:=x
  obtain ⟨⟨h0,hle,hl⟩,hR⟩:=h
  simp only at h0 hle hl hR
  refine Tr.aN _ (fun o ho=>ho) (aJ.of_eq (T7 l.length (aC l) k i j _) ?_).out
  by_cases ff:j<l.length
  ·have hw:IntKind.i64.wrap ((j:Int)+1)=((j+1:Nat):Int):=by rw [ay']; omega
   have xS:IntKind.i64.wrap ((i:Int)+1)=((i+1:Nat):Int):=by rw [ay']; omega
   have hq:l.length - j=(l.length - (j+1))+1:=by omega
   rw [hq] at hR
   refine sT (axv (by omega)) (De (by omega) (by omega) (a8 l).symm ?_)
   rw [azd,azd,kT ff,Dd,Gi,Jz,hw,xS]
   cases he:dN (l.getD j wj) k with
   | true=>
     simp only [jx,he] at hR
     exact sF rfl ⟨⟨l,k,i,j+1⟩,rfl,by simp only; omega,⟨by simp only; omega,by simp only; omega,hl⟩,hR⟩
   | false=>
     simp only [jx,he] at hR
     refine sT rfl (De (by omega) (by omega) (a8 l).symm ?_)
     refine ⟨⟨l.set i (l.getD j wj),k,i+1,j+1⟩,by simp only [axV],by simp only [axV]; omega,⟨by simp only; omega,by simp only [axV]; omega,by simp only [axV]; exact hl⟩,?_⟩
     simp only [axV]
     exact hR
  ·have hq:l.length - j=0:=by omega
   rw [hq] at hR
   exact sF (axw (by omega)) hR
noncomputable def agy:au:=fun args I=>if I.length=2 then aD prog GL ajj [(0,[0,1,5,6],ajl)] abP args I else .fail
theorem apu:bP prog GL 172 agy:=sK 2 func172 rfl (by kernel_rfl) mixed agx (aM.one (id:=0) (body:=ae abP 0) (by kernel_rfl) rfl abR)
def tkL (l:List Ky):List (List Sc):=azo l.length (aC l)
def EB (l:List Ky):List Ky:=(aC l).map dj
def ixL (k:Ky) (l:List Ky):Int:=wk k ((tkL l).map dj) 0
def jxL (k:Ky) (l:List Ky):Int:=IntKind.i64.wrap (ixL k l+1)
def gL (k:Ky) (l:List Ky):List Ky × Nat:=jx k ((EB l).length - (jxL k l).toNat) (EB l) (ixL k l).toNat (jxL k l).toNat
def gN (k:Ky) (l:List Ky):Int:=((gL k l).2:Int)
def z3:List Sc:=[.i 0,.i 0,.i 0]
def oDf (k:Ky) (X:List (List Sc)) (m:Nat):Out:=⟨.v (.c (.hz 2 m)),[none,some (wW k),some (aY (X.take m))]⟩
noncomputable def Mj:au:=da [2] [] [] [] 3 (iM 2 [] (some (aY [])) agy)
theorem apv:Known prog GL 172 Mj:=(apu.canon 2 [] (some (aY []))).soft [2] [] [] [] 3
theorem abS (l:List Ky) (k:Ky) (R:Out->Prop):(Mj [.c (.hz 0 l.length),.c (T0 1)] [aY (aC l),wW k]).run R =
 af (decide (l.length<=(aC l).length)) ((([NV.c (.lr K3 (tkL l)),.c (T0 0)]=[NV.c (.lr K3 (tkL l)),.c (T0 0)]∧[wW k]=[wW k])∧tkL l=aC ((tkL l).map dj)∧(tkL l).length<=1000000)∧
  af (sV k ((tkL l).map dj)) (af (ixL k l==-1) (R (oDf k (aC l) l.length))
   ((Jy l.length (aC l) k (ixL k l) (jxL k l)=Jy (EB l).length (aC (EB l)) k ((ixL k l).toNat:Int) ((jxL k l).toNat:Int)∧(ixL k l).toNat<=(jxL k l).toNat∧(jxL k l).toNat<=(EB l).length∧(aC l).length<=1000000)∧
   af (decide (0<(EB l).length)) (af (decide (gN k l<=((EB l).length:Int))) (af (decide ((gN k l).toNat+((EB l).length - (gN k l).toNat)<=(aC (gL k l).1).length)) (af (decide (0<(EB l).length)) (af (decide (gN k l<=((EB l).length:Int)))
    (R (oDf k (aw (aC (gL k l).1) (gN k l).toNat (axx ((EB l).length - (gN k l).toNat) z3)) (gL k l).2)) False) False) False) False) False))
  (R (oDf k (aC l) l.length))) False:=by kernel_rfl
def iq (k:Ky) (l:List Ky):List Ky:=l.filter fun x=>!dN x k
theorem yO {k:Ky}:∀ {l:List Ky},sV k l=false->iq k l=l
 | [],_=>rfl
 | x::l,h=>by
   have h:(dN x k||sV k l)=false:=h
   rw [Bool.or_eq_false_iff] at h
   unfold iq
   rw [azn (by rw [h.1]; rfl)]
   exact congrArg (x::·) (yO h.2)
theorem Mk {k:Ky}:∀ {l:List Ky} (b:Int),sV k l=true->∃ i:Nat,wk k l b=b+i∧i<l.length∧iq k l=l.take i++iq k (l.drop (i+1))
 | [],_,h=>by cases h
 | x::l,b,h=>by
   cases he:dN x k with
   | true=>
     refine ⟨0,by rw [T4 he]; simp,by simp,?_⟩
     unfold iq
     rw [azm (by rw [he]; decide)]
     rfl
   | false=>
     rw [T3 he] at h
     obtain ⟨i,h1,h2,h3⟩:=Mk (b+1) h
     refine ⟨i+1,by rw [agw he,h1]; omega,by simpa using h2,?_⟩
     show iq k (x::l)=x::(l.take i++iq k (l.drop (i+1)))
     rw [<- h3]
     unfold iq
     rw [azn (by rw [he]; rfl)]
def oDk (k:Ky) (l:List Ky):Out:=⟨.v (.c (.hz 2 l.length)),[none,some (wW k),some (aY (aC l))]⟩
noncomputable def tDf:au:=fun args I=>match args,I with
 | [.c (.hz 0 _),.c (.cl _ [(1,0,0)])],[⟨_,_,.aA _ L⟩,⟨_,_,.cells [.i .i64 a,.i .i64 b,.i .i64 c]⟩]=>
   .aF (args=[.c (.hz 0 (L.map dj).length),.c (T0 1)]∧I=[aY (aC (L.map dj)),wW (a,b,c)]∧L.length<=1000000) (.ret (oDk (a,b,c) (iq (a,b,c) (L.map dj))))
 | _,_=>.fail
theorem ou {l:List (List Sc)} {m:Nat} {r:List (List Sc)} (h:m<=l.length):(aw l m r).take m=l.take m:=by
 unfold aw
 rw [List.take_append_of_le_length (by rw [axG,ax7]; omega),List.take_append_of_le_length (by rw [ax7]; omega),List.take_take,Nat.min_self]
theorem apw {l:List Ky} {k:Ky} {R:Out->Prop} (hl:l.length<=1000000) (h:R (oDk k (iq k l))):aJ ((Mj [.c (.hz 0 l.length),.c (T0 1)] [aY (aC l),wW k]).run R):=by
 have hL:=a8 l
 have hT:tkL l=aC l:=by unfold tkL; rw [<- hL,azp]
 have hM:EB l=l:=o4 l
 refine aJ.of_eq (abS l k R) (sT (axv (by omega)) ⟨⟨⟨rfl,rfl⟩,by rw [hT,o4],by rw [hT,hL]; exact hl⟩,?_⟩)
 have hTm:(tkL l).map dj=l:=by rw [hT,o4]
 cases ha:sV k l with
 | false=>
   refine sF (by rw [hTm]; exact ha) ?_
   rw [yO ha] at h
   unfold oDf
   rw [<- hL,azp,hL]
   exact h
 | true=>
   refine sT (by rw [hTm]; exact ha) ?_
   obtain ⟨i,h1,h2,h3⟩:=Mk (k:=k) (l:=l) 0 ha
   rw [Int.zero_add] at h1
   have hi:ixL k l=(i:Int):=by unfold ixL; rw [hTm,h1]
   have hj:jxL k l=((i+1:Nat):Int):=by unfold jxL; rw [hi,ay']; omega
   have hg:gL k l=jx k (l.length - (i+1)) l i (i+1):=by unfold gL; rw [hM,hi,hj,azd,azd]
   obtain ⟨s1,s2,s3⟩:=ri k (l.length - (i+1)) l i (i+1) (by omega) (by omega)
   rw [<- hg] at s1 s2 s3
   have e3:(gL k l).1.take (gL k l).2=iq k l:=by rw [s3,h3]; rfl
   have hgn:(gN k l).toNat=(gL k l).2:=by unfold gN; rw [azd]
   rw [hgn,hM,hi,hj,azd,azd]
   refine sF (beq_eq_false_iff_ne.2 (by omega)) ⟨⟨rfl,by omega,by omega,by rw [hL]; exact hl⟩,sT (axv (by omega)) (sT (axv (by unfold gN; omega)) (sT (axv (by rw [a8]; omega)) (sT (axv (by omega)) (sT (axv (by unfold gN; omega)) ?_))))⟩
   have el:(gL k l).2=(iq k l).length:=by rw [<- e3,ax7]; omega
   unfold oDf
   rw [ou (by rw [a8]; omega)]
   have:(aC (gL k l).1).take (gL k l).2=aC (iq k l):=by rw [<- e3,aC,aC,List.map_take]
   rw [this,el]
   exact h
attribute [local irreducible] Mj in
theorem kDf:Known prog GL 172 tDf:=by
 refine apv.less fun args I R h=>aJ.out ?_
 unfold tDf at h
 split at h
 case h_2=>exact h.elim
 rename_i L a b c
 obtain ⟨⟨h1,h2,h3⟩,h5⟩:=h
 rw [h1,h2]
 exact apw (by simpa using h3) h5
theorem PZ:bP prog GL 157 (fun args I=>aD prog GL (aE [(172,tDf)]) [] f157 args I):=
 dp func157 rfl (by kernel_rfl) mixed (aq.cons kDf .nil).get (by kernel_rfl)
noncomputable def T8:au:=iM 8 [(0,2,aY [])] none (fun args I=>aD prog GL (aE [(172,tDf)]) [] f157 args I)
theorem apx:bP prog GL 157 T8:=PZ.canon 8 [(0,2,aY [])] none
structure lC where
 gA:Int
 wi:Ky
 pd:Bool
 m:List (List FC × List FC)
 l:List Ky
noncomputable def P0 (s:lC) (x:NC):aG:=Ma s.gA 1 x s.wi.1 s.wi.2.1 s.wi.2.2 s.pd
noncomputable def wm (s:lC):List aG:=[P0 s (.hz 2 s.l.length),eN s.m,aY (aC s.l)]
noncomputable def T9 (s:lC):List (Option aG):=[some (P0 s (.hz 8 s.l.length)),some (eN s.m),none,none,none,none,none,none,some (aY (aC s.l))]
def fJ (k:Ky) (s:lC):lC:={s with m:=ko di (iN k) s.m,l:=iq k s.l}
def rdS:List aG->Option lC
 | [⟨_,_,.cells [.i .i64 gA,.m _,.hz _ _,.i .i64 a,.i .i64 b,.i .i64 c,.b pd]⟩,⟨_,_,.mp _ _ M⟩,⟨_,_,.aA _ L⟩]=>some ⟨gA,(a,b,c),pd,M,L.map dj⟩
 | _=>none
def onS (I:List aG) (f:lC->Tr Out):Tr Out:=
 match rdS I with
 | some s=>.aF (I=wm s∧s.l.length<=1000000) (f s)
 | none=>.fail
theorem Gj {I:List aG} {f:lC->Tr Out} {R:Out->Prop} (h:(onS I f).run R):∃ s,I=wm s∧s.l.length<=1000000∧(f s).run R:=by
 unfold onS at h
 split at h
 ·rename_i s hs
  exact ⟨s,h.1.1,h.1.2,h.2⟩
 ·exact h.elim
theorem abT (s:lC) (k:Ky) (R:Out->Prop):(T8 [.c (.p 0 0 0),.ag (dY k)] (wm s)).run R =
 (([NV.c (.hz 0 s.l.length),.c (T0 1)]=[.c (.hz 0 (EB s.l).length),.c (T0 1)]∧[aY (aC s.l),wW k]=[aY (aC (EB s.l)),wW k]∧(aC s.l).length<=1000000)∧
   R ⟨.tu [],[some (P0 s (.hz 8 (iq k (EB s.l)).length)),some (eN (ko di (iN k) s.m)),none,none,none,none,none,none,some (aY (aC (iq k (EB s.l))))]⟩):=by kernel_rfl
noncomputable def tDr:au:=fun args I=>match args with
 | [.c (.p 0 0 0),.ag [.i .i64 a,.i .i64 b,.i .i64 c]]=>onS I fun s=>.ret ⟨.tu [],T9 (fJ (a,b,c) s)⟩
 | _=>.fail
theorem Ua (l:List Ky):EB l=l:=o4 l
attribute [local irreducible] T8 in
theorem au1:bP prog GL 157 tDr:=by
 refine apx.less fun args I R h=>aJ.out ?_
 unfold tDr at h
 split at h
 case h_2=>exact h.elim
 rename_i a b c
 obtain ⟨s,rfl,hl,h⟩:=Gj h
 refine aJ.of_eq (abT s (a,b,c) R) ?_
 rw [Ua]
 exact ⟨⟨rfl,rfl,by rw [a8]; exact hl⟩,h⟩
theorem kDr:Known prog GL 157 tDr:=au1.known
noncomputable abbrev abU:=f158
noncomputable def apy:Cx:={P:=prog,con:=fun _=>ay1,glob:=GL,m:=3,loops:=[]}
def agz (k:Ky):aG:=wW k
noncomputable def Dg (s:lC) (k z:Ky) (i:Int):St:={fr:=frame 37 [(0,.v (.c (.p 0 0 0))),(3,.v (.c (.p 3 0 0))),(4,.v (.c (.p 4 0 0))),(10,.v (.c (.hz 2 s.l.length))),(11,.v (.c (.i .i64 s.l.length))),(12,.v (.c (.i .i64 i)))],rg:=(wm s).map some++[some (wW k),some (wW z)]}
noncomputable def Gk (s:lC) (k z:Ky):St:={fr:=frame 37 [(3,.v (.c (.p 3 0 0))),(4,.v (.c (.p 4 0 0)))],rg:=(wm s).map some++[some (wW k),some (wW z)]}
theorem Ub (s:lC) (k z:Ky) (i:Int) (R:RO->Prop):(bu apy 0 [0,3,4,10,11,12] [3,4] (ae abU 0) (Dg s k z i)).run R =
 af (decide (i<(s.l.length:Int))) (abQ s.l.length (aC s.l) i (af (!eqK ((aC s.l).getD i.toNat []) k)
  (af s.pd (af (!eqK ((aC s.l).getD i.toNat []) s.wi) (R (.done .ret (Gk s k (dj ((aC s.l).getD i.toNat []))))) (R (.next (Dg s k z (IntKind.i64.wrap (i+1))))))
    (R (.done .ret (Gk s k (dj ((aC s.l).getD i.toNat []))))))
  (R (.next (Dg s k z (IntKind.i64.wrap (i+1)))))))
  (R (.done .normal (Gk s k z))):=by kernel_rfl
def gM (s:lC) (k x:Ky):Bool:=!dN x k&&!(s.pd&&dN x s.wi)
def rj (s:lC) (k:Ky) (l:List Ky):Ky:=(l.find? (gM s k)).getD k
theorem abV {s:lC} {k x:Ky} {l:List Ky} (h:gM s k x=true):rj s k (x::l)=x:=by unfold rj; rw [azj,h]; rfl
theorem Uc {s:lC} {k x:Ky} {l:List Ky} (h:gM s k x=false):rj s k (x::l)=rj s k l:=by unfold rj; rw [azj,h]
theorem Ud {s:lC} {k x:Ky} {l:List Ky} (h:gM s k x=true):(x::l).any (gM s k)=true:=by rw [ayA,h]; rfl
theorem abW {s:lC} {k x:Ky} {l:List Ky} (h:gM s k x=false):(x::l).any (gM s k)=l.any (gM s k):=by rw [ayA,h]; rfl
structure AV where
 s:lC
 k:Ky
 z:Ky
 i:Nat
def apz (x:AV) (R:aj × St->Prop):Prop:=(x.i<=x.s.l.length∧x.s.l.length<=1000000)∧
 af ((x.s.l.drop x.i).any (gM x.s x.k)) (R (.ret,Gk x.s x.k (rj x.s x.k (x.s.l.drop x.i)))) (R (.normal,Gk x.s x.k x.z))
def rdV (s:St):Option (lC × Ky × Ky):=match s.rg with
 | [some g0,some g1,some g2,some ⟨_,_,.cells [.i _ a,.i _ b,.i _ c]⟩,some ⟨_,_,.cells [.i _ x,.i _ y,.i _ z]⟩]=>(match rdS [g0,g1,g2] with
   | some s=>some (s,(a,b,c),(x,y,z))
   | none=>none)
 | _=>none
noncomputable def ajm (s:St):Tr (aj × St):=match rdV s with
 | some (t,k,z)=>.aF (s=Dg t k z 0∧t.l.length<=1000000) (.br (t.l.any (gM t k)) (.ret (.ret,Gk t k (rj t k t.l))) (.ret (.normal,Gk t k z)))
 | none=>.fail
attribute [local irreducible] bu in
theorem abX:jL prog GL 3 0 (ae abU 0) ajm:=by
 refine cf (X:=apy) az mixed (aM.none (by kernel_rfl)) [0,3,4,10,11,12] [3,4] (fun x:AV=>Dg x.s x.k x.z x.i) (fun x=>x.s.l.length - x.i) apz ?_ ?_
 ·intro s R h
  unfold ajm at h
  split at h
  case h_2=>exact h.elim
  rename_i t k z hrd
  obtain ⟨⟨hs,h3⟩,hR⟩:=h
  exact ⟨⟨t,k,z,0⟩,hs,⟨Nat.zero_le _,h3⟩,hR⟩
 ·intro x R h
  obtain ⟨s,k,z,i⟩:=x
  obtain ⟨⟨hle,hl⟩,hR⟩:=h
  simp only at hle hl hR
  refine Tr.aN _ (fun o ho=>ho) (aJ.of_eq (Ub s k z i _) ?_).out
  by_cases ff:i<s.l.length
  ·have hw:IntKind.i64.wrap ((i:Int)+1)=((i+1:Nat):Int):=by rw [ay']; omega
   refine sT (axv (by omega)) (De (by omega) (by omega) (a8 s.l).symm ?_)
   rw [azd,kT ff,Dd,Dd,Gi,hw]
   rw [drop_cons ff] at hR
   have next:gM s k (s.l.getD i wj)=false->∃ b:AV,Dg s k z ((i+1:Nat):Int)=Dg b.s b.k b.z b.i∧b.s.l.length - b.i<s.l.length - i∧apz b R:=fun hg=>by
    rw [abW hg,Uc hg] at hR
    exact ⟨⟨s,k,z,i+1⟩,rfl,by simp only; omega,⟨by simp only; omega,hl⟩,hR⟩
   have done:gM s k (s.l.getD i wj)=true->R (.ret,Gk s k (s.l.getD i wj)):=fun hg=>by
    rw [Ud hg,abV hg] at hR
    exact hR
   cases h1:dN (s.l.getD i wj) k with
   | true=>exact sF rfl (next (by unfold gM; rw [h1]; rfl))
   | false=>
     refine sT rfl ?_
     cases h2:s.pd with
     | false=>exact sF rfl (done (by unfold gM; rw [h1,h2]; rfl))
     | true=>
       refine sT rfl ?_
       cases h3:dN (s.l.getD i wj) s.wi with
       | true=>exact sF rfl (next (by unfold gM; rw [h1,h2,h3]; rfl))
       | false=>exact sT rfl (done (by unfold gM; rw [h1,h2,h3]; rfl))
  ·rw [List.drop_eq_nil_iff.2 (by omega)] at hR
   exact sF (axw (by omega)) hR
noncomputable def agA:au:=fun args I=>if I.length=3 then aD prog GL (fun _=>ay1) [(0,[0,3,4,10,11,12],ajm)] abU args I else .fail
theorem apA:Known prog GL 158 agA:=av 3 func158 rfl (by kernel_rfl) mixed az (aM.one (id:=0) (body:=ae abU 0) (by kernel_rfl) rfl abX)
noncomputable def oVi (s:lC) (x:Ky):Out:=⟨.v (.ag (dY x)),(wm s).map some⟩
def p6 (s:lC):lC:={s with l:=EB s.l}
theorem JA (s:lC):p6 s=s:=by unfold p6; rw [Ua]
noncomputable def Ue:au:=da [] [] [] [] 3 agA
theorem apB:Known prog GL 158 Ue:=apA.soft [] [] [] [] 3
theorem abY (s:lC) (k:Ky) (R:Out->Prop):(Ue [.c (.p 0 0 0),.ag (dY k)] (wm s)).run R =
 ((Dg s k wj 0=Dg (p6 s) k wj 0∧(p6 s).l.length<=1000000)∧af ((p6 s).l.any (gM (p6 s) k)) (R (oVi (p6 s) (rj (p6 s) k (p6 s).l))) (R (oVi (p6 s) k))):=by kernel_rfl
noncomputable def tVi:au:=fun args I=>match args with
 | [.c (.p 0 0 0),.ag [.i .i64 a,.i .i64 b,.i .i64 c]]=>onS I fun s=>.ret (oVi s (rj s (a,b,c) s.l))
 | _=>.fail
theorem Gl {s:lC} {k:Ky}:∀ {l:List Ky},l.any (gM s k)=false->rj s k l=k
 | [],_=>rfl
 | x::l,h=>by
   rw [ayA,Bool.or_eq_false_iff] at h
   rw [Uc h.1]
   exact Gl h.2
attribute [local irreducible] Ue in
theorem kVi:Known prog GL 158 tVi:=by
 refine apB.less fun args I R h=>aJ.out ?_
 unfold tVi at h
 split at h
 case h_2=>exact h.elim
 rename_i a b c
 obtain ⟨s,rfl,hl,h⟩:=Gj h
 refine aJ.of_eq (abY s (a,b,c) R) ?_
 rw [JA]
 refine ⟨⟨rfl,hl⟩,?_⟩
 cases ha:s.l.any (gM s (a,b,c)) with
 | true=>exact sT rfl h
 | false=>
   have h:R (oVi s (rj s (a,b,c) s.l)):=h
   rw [Gl ha] at h
   exact sF rfl h
noncomputable def apC:FuncId->Option au:=aE [(157,tDr),(158,tVi)]
theorem apD:∀ f T,apC f=some T->Known prog GL f T:=(aq.cons kDr (.cons kVi .nil)).get
noncomputable def agB:au:=fun args I=>aD prog GL apC [] f124 args I
theorem apE:bP prog GL 124 agB:=dp func124 rfl (by kernel_rfl) mixed apD (by kernel_rfl)
def bA (p:Pg):Ky:=(p.mg,p.pn,p.sb)
def fa (p:Pg):NV:=.sg (uw p (.lr K3 p.ex) [] fun q=>[.cells q])
noncomputable def Ml:au:=iM 8 [(0,2,aY [])] none agB
theorem apF:bP prog GL 124 Ml:=apE.canon 8 [(0,2,aY [])] none
def rwP (k:Ky) (d:lC):List (List Sc):=azo d.l.length (aC d.l)++[yN k]
def rk (p:Pg) (d:lC):lC:={d with m:=km di p.key p.row d.m,l:=(rwP (bA p) d).map dj}
noncomputable def rgP (p:Pg) (d:lC):List aG:=[P0 d (.hz 2 (d.l.length+1)),eN (rk p d).m,aY (rwP (bA p) d)]
noncomputable def ouP (p:Pg) (d:lC):List (Option aG):=[some (P0 d (.hz 8 (d.l.length+1))),some (eN (rk p d).m),none,none,none,none,none,none,some (aY (rwP (bA p) d))]
theorem abZ (s:lC) (p:Pg) (R:Out->Prop):(Ml [.c (.p 0 0 0),.ag (dY (bA p)),fa p] (wm s)).run R =
 ((wm s=wm (p6 s)∧(p6 s).l.length<=1000000)∧
   af (decide ((fJ (bA p) (p6 s)).l.length<=(aC (fJ (bA p) (p6 s)).l).length)) (af (decide (((fJ (bA p) (p6 s)).l.length+1) * bf prog 45<=140737488355328)) (af (decide ((fJ (bA p) (p6 s)).l.length+1<=9223372036854775807))
   (af (decide ((((fJ (bA p) (p6 s)).l.length+1:Nat):Int)<=(fJ (bA p) (p6 s)).gA))
     (R ⟨.tu [.ag (dY wj),.c (.b false)],ouP p (fJ (bA p) (p6 s))⟩)
     ((rgP p (fJ (bA p) (p6 s))=wm (rk p (fJ (bA p) (p6 s)))∧(rk p (fJ (bA p) (p6 s))).l.length<=1000000)∧
      (wm (rk p (fJ (bA p) (p6 s)))=wm (p6 (rk p (fJ (bA p) (p6 s))))∧(p6 (rk p (fJ (bA p) (p6 s)))).l.length<=1000000)∧
       R ⟨.tu [.ag (dY (rj (rk p (fJ (bA p) (p6 s))) (bA p) (rk p (fJ (bA p) (p6 s))).l)),.c (.b true)],T9 (fJ (rj (rk p (fJ (bA p) (p6 s))) (bA p) (rk p (fJ (bA p) (p6 s))).l) (p6 (rk p (fJ (bA p) (p6 s)))))⟩)) False) False) False):=by kernel_rfl
structure Sp where
 gA:Int
 wi:Ky
 pd:Bool
 L:List Pg
def gB (L:List Pg):List (List FC × List FC):=L.map fun p=>(p.key,p.row)
def Sp.bR (x:Sp):lC:=⟨x.gA,x.wi,x.pd,gB x.L,x.L.map bA⟩
noncomputable def yP (x:Sp):List aG:=wm x.bR
noncomputable def ajn (x:Sp):List (Option aG):=T9 x.bR
def ofRow (r:List FC):Pg:=⟨(r.getD 0 (.i 0)).n,(r.getD 1 (.i 0)).n,(r.getD 2 (.i 0)).n,(r.getD 3 (.i 0)).lr,(r.getD 4 (.i 0)).n,(r.getD 5 (.i 0)).li,(r.getD 6 (.i 0)).lr,(r.getD 7 (.i 0)).lr,(r.getD 8 (.i 0)).lr,(r.getD 9 (.i 0)).t,(r.getD 10 (.i 0)).n⟩
def Sp.ok (x:Sp):Prop:=x.L.length<=1000000∧(x.L.map bA).Nodup
def onP (I:List aG) (f:Sp->Tr Out):Tr Out:=
 match rdS I with
 | some s=>.aF (I=yP ⟨s.gA,s.wi,s.pd,s.m.map fun e=>ofRow e.2⟩∧Sp.ok ⟨s.gA,s.wi,s.pd,s.m.map fun e=>ofRow e.2⟩) (f ⟨s.gA,s.wi,s.pd,s.m.map fun e=>ofRow e.2⟩)
 | none=>.fail
theorem o5 {I:List aG} {f:Sp->Tr Out} {R:Out->Prop} (h:(onP I f).run R):∃ x,I=yP x∧x.ok∧(f x).run R:=by
 unfold onP at h
 split at h
 ·exact ⟨_,h.1.1,h.1.2,h.2⟩
 ·exact h.elim
theorem P1 (L:List Pg):(gB L).map (fun e=>ofRow e.2)=L:=by
 rw [gB,List.map_map]
 exact List.map_id L
def nk (k:Ky) (p:Pg):Bool:=!dN (bA p) k
def Sp.drop (k:Ky) (x:Sp):Sp:={x with L:=x.L.filter (nk k)}
def Sp.push (p:Pg) (x:Sp):Sp:={x with L:=x.L++[p]}
def Sp.vic (x:Sp) (k:Ky):Ky:=rj x.bR k (x.L.map bA)
def Sp.put (p:Pg) (x:Sp):Sp:=
 match decide ((((x.drop (bA p)).push p).L.length:Int)<=x.gA) with
 | true=>(x.drop (bA p)).push p
 | false=>((x.drop (bA p)).push p).drop (((x.drop (bA p)).push p).vic (bA p))
theorem Uf (k:Ky) (p:Pg):dS di (iN k) p.key 0=dN k (bA p):=rfl
theorem P2 (a b:Ky):dN a b=dN b a:=by
 cases h:dN b a with
 | true=>rw [fU] at h ⊢; exact h.symm
 | false=>
   cases h2:dN a b with
   | false=>rfl
   | true=>rw [fU.1 h2] at h; rw [fU.2 rfl] at h; cases h
theorem yQ {k:Ky}:∀ {L:List Pg},k ∉ L.map bA->L.filter (nk k)=L
 | [],_=>rfl
 | p::L,h=>by
   rw [ay4,ayD,not_or] at h
   have:nk k p=true:=by
    unfold nk
    cases hk:dN (bA p) k with
    | false=>rfl
    | true=>exact (h.1 (fU.1 hk).symm).elim
   rw [azn this,yQ h.2]
theorem yR {k:Ky}:∀ {L:List Pg},(L.map bA).Nodup->ko di (iN k) (gB L)=gB (L.filter (nk k))
 | [],_=>rfl
 | p::L,h=>by
   rw [ay4,List.nodup_cons] at h
   show (match dS di (iN k) p.key 0 with | true=>gB L | false=>(p.key,p.row)::ko di (iN k) (gB L))=_
   rw [Uf,P2]
   cases hk:dN (bA p) k with
   | true=>
     rw [azm (by unfold nk; rw [hk]; decide),yQ (by rw [<- fU.1 hk]; exact h.1)]
   | false=>
     rw [azn (by unfold nk; rw [hk]; rfl)]
     show (p.key,p.row)::ko di (iN k) (gB L)=_
     rw [yR h.2]
     rfl
theorem yS {p:Pg}:∀ {L:List Pg},bA p ∉ L.map bA->km di p.key p.row (gB L)=gB (L++[p])
 | [],_=>rfl
 | q::L,h=>by
   rw [ay4,ayD,not_or] at h
   show (match dS di (iN (bA p)) q.key 0 with | true=>(p.key,p.row)::gB L | false=>(q.key,q.row)::km di p.key p.row (gB L))=_
   rw [Uf]
   cases hk:dN (bA p) (bA q) with
   | true=>exact (h.1 (fU.1 hk)).elim
   | false=>
     show (q.key,q.row)::km di p.key p.row (gB L)=_
     rw [yS h.2]
     rfl
theorem Gm {x:Sp} (k:Ky) (h:(x.L.map bA).Nodup):fJ k x.bR=(x.drop k).bR:=by
 have e1:ko di (iN k) (gB x.L)=gB (x.L.filter (nk k)):=yR h
 have e2:iq k (x.L.map bA)=(x.L.filter (nk k)).map bA:=by unfold iq; rw [List.filter_map]; rfl
 unfold fJ Sp.bR Sp.drop
 simp only [e1,e2]
theorem rl {x:Sp} (k:Ky) (h:(x.L.map bA).Nodup):((x.drop k).L.map bA).Nodup:=h.sublist (List.filter_sublist.map bA)
theorem Gn {x:Sp} (k:Ky):k ∉ (x.drop k).L.map bA:=by
 intro h
 obtain ⟨p,hp,rfl⟩:=List.mem_map.1 h
 have:=(List.mem_filter.1 hp).2
 unfold nk at this
 rw [fU.2 rfl] at this
 cases this
theorem yT {x:Sp} {p:Pg} (h:(x.L.map bA).Nodup) (hn:bA p ∉ x.L.map bA):((x.push p).L.map bA).Nodup:=by
 show ((x.L++[p]).map bA).Nodup
 rw [ayr,List.nodup_append]
 refine ⟨h,by simp,fun a ha b hb=>?_⟩
 rw [List.map_singleton,ayx] at hb
 subst hb
 exact fun e=>hn (e ▸ ha)
theorem Mm (k:Ky) (x:Sp):rwP k x.bR=aC (x.L.map bA++[k]):=by
 unfold rwP
 have:x.bR.l=x.L.map bA:=rfl
 rw [this]
 have hl:=a8 (x.L.map bA)
 rw [<- hl,azp]
 unfold aC
 rw [ayr]
 rfl
theorem Ug {x:Sp} {p:Pg} (hn:bA p ∉ x.L.map bA):rk p x.bR=(x.push p).bR:=by
 have e1:km di p.key p.row (gB x.L)=gB (x.L++[p]):=yS hn
 have e2:(rwP (bA p) x.bR).map dj=(x.L++[p]).map bA:=by rw [Mm,o4,ayr]; rfl
 unfold rk
 rw [e2]
 show ({x.bR with m:=km di p.key p.row (gB x.L),l:=(x.L++[p]).map bA}:lC)=_
 rw [e1]
 rfl
theorem P3 {x:Sp} {p:Pg} (h:(x.L.map bA).Nodup):((x.put p).L.map bA).Nodup:=by
 have h2:=yT (rl (bA p) h) (Gn (x:=x) (bA p))
 unfold Sp.put
 split
 ·exact h2
 ·exact rl _ h2
theorem Gp (x:Sp) (k:Ky):(x.drop k).L.length<=x.L.length:=List.length_filter_le _ _
def Sp.gone (p:Pg) (x:Sp):Ky × Bool:=
 match decide ((((x.drop (bA p)).push p).L.length:Int)<=x.gA) with
 | true=>(wj,false)
 | false=>(((x.drop (bA p)).push p).vic (bA p),true)
def nX:NV->Option Pg
 | .sg [.cells [.i _ mg,.i _ pn,.i _ sb],.aA _ _ c,.cells [.i _ op],.ints _ _ rows,.aA _ _ th,.cells [.lr _ ex],.aA _ _ lk,.cells [.b ld,.i _ df]]=>some ⟨mg,pn,sb,c,op,rows,th,ex,lk,ld,df⟩
 | _=>none
noncomputable def oPu (p:Pg) (x:Sp):Out:=⟨.tu [.ag (dY (x.gone p).1),.c (.b (x.gone p).2)],ajn (x.put p)⟩
noncomputable def tPu:au:=fun args I=>match args with
 | [_,_,v]=>(match nX v with
   | some p=>.aF (args=[.c (.p 0 0 0),.ag (dY (bA p)),fa p]) (onP I fun x=>.aF (x.L.length<1000000) (.ret (oPu p x)))
   | none=>.fail)
 | _=>.fail
theorem Uh:bf prog 45=24:=by kernel_rfl
theorem apG {x:Sp} {p:Pg} {R:Out->Prop} (hx:x.ok) (hl:x.L.length<1000000) (h:R (oPu p x)):aJ ((Ml [.c (.p 0 0 0),.ag (dY (bA p)),fa p] (yP x)).run R):=by
 refine aJ.of_eq (abZ x.bR p R) ?_
 have hm:p6 x.bR=x.bR:=JA _
 have hd:=Gm (bA p) hx.2
 rw [hm,hd]
 have hn:=Gn (x:=x) (bA p)
 have hp:rk p (x.drop (bA p)).bR=((x.drop (bA p)).push p).bR:=Ug hn
 have AZ:=yT (rl (bA p) hx.2) hn
 have hlen:(x.drop (bA p)).bR.l.length=(x.drop (bA p)).L.length:=azq ..
 have hle:=Gp x (bA p)
 have RK:((x.drop (bA p)).push p).L.length=(x.drop (bA p)).L.length+1:=by show ((x.drop (bA p)).L++[p]).length=_; rw [axG]; rfl
 have hrw:rwP (bA p) (x.drop (bA p)).bR=aC (((x.drop (bA p)).push p).L.map bA):=by
  rw [Mm]
  show _=aC (((x.drop (bA p)).L++[p]).map bA)
  rw [ayr]
  rfl
 have kb:rgP p (x.drop (bA p)).bR=wm ((x.drop (bA p)).push p).bR:=by
  unfold rgP wm
  rw [hp,hrw,hlen,<- RK]
  show [P0 (x.drop (bA p)).bR _,_,_]=[P0 ((x.drop (bA p)).push p).bR (.hz 2 (((x.drop (bA p)).push p).L.map bA).length),_,_]
  rw [azq]
  rfl
 have hou:ouP p (x.drop (bA p)).bR=ajn ((x.drop (bA p)).push p):=by
  unfold ouP ajn T9
  rw [hp,hrw,hlen,<- RK]
  show [some (P0 (x.drop (bA p)).bR _),_,_,_,_,_,_,_,_]=[some (P0 ((x.drop (bA p)).push p).bR (.hz 8 (((x.drop (bA p)).push p).L.map bA).length)),_,_,_,_,_,_,_,_]
  rw [azq]
  rfl
 have hb:=Uh
 refine ⟨⟨rfl,by rw [show x.bR.l.length=x.L.length from azq ..]; exact hx.1⟩,sT (axv (by rw [a8]; exact axB _)) (sT (axv (by rw [hb,hlen]; omega)) (sT (axv (by rw [hlen]; omega)) ?_))⟩
 unfold oPu Sp.gone Sp.put at h
 by_cases hc:(((x.drop (bA p)).push p).L.length:Int)<=x.gA
 ·rw [axv hc] at h
  refine sT (axv (by rw [hlen,<- RK]; exact hc)) ?_
  rw [hou]
  exact h
 ·rw [axw hc] at h
  refine sF (axw (by rw [hlen,<- RK]; exact hc)) ?_
  rw [kb,hp,JA]
  have hll:((x.drop (bA p)).push p).bR.l.length<=1000000:=by
   show (((x.drop (bA p)).push p).L.map bA).length<=_
   rw [azq]
   omega
  refine ⟨⟨rfl,hll⟩,⟨rfl,hll⟩,?_⟩
  have e:=Gm (x:=(x.drop (bA p)).push p) (((x.drop (bA p)).push p).vic (bA p)) AZ
  have h:R ⟨.tu [.ag (dY (((x.drop (bA p)).push p).vic (bA p))),.c (.b true)],T9 (((x.drop (bA p)).push p).drop (((x.drop (bA p)).push p).vic (bA p))).bR⟩:=h
  rw [<- e] at h
  exact h
attribute [local irreducible] Ml in
theorem kPu:bP prog GL 124 tPu:=by
 refine apF.less fun args I R h=>aJ.out ?_
 unfold tPu at h
 split at h
 case h_2=>exact h.elim
 split at h
 case h_2=>exact h.elim
 rename_i p hp
 have ha:=h.1
 obtain ⟨x,rfl,hx,h⟩:=o5 h.2
 rw [ha]
 exact apG hx h.1 h.2
noncomputable def Ui:au:=da [] [] [(0,5,0,.lr K3 [])] [] 3 Mf
theorem apH:Known prog GL 54 Ui:=abK.soft [] [] [(0,5,0,.lr K3 [])] [] 3
theorem ab0 (s:lC) (k:Ky) (R:Out->Prop):(Ui [.c (.p 0 0 0),.ag (dY k)] (wm s)).run R =
 af (gW di (iN k) s.m) (R ⟨.tu [fa (ofRow (jQ di (iN k) s.m)),.c (.b true)],(wm s).map some⟩) (R ⟨.tu [fa fO,.c (.b false)],(wm s).map some⟩):=by kernel_rfl
def Sp.get (k:Ky) (x:Sp):Pg × Bool:=match x.L.find? (fun p=>dN k (bA p)) with
 | some p=>(p,true)
 | none=>(fO,false)
noncomputable def tGe:au:=fun args I=>match args with
 | [.c (.p 0 0 0),.ag [.i .i64 a,.i .i64 b,.i .i64 c]]=>onP I fun x=>.ret ⟨.tu [fa (x.get (a,b,c)).1,.c (.b (x.get (a,b,c)).2)],(yP x).map some⟩
 | _=>.fail
theorem Dh (k:Ky):∀ L:List Pg,match L.find? (fun p=>dN k (bA p)) with
  | some p=>gW di (iN k) (gB L)=true∧ofRow (jQ di (iN k) (gB L))=p
  | none=>gW di (iN k) (gB L)=false
 | []=>rfl
 | q::L=>by
   have ih:=Dh k L
   have e1:gW di (iN k) (gB (q::L))=(dN k (bA q)||gW di (iN k) (gB L)):=rfl
   have e2:jQ di (iN k) (gB (q::L))=match dN k (bA q) with | true=>q.row | false=>jQ di (iN k) (gB L):=by
    unfold jQ gB
    rw [ay4,azj]
    show (match (match dN k (bA q) with | true=>some (q.key,q.row) | false=>_) with | some x=>x.2 | none=>[])=_
    cases dN k (bA q) <;> rfl
   rw [azj,e1,e2]
   cases hk:dN k (bA q) with
   | true=>exact ⟨rfl,rfl⟩
   | false=>
     simp only [Bool.false_or]
     exact ih
attribute [local irreducible] Ui in
theorem kGe:Known prog GL 54 tGe:=by
 refine apH.less fun args I R h=>aJ.out ?_
 unfold tGe at h
 split at h
 case h_2=>exact h.elim
 rename_i a b c
 obtain ⟨x,rfl,hx,h⟩:=o5 h
 refine aJ.of_eq (ab0 x.bR (a,b,c) R) ?_
 have hf:=Dh (a,b,c) x.L
 have h:R ⟨.tu [fa (x.get (a,b,c)).1,.c (.b (x.get (a,b,c)).2)],(yP x).map some⟩:=h
 unfold Sp.get at h
 cases hq:x.L.find? (fun p=>dN (a,b,c) (bA p)) with
 | some p=>
   rw [hq] at h hf
   have hf:=hf
   refine sT hf.1 ?_
   rw [show ofRow (jQ di (iN (a,b,c)) x.bR.m)=p from hf.2]
   exact h
 | none=>
   rw [hq] at h hf
   exact sF hf h
noncomputable def ajo:au:=fun args I=>match args with
 | [.c (.p 0 0 0),.ag [.i .i64 a,.i .i64 b,.i .i64 c]]=>onP I fun x=>.ret ⟨.tu [],(yP {x with wi:=(a,b,c),pd:=true}).map some⟩
 | _=>.fail
theorem Uj (s:lC) (k:Ky) (R:Out->Prop):(Mh [.c (.p 0 0 0),.ag (dY k)] (wm s)).run R=R ⟨.tu [],(wm {s with wi:=k,pd:=true}).map some⟩:=by kernel_rfl
theorem au2:Known prog GL 143 ajo:=by
 refine abL.less fun args I R h=>aJ.out ?_
 unfold ajo at h
 split at h
 case h_2=>exact h.elim
 rename_i a b c
 obtain ⟨x,rfl,hx,h⟩:=o5 h
 exact aJ.of_eq (Uj x.bR (a,b,c) R) h
noncomputable def Uk:au:=fun args I=>match args with
 | [.c (.p 0 0 0)]=>onP I fun x=>.ret ⟨.tu [],(yP {x with pd:=false}).map some⟩
 | _=>.fail
theorem P4 (s:lC) (R:Out->Prop):(Gh [.c (.p 0 0 0)] (wm s)).run R=R ⟨.tu [],(wm {s with pd:=false}).map some⟩:=by kernel_rfl
theorem apI:Known prog GL 110 Uk:=by
 refine TY.less fun args I R h=>aJ.out ?_
 unfold Uk at h
 split at h
 case h_2=>exact h.elim
 obtain ⟨x,rfl,hx,h⟩:=o5 h
 exact aJ.of_eq (P4 x.bR R) h
theorem agC:bP prog GL 103 (fun args I=>aD prog GL (fun _=>ay1) [] f103 args I):=dp func103 rfl (by kernel_rfl) mixed az (by kernel_rfl)
noncomputable def Gq:au:=da [] [0] [(0,0,0,.lr K3 [])] [] 0 (fun args I=>aD prog GL (fun _=>ay1) [] f103 args I)
theorem Ul:Known prog GL 103 Gq:=agC.soft [] [0] [(0,0,0,.lr K3 [])] [] 0
theorem Um (xs:List (List Sc)) (R:Out->Prop):(Gq [.c (.lr K3 xs)] []).run R =
 af xs.isEmpty (∀ y:Bool,True->af y (R ⟨.v (.c (.lr K3 [])),[]⟩) (af (decide ((0+xs.length) * bf prog 112<=140737488355328)) (af (decide (0+xs.length<=9223372036854775807)) (0+xs.length=xs.length∧R ⟨.v (.c (.lr K3 xs)),[]⟩) False) False))
  (af (decide ((0+xs.length) * bf prog 112<=140737488355328)) (af (decide (0+xs.length<=9223372036854775807)) (0+xs.length=xs.length∧R ⟨.v (.c (.lr K3 xs)),[]⟩) False) False):=by kernel_rfl
theorem apJ:bP prog GL 114 (fun args I=>aD prog GL (fun _=>ay1) [] f114 args I):=dp func114 rfl (by kernel_rfl) mixed az (by kernel_rfl)
noncomputable def agD:au:=da [] [0] [(0,0,0,.l .u8 [])] [] 0 (fun args I=>aD prog GL (fun _=>ay1) [] f114 args I)
theorem ajp:Known prog GL 114 agD:=apJ.soft [] [0] [(0,0,0,.l .u8 [])] [] 0
theorem Un (xs:List Int) (R:Out->Prop):(agD [.c (.l .u8 xs)] []).run R =
 af xs.isEmpty (∀ y:Bool,True->af y (R ⟨.v (.c (.l .u8 [])),[]⟩) (af (decide ((0+xs.length) * bf prog 5<=140737488355328)) (af (decide (0+xs.length<=9223372036854775807)) (0+xs.length=xs.length∧R ⟨.v (.c (.l .u8 xs)),[]⟩) False) False))
  (af (decide ((0+xs.length) * bf prog 5<=140737488355328)) (af (decide (0+xs.length<=9223372036854775807)) (0+xs.length=xs.length∧R ⟨.v (.c (.l .u8 xs)),[]⟩) False) False):=by kernel_rfl
theorem Uo:bf prog 5=1:=by kernel_rfl
theorem Di:bf prog 112=24:=by kernel_rfl
noncomputable def Bp:au:=fun args I=>match args,I with
 | [.c (.lr _ xs)],[]=>.aF (args=[.c (.lr K3 xs)]∧xs.length<=1000000) (.ret ⟨.v (.c (.lr K3 xs)),[]⟩)
 | _,_=>.fail
theorem Up:Known prog GL 103 Bp:=by
 refine Ul.less fun args I R h=>aJ.out ?_
 unfold Bp at h
 split at h
 case h_2=>exact h.elim
 rename_i xs
 obtain ⟨⟨h1,hl⟩,h⟩:=h
 rw [h1]
 refine aJ.of_eq (Um xs R) ?_
 have hb:=Di
 have key:af (decide ((0+xs.length) * bf prog _<=140737488355328)) (af (decide (0+xs.length<=9223372036854775807)) (0+xs.length=xs.length∧R ⟨.v (.c (.lr K3 xs)),[]⟩) False) False:=sT (axv (by rw [hb]; omega)) (sT (axv (by omega)) ⟨by omega,h⟩)
 cases hx:xs.isEmpty with
 | false=>exact sF rfl key
 | true=>
   refine sT rfl fun y _=>?_
   have e:xs=[]:=List.isEmpty_iff.1 hx
   subst e
   cases y with
   | true=>exact sT rfl h
   | false=>exact sF rfl key
noncomputable def Gr:au:=fun args I=>match args,I with
 | [.c (.l _ xs)],[]=>.aF (args=[.c (.l .u8 xs)]∧xs.length<=1000000) (.ret ⟨.v (.c (.l .u8 xs)),[]⟩)
 | _,_=>.fail
theorem Uq:Known prog GL 114 Gr:=by
 refine ajp.less fun args I R h=>aJ.out ?_
 unfold Gr at h
 split at h
 case h_2=>exact h.elim
 rename_i xs
 obtain ⟨⟨h1,hl⟩,h⟩:=h
 rw [h1]
 refine aJ.of_eq (Un xs R) ?_
 have hb:=Uo
 have key:af (decide ((0+xs.length) * bf prog _<=140737488355328)) (af (decide (0+xs.length<=9223372036854775807)) (0+xs.length=xs.length∧R ⟨.v (.c (.l .u8 xs)),[]⟩) False) False:=sT (axv (by rw [hb]; omega)) (sT (axv (by omega)) ⟨by omega,h⟩)
 cases hx:xs.isEmpty with
 | false=>exact sF rfl key
 | true=>
   refine sT rfl fun y _=>?_
   have e:xs=[]:=List.isEmpty_iff.1 hx
   subst e
   cases y with
   | true=>exact sT rfl h
   | false=>exact sF rfl key
theorem apK:bP prog GL 102 (fun args I=>aD prog GL (fun _=>ay1) [] f102 args I):=dp func102 rfl (by kernel_rfl) mixed az (by kernel_rfl)
noncomputable def agE:au:=iM 1 [] (some (aY [])) (fun args I=>aD prog GL (fun _=>ay1) [] f102 args I)
theorem ajq:bP prog GL 102 agE:=apK.canon 1 [] (some (aY []))
def oRw (xs:List (List Sc)) (n:Nat):Out:=⟨.v (.c (.hz 1 n)),[none,some (aY xs)]⟩
noncomputable def ajr (xs:List (List Sc)) (R:Out->Prop):Prop:=af (decide ((0+xs.length) * bf prog 45<=140737488355328)) (af (decide (0+xs.length<=9223372036854775807)) (R (oRw xs (0+xs.length))) False) False
theorem Ur (xs:List (List Sc)) (R:Out->Prop):(agE [.c (.lr K3 xs)] []).run R =
 af xs.isEmpty (∀ y:Bool,True->af y (R (oRw [] 0)) (ajr xs R)) (ajr xs R):=by kernel_rfl
noncomputable def ab1:au:=fun args I=>match args,I with
 | [.c (.lr _ xs)],[]=>.aF (args=[.c (.lr K3 xs)]∧xs.length<=1000000) (.ret (oRw xs xs.length))
 | _,_=>.fail
theorem au3:bP prog GL 102 ab1:=by
 refine ajq.less fun args I R h=>aJ.out ?_
 unfold ab1 at h
 split at h
 case h_2=>exact h.elim
 rename_i xs
 obtain ⟨⟨h1,hl⟩,h⟩:=h
 rw [h1]
 refine aJ.of_eq (Ur xs R) ?_
 have hb:=Uh
 have key:ajr xs R:=sT (axv (by rw [hb]; omega)) (sT (axv (by omega)) (by rw [ayf]; exact h))
 cases hx:xs.isEmpty with
 | false=>exact sF rfl key
 | true=>
   refine sT rfl fun y _=>?_
   have e:xs=[]:=List.isEmpty_iff.1 hx
   subst e
   cases y with
   | true=>exact sT rfl h
   | false=>exact sF rfl key
theorem apL:bP prog GL 53 (fun args I=>aD prog GL (aE [(102,ab1)]) [] f53 args I):=dp func53 rfl (by kernel_rfl) mixed (aq.cons au3.known .nil).get (by kernel_rfl)
noncomputable def agF:au:=iM 4 [] (some (aY [])) (fun args I=>aD prog GL (aE [(102,ab1)]) [] f53 args I)
theorem apM:bP prog GL 53 agF:=apL.canon 4 [] (some (aY []))
noncomputable def oKe (s:lC) (xs:List (List Sc)) (n:Nat):Out:=⟨.v (.c (.hz 4 n)),(wm s).map some++[none,some (aY xs)]⟩
theorem ab2 (s:lC) (R:Out->Prop):(agF [.c (.p 0 0 0)] (wm s)).run R =
 af (decide (s.l.length<=(aC s.l).length)) (([NV.c (.lr K3 (azo s.l.length (aC s.l)))]=[NV.c (.lr K3 (azo s.l.length (aC s.l)))]∧(azo s.l.length (aC s.l)).length<=1000000)∧
  R (oKe s (azo s.l.length (aC s.l)) (azo s.l.length (aC s.l)).length)) False:=by kernel_rfl
noncomputable def tKe:au:=fun args I=>match args with
 | [.c (.p 0 0 0)]=>onP I fun x=>.ret (oKe x.bR (aC (x.L.map bA)) x.L.length)
 | _=>.fail
theorem kKe:bP prog GL 53 tKe:=by
 refine apM.less fun args I R h=>aJ.out ?_
 unfold tKe at h
 split at h
 case h_2=>exact h.elim
 obtain ⟨x,rfl,hx,h⟩:=o5 h
 refine aJ.of_eq (ab2 x.bR R) ?_
 have hl:x.bR.l=x.L.map bA:=rfl
 have e1:azo x.bR.l.length (aC x.bR.l)=aC (x.L.map bA):=by rw [hl,<- a8,azp]
 rw [e1]
 have e2:(aC (x.L.map bA)).length=x.L.length:=by rw [a8,azq]
 rw [e2]
 exact sT (axv (by rw [a8]; exact axB _)) ⟨⟨rfl,hx.1⟩,h⟩
end bR
end Go.Proofs.YthknkidbonfbnaaGreatDoor
namespace Go.Nx
open Go
theorem aM.three {X:Cx} {c:Code} {i1 i2 i3:Nat} {b1 b2 b3:Code} {l1 l2 l3:List Nat} {L1 L2 L3:St->Tr (aj × St)} (hl:bY c=[(i1,b1),(i2,b2),(i3,b3)]) (hx:X.loops=[(i1,l1,L1),(i2,l2,L2),(i3,l3,L3)]) (b9:i1≠i2∧i1≠i3∧i2≠i3)
  (h1:jL X.P X.glob X.m i1 b1 L1) (h2:jL X.P X.glob X.m i2 b2 L2) (h3:jL X.P X.glob X.m i3 b3 L3) (hr:cG c=[]:=by kernel_rfl):aM X c:=
 aM.list hl (hr:=hr) fun p hp x hf=>by
  rw [hx] at hf
  simp only [ayD,List.not_mem_nil,or_false] at hp
  rcases hp with rfl | rfl | rfl
  ·simp at hf; subst hf; exact h1
  ·simp [b9.1] at hf; subst hf; exact h2
  ·simp [b9.2.1,b9.2.2] at hf; subst hf; exact h3
end Go.Nx
namespace Go.Proofs.YthknkidbonfbnaaGreatDoor
open Go.Proofs.Tryz
namespace hd
open Go Go.Nx
def kh (g:Nat->Int->Int) (i:Nat):Nat->List Int->List Int
 | _,[]=>[]
 | k,x::xs=>(bif azr k i then x else g k x)::kh g i (k+1) xs
theorem Gs {k i:Nat} (h:k<i):azr k i=true:=by rw [Nat.blt_eq]; exact h
theorem Us {k i:Nat} (h:¬ k<i):azr k i=false:=by rw [<- Bool.not_eq_true,Nat.blt_eq]; exact h
theorem Bq (g:Nat->Int->Int) (i i2:Nat):∀ (k:Nat) (xs:List Int),i<=k->i2<=k->kh g i k xs=kh g i2 k xs
 | _,[],_,_=>rfl
 | k,x::xs,h,h2=>by
   show (bif azr k i then _ else _)::_=(bif azr k i2 then _ else _)::_
   rw [Bq g i i2 (k+1) xs (by omega) (by omega),Us (by omega),Us (by omega)]
theorem sW (g:Nat->Int->Int) (i:Nat) (y:Int):∀ (k:Nat) (xs:List Int) (j:Nat),k+j=i->j<xs.length->y=g i (xs.getD j 0)->kh g (i+1) k (xs.set j y)=kh g i k xs
 | _,[],_,_,h,_=>by simp at h
 | k,x::xs,0,h,_,hy=>by
   have e:k=i:=by omega
   subst e
   have hy:y=g k x:=hy
   show (bif azr k (k+1) then y else _)::kh g (k+1) (k+1) xs=(bif azr k k then _ else g k x)::kh g k (k+1) xs
   rw [Gs (by omega),Us (by omega),Bq g (k+1) k (k+1) xs (by omega) (by omega),hy]
   rfl
 | k,x::xs,j+1,h,hl,hy=>by
   have h1:=sW g i y (k+1) xs j (by omega) (by simpa using hl) (by simpa using hy)
   show (bif azr k (i+1) then x else _)::kh g (i+1) (k+1) (xs.set j y)=(bif azr k i then x else _)::_
   rw [h1,Gs (by omega),Gs (by omega)]
theorem vK (g:Nat->Int->Int) (i:Nat):∀ (k:Nat) (xs:List Int),(kh g i k xs).length=xs.length
 | _,[]=>rfl
 | k,x::xs=>by show (kh g i (k+1) xs).length+1=_; rw [vK g i (k+1) xs]; rfl
end hd
namespace wX
open Go Go.Nx pk ac bR hd
def JB (b:Int):Bool:=ll b.toNat 8 % 2==1
theorem yU (b:Int) (R:Out->Prop):(C6 [.c (.i .u8 b)] []).run R=af (decide (0<=b)) (af (decide (b<(ij.size:Int))) (R ⟨.v (.c (.b ((IntKind.i64.wrap (cA ij b.toNat)).tmod 2==1))),[]⟩) False) False:=by kernel_rfl
theorem Dj:∀ n<256,((IntKind.i64.wrap (cA ij n)).tmod 2==1)=JB (azi n):=by decide +kernel
noncomputable def tOd:au:=fun args I=>match args,I with
 | [.c (.i _ b)],[]=>.aF (args=[.c (.i .u8 b)]∧0<=b∧b<256) (.ret ⟨.v (.c (.b (JB b))),[]⟩)
 | _,_=>.fail
theorem kOd:Known prog GL 146 tOd:=by
 refine (bX Jm).less fun args I R h=>aJ.out ?_
 unfold tOd at h
 split at h
 case h_2=>exact h.elim
 rename_i b
 obtain ⟨⟨h0,h1⟩,h2⟩:=h
 rw [h0]
 refine aJ.of_eq (yU b R) (bz (dT h1.1) (bz (dT (by rw [sR]; exact h1.2)) ?_))
 obtain ⟨n,hn,rfl⟩:=oX h1
 rw [show (azi n).toNat=n from rfl,Dj n hn]
 exact h2
noncomputable abbrev ab3:=f127
noncomputable def ajs:FuncId->Option au:=aE [(146,tOd)]
theorem agG:∀ f T,ajs f=some T->Known prog GL f T:=(aq.cons kOd .nil).get
noncomputable def apN:Cx:={P:=prog,con:=ajs,glob:=GL,m:=0,loops:=[]}
def a40 (xs:List Int):aG:=⟨40,49,.sg [.ints .u8 40 xs]⟩
noncomputable def Gt (ds:List Int) (eL:Bool) (old z out:List Int) (i:Int):St:={fr:=frame 39 [(1,.v (.c (.l .u8 ds))),(2,.v (.c (.b eL))),(3,.v (.c (.p 0 0 0))),(6,.v (.c (.p 1 0 0))),(7,.v (.c (.p 2 0 0))),(10,.v (.c (.i .i64 i)))],rg:=[some (a40 old),some (a40 z),some (a40 out)]}
noncomputable def ixq (i:Int):Nat:=eR 0 (fY i.toNat (al prog 5))
theorem sz8:al prog 5=1:=by kernel_rfl
theorem JC (i:Int):ixq i=i.toNat:=by
 unfold ixq
 rw [sz8]
 simp [eR,fY]
noncomputable def JD (i:Int) (N:Prop):Prop:=af (decide (0<=i)) (af (decide (i<((40:Nat):Int))) (af (decide (ixq i<40)) N False) False) False
theorem Mn {i:Int} {N:Prop} (h0:0<=i) (h1:i<40) (h:N):JD i N:=by
 unfold JD
 rw [JC]
 exact sT (axv h0) (sT (axv (by omega)) (sT (axv (by omega)) h))
noncomputable def Gu (ds:List Int) (eL:Bool) (old z out:List Int) (i:Int) (y:Int) (R:RO->Prop):Prop:=R (.next (Gt ds eL old z (out.set (ixq i) y) (IntKind.i64.wrap (i+1))))
noncomputable def Mp (ds:List Int) (eL:Bool) (old z out:List Int) (i:Int) (R:RO->Prop):Prop:=af eL (JD i (JD i (Gu ds eL old z out i (old.getD (ixq i) 0) R))) (JD i (Gu ds eL old z out i 32 R))
noncomputable def ajt (z out:List Int):St:={fr:=frame 39 [(6,.v (.c (.p 0 0 0))),(7,.v (.c (.p 1 0 0)))],rg:=[some (a40 z),some (a40 out)]}
theorem Uu (ds:List Int) (eL:Bool) (old z out:List Int) (i:Int) (R:RO->Prop):(bu apN 0 [1,2,3,6,7,10] [6,7] (ae ab3 0) (Gt ds eL old z out i)).run R =
 af (decide (i<40)) (af (decide (i<(ds.length:Int))) (af (decide (0<=i)) (af (decide (i<(ds.length:Int))) (af (decide (i.toNat<ds.length))
  (([NV.c (.i .u8 (ds.getD i.toNat 0))]=[NV.c (.i .u8 (ds.getD i.toNat 0))]∧0<=ds.getD i.toNat 0∧ds.getD i.toNat 0<256)∧af (JB (ds.getD i.toNat 0)) (JD i (Gu ds eL old z out i (bits .and .u8 (ds.getD i.toNat 0) 127) R)) (Mp ds eL old z out i R)) False) False) False)
  (([NV.c (.i .u8 0)]=[NV.c (.i .u8 0)]∧(0:Int)<=0∧(0:Int)<256)∧Mp ds eL old z out i R))
 (R (.done .normal (ajt z out))):=by kernel_rfl
noncomputable def mgB (old ds:List Int) (eL:Bool) (k:Nat):Int:=
 match decide (k<ds.length)&&JB (ds.getD k 0) with
 | true=>bits .and .u8 (ds.getD k 0) 127
 | false=>match eL with
   | true=>old.getD k 0
   | false=>32
theorem me (g:Nat->Int->Int) (i:Nat):∀ (k:Nat) (xs:List Int),k+xs.length<=i->kh g i k xs=xs
 | _,[],_=>rfl
 | k,x::xs,h=>by
   have h:k+(xs.length+1)<=i:=h
   show (bif azr k i then x else _)::_=_
   rw [me g i (k+1) xs (by omega),Gs (by omega)]
   rfl
structure AM where
 ds:List Int
 eL:Bool
 old:List Int
 z:List Int
 out:List Int
 i:Nat
noncomputable def gMg (old ds:List Int) (eL:Bool) (k:Nat) (_:Int):Int:=mgB old ds eL k
def aju (x:AM) (R:aj × St->Prop):Prop:=(x.i<=40∧x.out.length=40∧∀ b∈x.ds,0<=b∧b<256)∧R (.normal,ajt x.z (kh (gMg x.old x.ds x.eL) x.i 0 x.out))
def rdM (s:St):Option (List Int × Bool × List Int × List Int × List Int):=match s.fr[(1:Nat)]?,s.fr[(2:Nat)]?,s.rg with
 | some (.v (.c (.l _ ds))),some (.v (.c (.b eL))),[some ⟨_,_,.sg [.ints _ _ old]⟩,some ⟨_,_,.sg [.ints _ _ z]⟩,some ⟨_,_,.sg [.ints _ _ out]⟩]=>some (ds,eL,old,z,out)
 | _,_,_=>none
noncomputable def ajv (s:St):Tr (aj × St):=match rdM s with
 | some (ds,eL,old,z,out)=>.aF (s=Gt ds eL old z out 0∧out.length=40∧∀ b∈ds,0<=b∧b<256) (.ret (.normal,ajt z (kh (gMg old ds eL) 0 0 out)))
 | none=>.fail
theorem Uv {ds:List Int} {k:Nat} (h:k<ds.length):ds.getD k 0∈ds:=by
 rw [axF,axP h]
 exact List.getElem_mem h
attribute [local irreducible] bu in
theorem ab4:jL prog GL 0 0 (ae ab3 0) ajv:=by
 refine cf (X:=apN) agG mixed (aM.none (by kernel_rfl)) [1,2,3,6,7,10] [6,7] (fun x:AM=>Gt x.ds x.eL x.old x.z x.out x.i) (fun x=>40 - x.i) aju ?_ ?_
 ·intro s R h
  unfold ajv at h
  split at h
  case h_2=>exact h.elim
  rename_i ds eL old z out hrd
  obtain ⟨⟨hs,h1,h2⟩,hR⟩:=h
  exact ⟨⟨ds,eL,old,z,out,0⟩,hs,⟨Nat.zero_le _,h1,h2⟩,hR⟩
 ·intro x R h
  obtain ⟨ds,eL,old,z,out,i⟩:=x
  obtain ⟨⟨hle,hl,hb⟩,hR⟩:=h
  simp only at hle hl hb hR
  refine Tr.aN _ (fun o ho=>ho) (aJ.of_eq (Uu ds eL old z out i _) ?_).out
  by_cases ff:i<40
  ·have hw:IntKind.i64.wrap ((i:Int)+1)=((i+1:Nat):Int):=by rw [ay']; omega
   have next:∀ y,y=mgB old ds eL i->JD i (Gu ds eL old z out i y fun o=>match o with
     | .next s=>∃ b:AM,s=Gt b.ds b.eL b.old b.z b.out b.i∧40 - b.i<40 - i∧aju b R
     | .done e s=>R (e,s)):=fun y hy=>by
    refine Mn (by omega) (by omega) ?_
    unfold Gu
    rw [hw,JC,azd]
    refine ⟨⟨ds,eL,old,z,out.set i y,i+1⟩,rfl,by simp only; omega,⟨by simp only; omega,by simp only [axV]; exact hl,hb⟩,?_⟩
    simp only
    rw [sW (gMg old ds eL) i y 0 out i (by omega) (by omega) hy]
    exact hR
   have other:(decide (i<ds.length)&&JB (ds.getD i 0))=false->Mp ds eL old z out i fun o=>match o with
     | .next s=>∃ b:AM,s=Gt b.ds b.eL b.old b.z b.out b.i∧40 - b.i<40 - i∧aju b R
     | .done e s=>R (e,s):=fun hn=>by
    unfold Mp
    cases eL with
    | true=>
      refine sT rfl (Mn (by omega) (by omega) (next _ ?_))
      rw [JC,azd]
      unfold mgB
      rw [hn]
    | false=>
      refine sF rfl (next _ ?_)
      unfold mgB
      rw [hn]
   refine sT (axv (by omega)) ?_
   by_cases hd:i<ds.length
   ·refine sT (axv (by omega)) (sT (axv (by omega)) (sT (axv (by omega)) (sT (axv (by omega)) ?_)))
    rw [azd]
    refine ⟨⟨rfl,hb _ (Uv hd)⟩,?_⟩
    cases ho:JB (ds.getD i 0) with
    | true=>
      refine sT rfl (next _ ?_)
      unfold mgB
      rw [ho,axv hd]
      rfl
    | false=>exact sF rfl (other (by rw [ho,Bool.and_false]))
   ·refine sF (axw (by omega)) ⟨⟨rfl,by omega,by omega⟩,other ?_⟩
    rw [axw hd]
    rfl
  ·rw [me _ i 0 out (by omega)] at hR
   exact sF (axw (by omega)) hR
noncomputable def ajw:au:=fun args I=>if I.length=0 then aD prog GL ajs [(0,[1,2,3,6,7,10],ajv)] ab3 args I else .fail
theorem au4:Known prog GL 127 ajw:=av 0 func127 rfl (by kernel_rfl) mixed agG (aM.one (id:=0) (body:=ae ab3 0) (by kernel_rfl) rfl ab4)
noncomputable def rn (old ds:List Int) (eL:Bool):List Int:=kh (gMg old ds eL) 0 0 (axx 40 0)
theorem ab5 (old ds:List Int) (eL:Bool) (R:Out->Prop):(ajw [.sg [.ints .u8 40 old],.c (.l .u8 ds),.c (.b eL)] []).run R =
 ((Gt ds eL old (axx 40 0) (axx 40 0) 0=Gt ds eL old (axx 40 0) (axx 40 0) 0∧(axx 40 (0:Int)).length=40∧∀ b∈ds,0<=b∧b<256)∧R ⟨.v (.sg [.ints .u8 40 (rn old ds eL)]),[]⟩):=by kernel_rfl
noncomputable def tMg:au:=fun args I=>match args,I with
 | [.sg [.ints _ _ old],.c (.l _ ds),.c (.b eL)],[]=>.aF (args=[.sg [.ints .u8 40 old],.c (.l .u8 ds),.c (.b eL)]∧∀ b∈ds,0<=b∧b<256) (.ret ⟨.v (.sg [.ints .u8 40 (rn old ds eL)]),[]⟩)
 | _,_=>.fail
attribute [local irreducible] ajw in
theorem kMg:Known prog GL 127 tMg:=by
 refine au4.less fun args I R h=>aJ.out ?_
 unfold tMg at h
 split at h
 case h_2=>exact h.elim
 rename_i _ _ old _ ds eL
 obtain ⟨⟨h0,h1⟩,h2⟩:=h
 rw [h0]
 exact aJ.of_eq (ab5 old ds eL R) ⟨⟨rfl,rfl,h1⟩,h2⟩
noncomputable def Gv:FuncId->Option au:=aE [(103,Bp),(127,tMg)]
theorem P5:∀ f T,Gv f=some T->Known prog GL f T:=(aq.cons Up (.cons kMg .nil)).get
noncomputable def Gw:au:=fun args I=>aD prog GL Gv [] f89 args I
theorem Uw:Known prog GL 89 Gw:=ah func89 rfl (by kernel_rfl) mixed P5 (by kernel_rfl)
def EC (p:Pg):Out:=⟨.v (fa p),[]⟩
def ckA (row:Int) (N:Prop):Prop:=af (decide (0<=row)) (af (decide (row<((25:Nat):Int))) (af (decide (row.toNat * 40+40<=1000)) N False) False) False
def ckB (row:Int) (N:Prop):Prop:=af (decide (0<=row)) (af (decide (row<((25:Nat):Int))) (af (decide (row.toNat<25)) N False) False) False
theorem Ux {row:Int} {N:Prop} (h0:0<=row) (h1:row<25) (h:N):ckA row N:=sT (axv h0) (sT (axv (by omega)) (sT (axv (by omega)) h))
theorem Uy {row:Int} {N:Prop} (h0:0<=row) (h1:row<25) (h:N):ckB row N:=sT (axv h0) (sT (axv (by omega)) (sT (axv (by omega)) h))
def r40 (p:Pg) (n:Nat):List Int:=azo 40 (List.drop (n * 40) p.rows)
def thB (p:Pg) (n:Nat):Bool:=((p.th.getD n []).getD 0 (.i 0)).t
noncomputable def Pg.ab6 (p:Pg) (n:Nat) (ds:List Int):Pg:={p with rows:=qk p.rows (n * 40) 40 (rn (r40 p n) ds (thB p n)),th:=p.th.set n [.b true]}
theorem JE (p:Pg) (row:Int) (ds:List Int) (R:Out->Prop):(Gw [fa p,.c (.i .i64 row),.c (.l .u8 ds)] []).run R =
 (([NV.c (.lr K3 p.ex)]=[NV.c (.lr K3 p.ex)]∧p.ex.length<=1000000)∧af (decide (row<1)) (R (EC p)) (af (decide (row > 24)) (R (EC p))
   (ckA row (ckB row (([NV.sg [.ints .u8 40 (r40 p row.toNat)],.c (.l .u8 ds),.c (.b (thB p row.toNat))]=[NV.sg [.ints .u8 40 (r40 p row.toNat)],.c (.l .u8 ds),.c (.b (thB p row.toNat))]∧∀ b∈ds,0<=b∧b<256)∧
     ckA row (ckB row (R (EC (Pg.ab6 p row.toNat ds))))))))):=by kernel_rfl
noncomputable def Dk (p:Pg) (row:Int) (ds:List Int):Pg:=match decide (row<1),decide (row > 24) with
 | false,false=>Pg.ab6 p row.toNat ds
 | _,_=>p
noncomputable def JF:au:=fun args I=>match args,I with
 | [v,.c (.i _ row),.c (.l _ ds)],[]=>(match nX v with
   | some p=>.aF (args=[fa p,.c (.i .i64 row),.c (.l .u8 ds)]∧p.ex.length<=1000000∧∀ b∈ds,0<=b∧b<256) (.ret (EC (Dk p row ds)))
   | none=>.fail)
 | _,_=>.fail
theorem ajx:Known prog GL 89 JF:=by
 refine Uw.less fun args I R h=>aJ.out ?_
 unfold JF at h
 split at h
 case h_2=>exact h.elim
 split at h
 case h_2=>exact h.elim
 rename_i p hp
 obtain ⟨⟨h1,h2,h3⟩,h⟩:=h
 rw [h1]
 refine aJ.of_eq (JE p _ _ R) ⟨⟨rfl,h2⟩,?_⟩
 rename_i row _ ds _
 have h:R (EC (Dk p row ds)):=h
 unfold Dk at h
 by_cases c1:row<1
 ·rw [axv c1] at h
  exact sT (axv c1) h
 ·rw [axw c1] at h
  refine sF (axw c1) ?_
  by_cases c2:row > 24
  ·rw [axv c2] at h
   exact sT (axv c2) h
  ·rw [axw c2] at h
   exact sF (axw c2) (Ux (by omega) (by omega) (Uy (by omega) (by omega) ⟨⟨rfl,h3⟩,Ux (by omega) (by omega) (Uy (by omega) (by omega) h)⟩))
def Mq (l:List (List Sc)):aG:=⟨3,112,.aA K3 l⟩
noncomputable def Uz:au:=iM 1 [] (some (Mq [])) (fun args I=>aD prog GL (fun _=>ay1) [] f103 args I)
theorem ab7:bP prog GL 103 Uz:=agC.canon 1 [] (some (Mq []))
def oRt (xs:List (List Sc)) (n:Nat):Out:=⟨.v (.c (.hz 1 n)),[none,some (Mq xs)]⟩
noncomputable def ajy (xs:List (List Sc)) (R:Out->Prop):Prop:=af (decide ((0+xs.length) * bf prog 112<=140737488355328)) (af (decide (0+xs.length<=9223372036854775807)) (R (oRt xs (0+xs.length))) False) False
theorem P6 (xs:List (List Sc)) (R:Out->Prop):(Uz [.c (.lr K3 xs)] []).run R =
 af xs.isEmpty (∀ y:Bool,True->af y (R (oRt [] 0)) (ajy xs R)) (ajy xs R):=by kernel_rfl
noncomputable def UA:au:=fun args I=>match args,I with
 | [.c (.lr _ xs)],[]=>.aF (args=[.c (.lr K3 xs)]∧xs.length<=1000000) (.ret (oRt xs xs.length))
 | _,_=>.fail
theorem apP:bP prog GL 103 UA:=by
 refine ab7.less fun args I R h=>aJ.out ?_
 unfold UA at h
 split at h
 case h_2=>exact h.elim
 rename_i xs
 obtain ⟨⟨h1,hl⟩,h⟩:=h
 rw [h1]
 refine aJ.of_eq (P6 xs R) ?_
 have hb:=Di
 have key:ajy xs R:=sT (axv (by rw [hb]; omega)) (sT (axv (by omega)) (by rw [ayf]; exact h))
 cases hx:xs.isEmpty with
 | false=>exact sF rfl key
 | true=>
   refine sT rfl fun y _=>?_
   have e:xs=[]:=List.isEmpty_iff.1 hx
   subst e
   cases y with
   | true=>exact sT rfl h
   | false=>exact sF rfl key
noncomputable abbrev ab8:=f133
noncomputable def ajz:FuncId->Option au:=aE [(103,UA)]
theorem agH:∀ f T,ajz f=some T->Known prog GL f T:=(aq.cons apP.known .nil).get
noncomputable def apQ:Cx:={P:=prog,con:=ajz,glob:=GL,m:=0,loops:=[]}
noncomputable def qB (p:Pg) (x:NC):aG:=⟨1061,55,.sg (uw p x [] fun q=>[.cells q])⟩
noncomputable def Dl (code:Int) (l:List (List Sc)) (p:Pg) (E:List (List Sc)) (n:Nat):St:={fr:=frame 43 [(1,.v (.c (.i .i64 code))),(2,.v (.c (.lr K3 l))),(3,.v (.c (.p 0 0 0))),(6,.v (.c (.p 2 0 0)))],rg:=[some (qB p (.hz 1 n)),some (Mq E),some (qB fO .sn)]}
def Mr (code:Int):Int:=IntKind.i64.wrap (13 * IntKind.i64.wrap (code+1))
theorem UB (code:Int) (l:List (List Sc)) (p:Pg) (E:List (List Sc)) (n:Nat) (R:RO->Prop):(bu apQ 0 [1,2,3,6] [1,2,3,6] (ae ab8 0) (Dl code l p E n)).run R =
 af (decide ((n:Int)<Mr code)) (af (decide (n<=E.length)) (af (decide ((n+1) * bf prog 112<=140737488355328)) (af (decide (n+1<=9223372036854775807))
  (R (.next (Dl code l p (azo n E++[z3]) (n+1)))) False) False) False)
 (R (.done .normal (Dl code l p E n))):=by kernel_rfl
def sX (m:Nat) (E:List (List Sc)):List (List Sc):=E++axx (m - E.length) z3
theorem P7 {m:Nat} {E:List (List Sc)} (h:E.length<m):sX m (E++[z3])=sX m E:=by
 unfold sX
 rw [axG,axC]
 have:m - E.length=(m - (E.length+1))+1:=by omega
 rw [this,List.replicate_succ]
 rfl
theorem P8 {m:Nat} {E:List (List Sc)} (h:m<=E.length):sX m E=E:=by
 unfold sX
 rw [Nat.sub_eq_zero_of_le h]
 simp
theorem o6 (m:Nat) (E:List (List Sc)):(sX m E).length=max E.length m:=by
 unfold sX
 rw [axG,List.length_replicate]
 omega
structure AE where
 code:Int
 l:List (List Sc)
 p:Pg
 E:List (List Sc)
def au5 (x:AE) (R:aj × St->Prop):Prop:=(x.E.length<=1000000∧Mr x.code<=1000000)∧R (.normal,Dl x.code x.l x.p (sX (Mr x.code).toNat x.E) (sX (Mr x.code).toNat x.E).length)
def au6:List bq->Option (Pg × NC)
 | [.cells [.i _ mg,.i _ pn,.i _ sb],.aA _ _ c,.cells [.i _ op],.ints _ _ rows,.aA _ _ th,.cells [x],.aA _ _ lk,.cells [.b ld,.i _ df]]=>some (⟨mg,pn,sb,c,op,rows,th,[],lk,ld,df⟩,x)
 | _=>none
def rdE (s:St):Option (Int × List (List Sc) × Pg × List (List Sc)):=match s.fr[(1:Nat)]?,s.fr[(2:Nat)]?,s.rg with
 | some (.v (.c (.i _ code))),some (.v (.c (.lr _ l))),[some ⟨_,_,.sg sg⟩,some ⟨_,_,.aA _ E⟩,some _]=>(match au6 sg with
   | some (p,_)=>some (code,l,p,E)
   | none=>none)
 | _,_,_=>none
noncomputable def ajA (s:St):Tr (aj × St):=match rdE s with
 | some (code,l,p,E)=>.aF (s=Dl code l p E E.length∧E.length<=1000000∧Mr code<=1000000) (.ret (.normal,Dl code l p (sX (Mr code).toNat E) (sX (Mr code).toNat E).length))
 | none=>.fail
attribute [local irreducible] bu in
theorem ab9:jL prog GL 0 0 (ae ab8 0) ajA:=by
 refine cf (X:=apQ) agH mixed (aM.none (by kernel_rfl)) [1,2,3,6] [1,2,3,6] (fun x:AE=>Dl x.code x.l x.p x.E x.E.length) (fun x=>(Mr x.code).toNat - x.E.length) au5 ?_ ?_
 ·intro s R h
  unfold ajA at h
  split at h
  case h_2=>exact h.elim
  rename_i code l p E hrd
  obtain ⟨⟨hs,h1,h2⟩,hR⟩:=h
  exact ⟨⟨code,l,p,E⟩,hs,⟨h1,h2⟩,hR⟩
 ·intro x R h
  obtain ⟨code,l,p,E⟩:=x
  obtain ⟨⟨h1,h2⟩,hR⟩:=h
  simp only at h1 h2 hR
  have hb:=Di
  refine Tr.aN _ (fun o ho=>ho) (aJ.of_eq (UB code l p E E.length _) ?_).out
  by_cases ff:(E.length:Int)<Mr code
  ·refine sT (axv ff) (sT (axv (axB _)) (sT (axv (by rw [hb]; omega)) (sT (axv (by omega)) ?_)))
   refine ⟨⟨code,l,p,E++[z3]⟩,by simp only [azp,axG]; rfl,by simp only [axG,List.length_singleton]; omega,⟨by simp only [axG,List.length_singleton]; omega,h2⟩,?_⟩
   simp only
   rw [P7 (by omega)]
   exact hR
  ·rw [P8 (by omega)] at hR
   exact sF (axw ff) hR
noncomputable def agI:au:=fun args I=>if I.length=0 then aD prog GL ajz [(0,[1,2,3,6],ajA)] ab8 args I else .fail
theorem apR:Known prog GL 133 agI:=av 0 func133 rfl (by kernel_rfl) mixed agH (aM.one (id:=0) (body:=ae ab8 0) (by kernel_rfl) rfl ab9)
noncomputable def Ms:au:=da [] [0] [(0,5,0,.lr K3 [])] [] 0 agI
theorem apV:Known prog GL 133 Ms:=apR.soft [] [0] [(0,5,0,.lr K3 [])] [] 0
noncomputable def RM (code:Int) (E:List (List Sc)):List (List Sc):=sX (Mr code).toNat E
def c13 (code:Int):Int:=IntKind.i64.wrap (13 * code)
noncomputable def exA (code:Int) (E:List (List Sc)):List (List Sc):=aw (RM code E) (c13 code).toNat (axx 13 z3)
noncomputable def exB (code:Int) (E l:List (List Sc)):List (List Sc):=aw (exA code E) (c13 code).toNat (azo 13 l)
theorem ab' (p:Pg) (code:Int) (l:List (List Sc)) (R:Out->Prop):(Ms [fa p,.c (.i .i64 code),.c (.lr K3 l)] []).run R =
 (([NV.c (.lr K3 p.ex)]=[NV.c (.lr K3 p.ex)]∧p.ex.length<=1000000)∧af (decide (code<0)) (p.ex.length=p.ex.length∧R (EC p)) (af (decide (code >= 16)) (p.ex.length=p.ex.length∧R (EC p))
   ((Dl code l p p.ex p.ex.length=Dl code l p p.ex p.ex.length∧p.ex.length<=1000000∧Mr code<=1000000)∧
     af (decide (0<(RM code p.ex).length)) (af (decide (0<=c13 code)) (af (decide (c13 code<=((RM code p.ex).length:Int))) (af (decide (13<=(((RM code p.ex).length - (c13 code).toNat:Nat):Int))) (af (decide ((c13 code).toNat+13<=(RM code p.ex).length)) (af (decide ((c13 code).toNat+13<=(exA code p.ex).length))
      ((RM code p.ex).length=(exB code p.ex l).length∧R (EC {p with ex:=exB code p.ex l})) False) False) False) False) False) False))):=by kernel_rfl
def exV (n:Nat) (E l:List (List Sc)):List (List Sc):=aw (aw (sX (13 * (n+1)) E) (13 * n) (axx 13 z3)) (13 * n) (l.take 13)
noncomputable def nB (p:Pg) (code:Int) (l:List (List Sc)):Pg:=match decide (0<=code∧code<16) with
 | true=>{p with ex:=exV code.toNat p.ex l}
 | false=>p
theorem ie {xs ys:List (List Sc)} {o:Nat} (h:o+ys.length<=xs.length):(aw xs o ys).length=xs.length:=by
 unfold aw
 rw [axG,axG,ax7,List.length_drop]
 omega
noncomputable def ajB:au:=fun args I=>match args,I with
 | [v,.c (.i _ code),.c (.lr _ l)],[]=>(match nX v with
   | some p=>.aF (args=[fa p,.c (.i .i64 code),.c (.lr K3 l)]∧p.ex.length<=1000000) (.ret (EC (nB p code l)))
   | none=>.fail)
 | _,_=>.fail
theorem ajC {p:Pg} {code:Int} {l:List (List Sc)} {R:Out->Prop} (hl:p.ex.length<=1000000) (h:R (EC (nB p code l))):aJ ((Ms [fa p,.c (.i .i64 code),.c (.lr K3 l)] []).run R):=by
 refine aJ.of_eq (ab' p code l R) ⟨⟨rfl,hl⟩,?_⟩
 unfold nB at h
 by_cases c1:code<0
 ·rw [axw (by omega)] at h
  exact sT (axv c1) ⟨rfl,h⟩
 ·refine sF (axw c1) ?_
  by_cases c2:code >= 16
  ·rw [axw (by omega)] at h
   exact sT (axv c2) ⟨rfl,h⟩
  ·rw [axv (by omega)] at h
   refine sF (axw c2) ?_
   have w1:Mr code=13 * (code+1):=by unfold Mr; rw [ay',ay']; omega
   have w2:c13 code=13 * code:=by unfold c13; rw [ay']; omega
   have n1:(Mr code).toNat=13 * (code.toNat+1):=by omega
   have n2:(c13 code).toNat=13 * code.toNat:=by omega
   have eP:RM code p.ex=sX (13 * (code.toNat+1)) p.ex:=by unfold RM; rw [n1]
   have lP:13 * (code.toNat+1)<=(RM code p.ex).length:=by rw [eP,o6]; omega
   have lP2:(RM code p.ex).length=max p.ex.length (13 * (code.toNat+1)):=by rw [eP,o6]
   have lA:(exA code p.ex).length=(RM code p.ex).length:=ie (by rw [List.length_replicate]; omega)
   have lB:(exB code p.ex l).length=(RM code p.ex).length:=by
    rw [<- lA]
    refine ie ?_
    rw [ax7]
    omega
   have eB:exB code p.ex l=exV code.toNat p.ex l:=by
    unfold exB exA exV
    rw [eP,n2]
   refine ⟨⟨rfl,hl,by omega⟩,sT (axv (by omega)) (sT (axv (by omega)) (sT (axv (by omega)) (sT (axv (by omega)) (sT (axv (by omega)) (sT (axv (by omega)) ⟨lB.symm,?_⟩)))))⟩
   rw [eB]
   exact h
attribute [local irreducible] Ms in
theorem au7:Known prog GL 133 ajB:=by
 refine apV.less fun args I R h=>aJ.out ?_
 unfold ajB at h
 split at h
 case h_2=>exact h.elim
 split at h
 case h_2=>exact h.elim
 obtain ⟨⟨h1,h2⟩,h⟩:=h
 rw [h1]
 exact ajC h2 h
end wX
end Go.Proofs.YthknkidbonfbnaaGreatDoor
