/-
  Joined: BmB, BmC, BmD, BmE, LsZ, SvTz, SvOz, SvUz, SvQz, BmH, BmI, BmJ, BmG, BmK, AqN3, AqN4, AqN5, NxA, NxB, NxC, RvB, RvC, RvD, RvE, RvF, RvG, BmF, KeA, KeB, KeC, KeD, GrA, GrB, GrC, GrD, GrE, GrF, GrG, GrH.
-/
import Derived.Test.YthknkidbonfbnaaGreatDoorTm5
import Derived.Lib.BytesEntry
import Derived.Lib.Strings
import Derived.WalkKit
set_option maxRecDepth 100000
set_option linter.unusedVariables false
open Go.Proofs.Tryz hiding d3 d5 t8
open BitVec renaming ofInt->ay7
open Int renaming ofNat->azi
open Go.IntKind renaming wrap_i64->ay'
open List renaming append_assoc->axC,append_nil->ayw,drop->azs,drop_eq_getElem_cons->axO,drop_of_length_le->axX,getD_eq_getElem?_getD->axF,getElem?_eq_getElem->axP,length_append->axG,length_map->azq,length_take->ax7,replicate->axx,take->azo,take_length->azp,take_of_length_le->axN
open Nat renaming zero_le->azN
open Option renaming none->ay1
namespace Go.Proofs.YthknkidbonfbnaaGreatDoor
namespace bm
open bR (sT sF)
open wX (Hx)
open Go Go.Nx pk ln hd lb sv
noncomputable def ahm:FuncId->Option au:=aE [(8,num.yF)]
theorem ak4:∀ f T,ahm f=some T->Known prog GL f T:=(aq.cons (bX num.Gb) .nil).get
noncomputable def XF:au:=fun args I=>aD prog GL ahm [] f22 args I
theorem aq5:Known prog GL 22 XF:=ah func22 rfl (by kernel_rfl) mixed ak4 (by kernel_rfl)
noncomputable def px:au:=fun args I=>aD prog GL (fun _=>ay1) [] f92 args I
theorem zk:Known prog GL 92 px:=ah func92 rfl (by kernel_rfl) mixed az (by kernel_rfl)
noncomputable def mq:FuncId->Option au:=aE [(94,mf)]
theorem rG:∀ f T,mq f=some T->Known prog GL f T:=(aq.cons DB .nil).get
noncomputable def mr:au:=fun args I=>aD prog GL mq [] f93 args I
theorem uM:Known prog GL 93 mr:=ah func93 rfl (by kernel_rfl) mixed rG (by kernel_rfl)
noncomputable def XG:FuncId->Option au:=aE [(94,mf)]
theorem adt:∀ f T,XG f=some T->Known prog GL f T:=(aq.cons DB .nil).get
noncomputable def DS:au:=fun args I=>aD prog GL XG [] f42 args I
theorem Kr:Known prog GL 42 DS:=ah func42 rfl (by kernel_rfl) mixed adt (by kernel_rfl)
noncomputable abbrev adu:=f40
noncomputable def ak5:FuncId->Option au:=aE [(92,px),(93,mr),(94,mf),(42,DS)]
theorem ahn:∀ f T,ak5 f=some T->Known prog GL f T:=(aq.cons zk (.cons uM (.cons DB (.cons Kr .nil)))).get
noncomputable def aq6:Cx:={P:=prog,con:=ak5,glob:=GL,m:=0,loops:=[]}
def alB (h:Hx):Nat->Bool
 | 0=>h.c0
 | 1=>h.c1
 | 2=>h.c2
 | 3=>h.c3
 | 4=>h.c4
 | 5=>h.c5
 | 6=>h.c6
 | 7=>h.c7
 | 8=>h.c8
 | 9=>h.c9
 | 10=>h.sY
 | _=>false
def pw (k:Nat):Int:=azi (2 ^ k)
noncomputable def QO (h:Hx):Nat->Int
 | 0=>0
 | k+1=>bif alB h k then bits .or .i64 (QO h k) (pw k) else QO h k
noncomputable def hxR (h:Hx):aG:=⟨15,48,.cells h.nc⟩
noncomputable def zN (xs:List Int) (h:Hx) (all:Int) (i:Int):St:={fr:=frame 55 [(1,.v (.c (.l .u8 xs))),(2,.v (.c (.p 0 0 0))),(4,.v (.c .sn)),(5,.v (.c (.i .i64 0))),(6,.v (.c (.i .i64 all))),(7,.v (.c (.i .i64 i)))],rg:=[some (hxR h)]}
noncomputable def dHB (xs:List Int) (h:Hx) (all:Int):St:={fr:=frame 55 [(1,.v (.c (.l .u8 xs))),(2,.v (.c (.p 0 0 0))),(4,.v (.c .sn)),(5,.v (.c (.i .i64 0))),(6,.v (.c (.i .i64 all)))],rg:=[some (hxR h)]}
noncomputable def Nn (s:St):Tr RO:=bu aq6 0 [1,2,4,5,6,7] [1,2,4,5,6] (ae adu 0) s
noncomputable def QP (xs:List Int) (h:Hx) (all:Int) (k:Nat) (R:RO->Prop):Prop:=af (alB h k) (R (.next (zN xs h (bits .or .i64 all (pw k)) (azi (k+1))))) (R (.next (zN xs h all (azi (k+1)))))
theorem avD (xs:List Int) (h:Hx) (all:Int) (R:RO->Prop):(Nn (zN xs h all 0)).run R=QP xs h all 0 R:=by kernel_rfl
theorem avE (xs:List Int) (h:Hx) (all:Int) (R:RO->Prop):(Nn (zN xs h all 1)).run R=QP xs h all 1 R:=by kernel_rfl
theorem avF (xs:List Int) (h:Hx) (all:Int) (R:RO->Prop):(Nn (zN xs h all 2)).run R=QP xs h all 2 R:=by kernel_rfl
theorem avG (xs:List Int) (h:Hx) (all:Int) (R:RO->Prop):(Nn (zN xs h all 3)).run R=QP xs h all 3 R:=by kernel_rfl
theorem avH (xs:List Int) (h:Hx) (all:Int) (R:RO->Prop):(Nn (zN xs h all 4)).run R=QP xs h all 4 R:=by kernel_rfl
theorem avI (xs:List Int) (h:Hx) (all:Int) (R:RO->Prop):(Nn (zN xs h all 5)).run R=QP xs h all 5 R:=by kernel_rfl
theorem avJ (xs:List Int) (h:Hx) (all:Int) (R:RO->Prop):(Nn (zN xs h all 6)).run R=QP xs h all 6 R:=by kernel_rfl
theorem avK (xs:List Int) (h:Hx) (all:Int) (R:RO->Prop):(Nn (zN xs h all 7)).run R=QP xs h all 7 R:=by kernel_rfl
theorem avL (xs:List Int) (h:Hx) (all:Int) (R:RO->Prop):(Nn (zN xs h all 8)).run R=QP xs h all 8 R:=by kernel_rfl
theorem avM (xs:List Int) (h:Hx) (all:Int) (R:RO->Prop):(Nn (zN xs h all 9)).run R=QP xs h all 9 R:=by kernel_rfl
theorem aq7 (xs:List Int) (h:Hx) (all:Int) (R:RO->Prop):(Nn (zN xs h all 10)).run R=QP xs h all 10 R:=by kernel_rfl
theorem aq8 (xs:List Int) (h:Hx) (all:Int) (R:RO->Prop):(Nn (zN xs h all 11)).run R=R (.done .normal (dHB xs h all)):=by kernel_rfl
theorem avN (xs:List Int) (h:Hx) (all:Int) (R:RO->Prop):∀ k<11,(Nn (zN xs h all (azi k))).run R=QP xs h all k R
 | 0,_=>avD xs h all R
 | 1,_=>avE xs h all R
 | 2,_=>avF xs h all R
 | 3,_=>avG xs h all R
 | 4,_=>avH xs h all R
 | 5,_=>avI xs h all R
 | 6,_=>avJ xs h all R
 | 7,_=>avK xs h all R
 | 8,_=>avL xs h all R
 | 9,_=>avM xs h all R
 | 10,_=>aq7 xs h all R
 | k+11,hk=>absurd hk (by omega)
def avO (s:St):Option (List Int × Hx):=match s.fr[(1:Nat)]?,s.rg[(0:Nat)]? with
 | some (.v (.c (.l _ xs))),some (some {body:=.cells [.i _ mg,.i _ pn,.i _ sb,.b c0,.b c1,.b c2,.b c3,.b c4,.b c5,.b c6,.b c7,.b c8,.b c9,.b sY,.i _ op],..})=>some (xs,⟨mg,pn,sb,c0,c1,c2,c3,c4,c5,c6,c7,c8,c9,sY,op⟩)
 | _,_=>none
noncomputable def lHB (s:St):Tr (aj × St):=match avO s with
 | some x=>.aF (s=zN x.1 x.2 0 0) (.ret (.normal,dHB x.1 x.2 (QO x.2 11)))
 | none=>.fail
structure AHB where
 xs:List Int
 h:Hx
 k:Nat
noncomputable def hHB (a:AHB):St:=zN a.xs a.h (QO a.h a.k) (azi a.k)
def Np (a:AHB) (R:aj × St->Prop):Prop:=a.k<=11∧R (.normal,dHB a.xs a.h (QO a.h 11))
def aho (a:AHB) (R:aj × St->Prop) (o:RO):Prop:=match o with
 | .next s=>∃ y,s=hHB y∧11 - y.k<11 - a.k∧Np y R
 | .done e s=>R (e,s)
theorem aq9 (a:AHB) (R:aj × St->Prop) (h:Np a R):aJ ((Nn (hHB a)).run (aho a R)):=by
 obtain ⟨xs,h',k⟩:=a
 obtain ⟨h1,hR⟩:=h
 simp only at h1 hR
 by_cases hk:k<11
 ·refine aJ.of_eq (avN xs h' _ _ k hk) ?_
  unfold QP
  have e:QO h' (k+1)=bif alB h' k then bits .or .i64 (QO h' k) (pw k) else QO h' k:=rfl
  have nx:∀ all,all=QO h' (k+1)->aho ⟨xs,h',k⟩ R (.next (zN xs h' all (azi (k+1)))):=by
   rintro _ rfl
   exact ⟨⟨xs,h',k+1⟩,rfl,by simp only; omega,by simp only [Np]; exact ⟨by omega,hR⟩⟩
  cases hb:alB h' k with
  | true=>exact sT rfl (nx _ (by rw [e,hb]; rfl))
  | false=>exact sF rfl (nx _ (by rw [e,hb]; rfl))
 ·have hk:k=11:=by omega
  subst hk
  exact aJ.of_eq (aq8 xs h' _ _) hR
theorem adv:jL prog GL 0 0 (ae adu 0) lHB:=by
 refine cf (X:=aq6) ahn mixed (aM.none (by kernel_rfl)) [1,2,4,5,6,7] [1,2,4,5,6] hHB (fun a=>11 - a.k) Np ?_ ?_
 ·intro s R h
  unfold lHB at h
  split at h
  case h_2=>exact h.elim
  rename_i x hx
  obtain ⟨hs,hR⟩:=h
  exact ⟨⟨x.1,x.2,0⟩,hs,by simp only; omega,hR⟩
 ·intro a R h
  exact Tr.aN _ (fun o ho=>ho) (aq9 a R h).out
noncomputable def Nq:au:=fun args I=>if I.length=0 then aD prog GL ak5 [(0,[1,2,4,5,6,7],lHB)] adu args I else .fail
theorem ahp:Known prog GL 40 Nq:=av 0 func40 rfl (by kernel_rfl) mixed ahn (aM.one (id:=0) (body:=ae adu 0) (by kernel_rfl) rfl adv)
def lq (x:Int):Prop:=0<=x∧x<16
noncomputable def pl6 (pn sb b:Int):List Int:=[put (bits .and .i64 pn 15),put (aX .i64 pn 4),put (bits .and .i64 sb 15),put (bits .or .i64 (bits .and .i64 (aX .i64 sb 4) 7) (bH .i64 (bits .and .i64 b 1) 3)),put (bits .and .i64 (aX .i64 sb 8) 15),put (bits .or .i64 (bits .and .i64 (aX .i64 sb 12) 3) (bH .i64 (aX .i64 b 1) 2))]
noncomputable def m6 (pn sb b:Int) (A:Prop):Prop:=lq (bits .and .i64 pn 15)∧lq (aX .i64 pn 4)∧lq (bits .and .i64 sb 15)∧lq (bits .or .i64 (bits .and .i64 (aX .i64 sb 4) 7) (bH .i64 (bits .and .i64 b 1) 3))∧lq (bits .and .i64 (aX .i64 sb 8) 15)∧lq (bits .or .i64 (bits .and .i64 (aX .i64 sb 12) 3) (bH .i64 (aX .i64 b 1) 2))∧A
noncomputable def t8 (all:Int):List Int:=[put (bits .and .i64 (aX .i64 all 3) 15),put (bits .and .i64 (aX .i64 all 7) 15)]
noncomputable def BM (h:Hx) (all:Int) (xs:List Int):List Int:=pl6 h.pn h.sb (bits .and .i64 all 7)++t8 all++xs
noncomputable def Bu (h:Hx) (all:Int) (xs:List Int):List Int:=azo (8+xs.length) (BM h all xs)
noncomputable def Nr (mg row:Int):Int:=bits .or .i64 (mg.tmod 8) (bH .i64 (bits .and .i64 row 1) 3)
noncomputable def BN (mg row:Int) (ds:List Int):List Int:=[put (Nr mg row),put (aX .i64 row 1)]++ds
noncomputable def Hs (x:NC) (e:Int):Out:=⟨.tu [.c x,.c (.i .i64 e)],[]⟩
def zz2 (n m:Nat) (A:Prop):Prop:=af (decide ((n+m) * bf prog 5<=140737488355328)) (af (decide (n+m<=9223372036854775807)) A False) False
noncomputable def hbI (h:Hx) (all:Int) (xs:List Int) (R:Out->Prop):Prop:=
 m6 h.pn h.sb (bits .and .i64 all 7) (lq (bits .and .i64 (aX .i64 all 3) 15)∧(lq (bits .and .i64 (aX .i64 all 7) 15)∧zz2 8 xs.length (af (decide (0+(8+xs.length)<=(BM h all xs).length)) (
  lq (Nr h.mg 0)∧(lq 0∧zz2 2 (Bu h all xs).length (2+(Bu h all xs).length=(BN h.mg 0 (Bu h all xs)).length∧R (Hs (.l .u8 (BN h.mg 0 (Bu h all xs))) 0)))) False)))
noncomputable def hbT (h:Hx) (xs:List Int) (R:Out->Prop):Prop:=
 af (decide (h.mg >= 1)) (af (decide (h.mg<=8)) (af (decide (h.pn >= 0)) (af (decide (h.pn<=255)) (af (decide (h.sb >= 0)) (af (!(bits .andNot .i64 h.sb 16255==0)) (R (Hs .sn 101)) (af ((xs.length:Int) !=32) (R (Hs .sn 102))
  (zN xs h 0 0=zN xs h 0 0∧hbI h (QO h 11) xs R))) (R (Hs .sn 101))) (R (Hs .sn 101))) (R (Hs .sn 101))) (R (Hs .sn 101))) (R (Hs .sn 101))
noncomputable def XH:au:=da [] [0] [] [] 0 Nq
theorem aq':Known prog GL 40 XH:=ahp.soft [] [0] [] [] 0
theorem XI (h:Hx) (xs:List Int) (R:Out->Prop):(XH [.ag h.nc,.c (.l .u8 xs)] []).run R=hbT h xs R:=by kernel_rfl
def right (m p s:Int):Prop:=(1<=m∧m<=8)∧(0<=p∧p<=255)∧0<=s∧bits .andNot .i64 s 16255=0
theorem adw:∀ g<8,∀ r<32,0<=Nr (azi g+1) (azi r)∧Nr (azi g+1) (azi r)<16:=by decide +kernel
theorem DT {m r:Int} (hm:1<=m∧m<=8) (hr:0<=r∧r<32):lq (Nr m r):=by
 have:=adw (m - 1).toNat (by omega) r.toNat (by omega)
 have e1:azi (m - 1).toNat+1=m:=by show (((m - 1).toNat:Nat):Int)+1=m; omega
 have e2:azi r.toNat=r:=by show ((r.toNat:Nat):Int)=r; omega
 rw [e1,e2] at this
 exact this
theorem ahq {p s b:Int} {A:Prop} (hp:0<=p∧p<=255) (hb:0<=b∧b<8) (h:A):m6 p s b A:=by
 have c1:lq (aI p 15):=by rw [GG]; exact ⟨by omega,by omega⟩
 have c2:lq (aX .i64 p 4):=by rw [ajR]; exact ⟨by omega,by omega⟩
 have c3:lq (aI s 15):=by rw [GG]; exact ⟨by omega,by omega⟩
 have c4:lq (nb3 s (aI b 1)):=by rw [ap',UW _ _ (by omega)]; exact ⟨by omega,by omega⟩
 have c5:lq (nb4 s):=by rw [UY]; exact ⟨by omega,by omega⟩
 have c6:lq (nb5 s (aX .i64 b 1)):=by rw [aci,UX _ _ (by omega)]; exact ⟨by omega,by omega⟩
 exact ⟨c1,c2,c3,c4,c5,c6,h⟩
theorem DU {n m:Nat} {A:Prop} (h:n+m<=10000) (hA:A):zz2 n m A:=by
 unfold zz2
 rw [XB]
 exact sT (axv (by omega)) (sT (axv (by omega)) hA)
theorem w7 (h:Hx) (all:Int) (xs:List Int):(BM h all xs).length=8+xs.length:=by
 unfold BM
 rw [axG]
 rfl
theorem XJ (h:Hx) (all:Int) (xs:List Int):Bu h all xs=BM h all xs:=by
 unfold Bu
 rw [<- w7 h all xs,azp]
noncomputable def RV (h:Hx) (xs:List Int):List Int:=BN h.mg 0 (BM h (QO h 11) xs)
attribute [local irreducible] zz2 in
theorem ak6 {h:Hx} {all:Int} {xs:List Int} {R:Out->Prop} (hr:right h.mg h.pn h.sb) (hl:xs.length=32) (hR:R (Hs (.l .u8 (BN h.mg 0 (BM h all xs))) 0)):hbI h all xs R:=by
 have ha:0<=bits .and .i64 all 7∧bits .and .i64 all 7<8:=by
  have e:bits .and .i64 all 7=all % 8:=cB all 3 (by decide)
  rw [e]
  omega
 have k3:lq (bits .and .i64 (aX .i64 all 3) 15):=by
  have e:bits .and .i64 (aX .i64 all 3) 15=(aX .i64 all 3) % 16:=cB _ 4 (by decide)
  rw [e]
  exact ⟨by omega,by omega⟩
 have k7:lq (bits .and .i64 (aX .i64 all 7) 15):=by
  have e:bits .and .i64 (aX .i64 all 7) 15=(aX .i64 all 7) % 16:=cB _ 4 (by decide)
  rw [e]
  exact ⟨by omega,by omega⟩
 have hd:=w7 h all xs
 have hp:(BN h.mg 0 (BM h all xs)).length=2+(BM h all xs).length:=by unfold BN; rw [axG]; rfl
 have h40:8+xs.length<=10000:=by omega
 have h41:0+(8+xs.length)<=(BM h all xs).length:=by omega
 have h42:2+(BM h all xs).length<=10000:=by omega
 have h43:lq (Nr h.mg 0):=DT hr.1 ⟨by decide,by decide⟩
 have h44:lq 0:=⟨by decide,by decide⟩
 unfold hbI
 rw [XJ]
 refine ahq hr.2.1 ha (And.intro k3 (And.intro k7 ?_))
 refine DU (n:=8) (m:=xs.length) h40 ?_
 refine sT (axv h41) (And.intro h43 (And.intro h44 ?_))
 exact DU (n:=2) (m:=(BM h all xs).length) h42 (And.intro hp.symm hR)
noncomputable def tHB:au:=fun args I=>match args,I with
 | [.ag [.i _ mg,.i _ pn,.i _ sb,.b c0,.b c1,.b c2,.b c3,.b c4,.b c5,.b c6,.b c7,.b c8,.b c9,.b sY,.i _ op],.c (.l _ xs)],[]=>
   .aF (args=[.ag (Hx.nc ⟨mg,pn,sb,c0,c1,c2,c3,c4,c5,c6,c7,c8,c9,sY,op⟩),.c (.l .u8 xs)]∧right mg pn sb∧xs.length=32) (.ret (Hs (.l .u8 (RV ⟨mg,pn,sb,c0,c1,c2,c3,c4,c5,c6,c7,c8,c9,sY,op⟩ xs)) 0))
 | _,_=>.fail
attribute [local irreducible] XH in
theorem kHB:Known prog GL 40 tHB:=by
 refine aq'.less fun args I R h=>?_
 unfold tHB at h
 split at h
 case h_2=>exact h.elim
 rename_i _ mg _ pn _ sb c0 c1 c2 c3 c4 c5 c6 c7 c8 c9 sY _ op _ xs
 obtain ⟨⟨h1,hr,hl⟩,h⟩:=h
 rw [h1]
 refine (aJ.of_eq (XI ⟨mg,pn,sb,c0,c1,c2,c3,c4,c5,c6,c7,c8,c9,sY,op⟩ xs R) ?_).out
 unfold hbT
 exact sT (axv hr.1.1) (sT (axv hr.1.2) (sT (axv hr.2.1.1) (sT (axv hr.2.1.2) (sT (axv hr.2.2.1) (sF (by rw [Bool.not_eq_false',beq_iff_eq]; exact hr.2.2.2) (sF (by rw [bne_eq_false_iff_eq]; omega) ⟨rfl,ak6 hr hl h⟩))))))
def adx:List Int:=[0,1,2,35,153,255,26,16]
def Ks:List Int:=[0,1,2,16255]
def BO (b:Int):Int:=adx.getD (b % 8).toNat 0
def Ht (c:Int):Int:=Ks.getD (c % 4).toNat 0
def i83 (n:Int) (l:Nat) (A:Prop):Prop:=af (decide (0<=n)) (af (decide (n<(l:Int))) (af (decide (0+n.toNat<l)) A False) False) False
theorem ady (a b c:Int) (R:Out->Prop):(XF [.c (.i .i64 a),.c (.i .i64 b),.c (.i .i64 c)] []).run R =
 (((0:Int)<3∧(3:Int)<4611686018427387904)∧(((0:Int)<8∧(8:Int)<4611686018427387904)∧i83 (b % 8) 8 (((0:Int)<4∧(4:Int)<4611686018427387904)∧i83 (c % 4) 4
   (R ⟨.v (.ag [.i .i64 (IntKind.i64.wrap (a % 3+1)),.i .i64 (adx.getD (0+(b % 8).toNat) 0),.i .i64 (Ks.getD (0+(c % 4).toNat) 0)]),[]⟩)))):=by kernel_rfl
noncomputable def oPl (a b c:Int):Out:=⟨.v (.ag [.i .i64 (a % 3+1),.i .i64 (BO b),.i .i64 (Ht c)]),[]⟩
noncomputable def tPl:au:=fun args I=>match args,I with
 | [.c (.i _ a),.c (.i _ b),.c (.i _ c)],[]=>.aF (args=[.c (.i .i64 a),.c (.i .i64 b),.c (.i .i64 c)]) (.ret (oPl a b c))
 | _,_=>.fail
theorem XK {n:Int} {l:Nat} {A:Prop} (h:0<=n∧n<(l:Int)) (hA:A):i83 n l A:=sT (axv h.1) (sT (axv h.2) (sT (axv (by omega)) hA))
attribute [local irreducible] XF in
theorem kPl:Known prog GL 22 tPl:=by
 refine aq5.less fun args I R h=>?_
 unfold tPl at h
 split at h
 case h_2=>exact h.elim
 rename_i _ a _ b _ c
 obtain ⟨h1,h⟩:=h
 rw [h1]
 refine (aJ.of_eq (ady a b c R) ⟨⟨by decide,by decide⟩,⟨by decide,by decide⟩,XK ⟨by omega,by show b % 8<8; omega⟩ ⟨⟨by decide,by decide⟩,XK ⟨by omega,by show c % 4<4; omega⟩ ?_⟩⟩).out
 have hw:IntKind.i64.wrap (a % 3+1)=a % 3+1:=by rw [ay']; omega
 rw [hw,Nat.zero_add,Nat.zero_add]
 exact h
theorem ak7 (b:Int):0<=BO b∧BO b<=255:=by
 have key:∀ n<8,0<=adx.getD n 0∧adx.getD n 0<=255:=by decide
 exact key _ (by omega)
theorem zl (a b c:Int):right (a % 3+1) (BO b) (Ht c):=by
 have key:∀ n<4,0<=Ks.getD n 0∧bits .andNot .i64 (Ks.getD n 0) 16255=0:=by decide +kernel
 have h:=key (c % 4).toNat (by omega)
 exact ⟨⟨by omega,by omega⟩,ak7 b,h.1,h.2⟩
noncomputable abbrev adz:=f12
noncomputable def BF:au:=fun args I=>aD prog GL (fun _=>ay1) [] f43 args I
theorem MR:Known prog GL 43 BF:=ah func43 rfl (by kernel_rfl) mixed az (by kernel_rfl)
structure Dv where
 k:Int
 aR:Int
 pg:Int
 sb:Int
 n:Int
 L:List Int
 T:List Int
 W:List Int
 B:List Int
def Dv.nv (d:Dv):NV:=.ag [.i .i64 d.k,.i .i64 d.aR,.i .i64 d.pg,.i .i64 d.sb,.i .i64 d.n,.l .i64 d.L,.l .u8 d.T,.l .u8 d.W,.l .i64 d.B]
noncomputable def zm (n:Int) (k:Nat):Bool:=bits .and .i64 (aX .i64 n (azi k)) 1==1
noncomputable def Kt (d:Dv):Hx:=⟨d.aR % 3+1,BO d.pg,Ht d.sb,zm d.n 0,zm d.n 1,zm d.n 2,zm d.n 3,zm d.n 4,zm d.n 5,zm d.n 6,zm d.n 7,zm d.n 8,zm d.n 9,zm d.n 10,0⟩
def plA (d:Dv):Prop:=[NV.c (.i .i64 d.aR),.c (.i .i64 d.pg),.c (.i .i64 d.sb)]=[NV.c (.i .i64 d.aR),.c (.i .i64 d.pg),.c (.i .i64 d.sb)]
def wv (m:Int):Prop:=0<m∧m<4611686018427387904
def odA (T:List Int) (n:Int):Prop:=[NV.c (.l .u8 T),.c (.i .i64 n)]=[NV.c (.l .u8 T),.c (.i .i64 n)]∧0<n∧n<=100
noncomputable def opt (n sb:Int):Int:=bits .or .i64 (bH .i64 (n % 16) 10) (IntKind.i64.wrap ((sb % 5).tdiv 4))
noncomputable def trR (v:Int):List Sc:=[.i (bits .and .i64 v 63),.i (bits .and .i64 (aX .i64 v 6) 31),.i (bits .and .i64 (aX .i64 v 11) 127)]
noncomputable def trO (n sb:Int):List (List Sc):=trR (opt n sb)::axx 12 [.i 0,.i 0,.i 0]
noncomputable def cdO (pg:Int):Int:=IntKind.i64.wrap (IntKind.i64.wrap ((pg % 3).tdiv 2) * 3)
noncomputable def QQ (mg row cd:Int) (rows:List (List Sc)):List Int:=An mg row::Gz row::ts.LTg cd rows
theorem DV (pg:Int):0<=cdO pg∧cdO pg<=3:=by
 have key:∀ n<3,0<=IntKind.i64.wrap (IntKind.i64.wrap ((azi n).tdiv 2) * 3)∧IntKind.i64.wrap (IntKind.i64.wrap ((azi n).tdiv 2) * 3)<=3:=by decide +kernel
 have h:=key (pg % 3).toNat (by omega)
 have e:azi (pg % 3).toNat=pg % 3:=by show (((pg % 3).toNat:Nat):Int)=pg % 3; omega
 rw [e] at h
 exact h
theorem w8 {mg row cd:Int} (hm:1<=mg∧mg<=8) (hc:0<=cd∧cd<=3) (hr:row=28∨row=29∨row=26):ts.n0 mg row cd=true:=by
 unfold ts.n0
 rw [axv (show 1<=mg∧mg<=8∧0<=cd∧cd<=15 from ⟨hm.1,hm.2,hc.1,by omega⟩)]
 rcases hr with rfl | rfl | rfl <;> rfl
def Dv.fc (d:Dv):List FC:=[.i d.k,.i d.aR,.i d.pg,.i d.sb,.i d.n,.is d.L,.is d.T,.is d.W,.is d.B]
def nQ:List Part:=[.i .i64,.i .i64,.i .i64,.i .i64,.i .i64,.l .i64,.l .u8,.l .u8,.l .i64]
def tp (r:List FC):Dv:=⟨(r.getD 0 (.i 0)).n,(r.getD 1 (.i 0)).n,(r.getD 2 (.i 0)).n,(r.getD 3 (.i 0)).n,(r.getD 4 (.i 0)).n,(r.getD 5 (.i 0)).li,(r.getD 6 (.i 0)).li,(r.getD 7 (.i 0)).li,(r.getD 8 (.i 0)).li⟩
theorem adA (d:Dv):tp d.fc=d:=rfl
end bm
namespace ls
open Go Go.Nx pk ln hd lb
noncomputable def px:au:=fun args I=>aD prog GL (fun _=>ay1) [] f92 args I
theorem zk:Known prog GL 92 px:=ah func92 rfl (by kernel_rfl) mixed az (by kernel_rfl)
noncomputable def mq:FuncId->Option au:=aE [(94,mf)]
theorem rG:∀ f T,mq f=some T->Known prog GL f T:=(aq.cons (bX vO) .nil).get
noncomputable def mr:au:=fun args I=>aD prog GL mq [] f93 args I
theorem uM:Known prog GL 93 mr:=ah func93 rfl (by kernel_rfl) mixed rG (by kernel_rfl)
noncomputable def mh:FuncId->Option au:=aE [(94,mf)]
theorem rA:∀ f T,mh f=some T->Known prog GL f T:=(aq.cons (bX vO) .nil).get
noncomputable def iQ:au:=fun args I=>aD prog GL mh [] f42 args I
theorem mj:Known prog GL 42 iQ:=ah func42 rfl (by kernel_rfl) mixed rA (by kernel_rfl)
theorem pz {a b:Bool} {A B:Prop} (h:af (a&&b) A B) {C:Prop} (hC:a=true->af b A B->C):af (!a) B C:=by
 cases a with
 | true=>exact cm rfl (hC rfl h)
 | false=>exact bz rfl h
theorem XL {a:Bool} {A B C:Prop} (h:af a A B) (hC:a=true->A->C):af (!a) B C:=by
 cases a with
 | true=>exact cm rfl (hC rfl h)
 | false=>exact bz rfl h
noncomputable def dC (m p s:Int):Bool:=decide (m >= 1)&&(decide (m<=8)&&(decide (p >= 0)&&(decide (p<=255)&&(decide (s >= 0)&&(bits .andNot .i64 s 16255==0)))))
theorem Ku (m p s:Int) (R:Out->Prop):(px [.ag [.i .i64 m,.i .i64 p,.i .i64 s]] []).run R =
 af (decide (m >= 1)) (af (decide (m<=8)) (af (decide (p >= 0)) (af (decide (p<=255)) (af (decide (s >= 0)) (R (oB (bits .andNot .i64 s 16255==0))) (R (oB false))) (R (oB false))) (R (oB false))) (R (oB false))) (R (oB false)):=by kernel_rfl
noncomputable def w9:au:=fun args I=>match args,I with
 | [.ag [.i .i64 m,.i .i64 p,.i .i64 s]],[]=>.ret (oB (dC m p s))
 | _,_=>.fail
theorem Ns:Known prog GL 92 w9:=by
 refine zk.less fun args I R h=>aJ.out ?_
 unfold w9 at h
 split at h
 case h_2=>exact h.elim
 rename_i m p s
 have h2:R (oB (dC m p s)):=h
 clear h
 refine aJ.of_eq (Ku m p s R) ?_
 have a1:=sZ (R:=fun b=>R (oB b)) h2
 exact wY a1 fun a1=>wY (sZ (R:=fun b=>R (oB b)) a1) fun a1=>wY (sZ (R:=fun b=>R (oB b)) a1) fun a1=>wY (sZ (R:=fun b=>R (oB b)) a1) fun a1=>sZ (R:=fun b=>R (oB b)) a1
noncomputable def Nt (p s b:Int):List Int:=[put (aI p 15),put (aX .i64 p 4),put (aI s 15),put (nb3 s (aI b 1)),put (nb4 s),put (nb5 s (aX .i64 b 1))]
def eZ (n:Int):Prop:=0<=n∧n<16
theorem Hu (p s b:Int) (R:Out->Prop):(mr [.c (.i .i64 p),.c (.i .i64 s),.c (.i .i64 b)] []).run R =
 (eZ (aI p 15)∧(eZ (aX .i64 p 4)∧(eZ (aI s 15)∧(eZ (nb3 s (aI b 1))∧(eZ (nb4 s)∧(eZ (nb5 s (aX .i64 b 1))∧R ⟨.v (.c (.h 0 0 6)),[some ⟨1,5,.ints .u8 (Nt p s b)⟩]⟩)))))):=by kernel_rfl
noncomputable def tq:au:=fun args I=>match args,I with
 | [.c (.i .i64 p),.c (.i .i64 s),.c (.i .i64 b)],[]=>.aF (0<=p∧p<=255∧0<=b∧b<8) (.ret ⟨.v (.c (.h 0 0 6)),[some ⟨1,5,.ints .u8 (Nt p s b)⟩]⟩)
 | _,_=>.fail
theorem Hv:Known prog GL 93 tq:=by
 refine uM.less fun args I R h=>aJ.out ?_
 unfold tq at h
 split at h
 case h_2=>exact h.elim
 rename_i p s b
 have h1:=h.1
 have h2:=h.2
 clear h
 refine aJ.of_eq (Hu p s b R) ⟨?_,?_,?_,?_,?_,?_,h2⟩
 ·rw [GG]; exact ⟨by omega,by omega⟩
 ·rw [ajR]; exact ⟨by omega,by omega⟩
 ·rw [GG]; exact ⟨by omega,by omega⟩
 ·rw [ap',UW _ _ (by omega)]; exact ⟨by omega,by omega⟩
 ·rw [UY]; exact ⟨by omega,by omega⟩
 ·rw [aci,UX _ _ (by omega)]; exact ⟨by omega,by omega⟩
noncomputable def uN:FuncId->Option au:=aE [(94,mf),(92,w9),(93,tq),(42,iQ)]
theorem zn:∀ f T,uN f=some T->Known prog GL f T:=(aq.cons (bX vO) (.cons Ns (.cons Hv (.cons mj .nil)))).get
noncomputable def BP:Cx:={P:=prog,con:=uN,glob:=GL,m:=0,loops:=[]}
noncomputable def uO:au:=fun args I=>if I.length=0 then aD prog GL uN [(0,[0,3,6,10,11],cF BP 0 [0,3,6,10,11] [0,3,8,9,10] (ae f45 0) 7)] f45 args I else .fail
theorem QR:Known prog GL 45 uO:=av 0 func45 rfl (by kernel_rfl) mixed zn (aM.one (id:=0) (body:=ae f45 0) (by kernel_rfl) rfl (bL (X:=BP) zn mixed (aM.none (by kernel_rfl)) [0,3,6,10,11] [0,3,8,9,10] 7))
def mw:Out:=⟨.tu [.c .sn,.c (.i .i64 101)],[]⟩
noncomputable def zO (aR m:Int):Int:=bits .xor .i64 (aR.tmod 8) (m.tmod 8)
noncomputable def zo (aR:Int):Int:=bits .or .i64 (aR.tmod 8) 8
noncomputable def rlN (aR code zP m0 p0 s0 m1 p1 s1 m2 p2 s2 m3 p3 s3 m4 p4 s4 m5 p5 s5:Int):List Int:=put code::(Nt p0 s0 (zO aR m0)++(Nt p1 s1 (zO aR m1)++(Nt p2 s2 (zO aR m2)++(Nt p3 s3 (zO aR m3)++(Nt p4 s4 (zO aR m4)++(Nt p5 s5 (zO aR m5)++[put zP,0,0]))))))
theorem DW (aR code zP m0 p0 s0 m1 p1 s1 m2 p2 s2 m3 p3 s3 m4 p4 s4 m5 p5 s5:Int) (R:Out->Prop):(uO [.c (.i .i64 aR),.c (.i .i64 code),.ag [.i .i64 m0,.i .i64 p0,.i .i64 s0,.i .i64 m1,.i .i64 p1,.i .i64 s1,.i .i64 m2,.i .i64 p2,.i .i64 s2,.i .i64 m3,.i .i64 p3,.i .i64 s3,.i .i64 m4,.i .i64 p4,.i .i64 s4,.i .i64 m5,.i .i64 p5,.i .i64 s5],.c (.i .i64 zP)] []).run R =
 af (decide (aR<1)) (R mw) (af (decide (aR > 8)) (R mw) (af (decide (code<0)) (R mw) (af (decide (code > 3)) (R mw) (af (decide (zP<0)) (R mw) (af (decide (zP > 15)) (R mw) (eZ code∧(af (!dC m0 p0 s0) (R mw) ((0<=p0∧p0<=255∧0<=zO aR m0∧zO aR m0<8)∧(af (!dC m1 p1 s1) (R mw) ((0<=p1∧p1<=255∧0<=zO aR m1∧zO aR m1<8)∧(af (!dC m2 p2 s2) (R mw) ((0<=p2∧p2<=255∧0<=zO aR m2∧zO aR m2<8)∧(af (!dC m3 p3 s3) (R mw) ((0<=p3∧p3<=255∧0<=zO aR m3∧zO aR m3<8)∧(af (!dC m4 p4 s4) (R mw) ((0<=p4∧p4<=255∧0<=zO aR m4∧zO aR m4<8)∧(af (!dC m5 p5 s5) (R mw) ((0<=p5∧p5<=255∧0<=zO aR m5∧zO aR m5<8)∧(eZ zP∧(eZ (zo aR)∧(eZ 13∧R ⟨.tu [.c (.h 0 0 42),.c (.i .i64 0)],[some ⟨1,5,.ints .u8 (put (zo aR)::put 13::rlN aR code zP m0 p0 s0 m1 p1 s1 m2 p2 s2 m3 p3 s3 m4 p4 s4 m5 p5 s5)⟩]⟩))))))))))))))))))))):=by kernel_rfl
noncomputable def okR (aR code zP m0 p0 s0 m1 p1 s1 m2 p2 s2 m3 p3 s3 m4 p4 s4 m5 p5 s5:Int):Bool:=decide (1<=aR∧aR<=8∧0<=code∧code<=3∧0<=zP∧zP<=15)&&(dC m0 p0 s0&&(dC m1 p1 s1&&(dC m2 p2 s2&&(dC m3 p3 s3&&(dC m4 p4 s4&&(dC m5 p5 s5))))))
noncomputable def oRB (aR code zP m0 p0 s0 m1 p1 s1 m2 p2 s2 m3 p3 s3 m4 p4 s4 m5 p5 s5:Int):Out:=⟨.tu [.c (.h 0 0 42),.c (.i .i64 0)],[some ⟨1,5,.ints .u8 (put (zo aR)::put 13::rlN aR code zP m0 p0 s0 m1 p1 s1 m2 p2 s2 m3 p3 s3 m4 p4 s4 m5 p5 s5)⟩]⟩
noncomputable def adB:au:=fun args I=>match args,I with
 | [.c (.i .i64 aR),.c (.i .i64 code),.ag [.i .i64 m0,.i .i64 p0,.i .i64 s0,.i .i64 m1,.i .i64 p1,.i .i64 s1,.i .i64 m2,.i .i64 p2,.i .i64 s2,.i .i64 m3,.i .i64 p3,.i .i64 s3,.i .i64 m4,.i .i64 p4,.i .i64 s4,.i .i64 m5,.i .i64 p5,.i .i64 s5],.c (.i .i64 zP)],[]=>.br (okR aR code zP m0 p0 s0 m1 p1 s1 m2 p2 s2 m3 p3 s3 m4 p4 s4 m5 p5 s5) (.ret (oRB aR code zP m0 p0 s0 m1 p1 s1 m2 p2 s2 m3 p3 s3 m4 p4 s4 m5 p5 s5)) (.ret mw)
 | _,_=>.fail
theorem ara (mg m:Int):0<=xM mg m∧xM mg m<8:=by
 have e:xM mg m=bits .xor .i64 mg m % 8:=cB _ 3 (by decide)
 rw [e]
 omega
theorem adC:∀ g<8,∀ m<8,zO (azi g+1) (azi m+1)=xM (azi g+1) (azi m+1):=by decide +kernel
theorem ak8 (mg m:Int) (hg:1<=mg∧mg<=8) (hm:1<=m∧m<=8):zO mg m=xM mg m:=by
 have:=adC (mg - 1).toNat (by omega) (m - 1).toNat (by omega)
 have e1:azi (mg - 1).toNat+1=mg:=by show (((mg - 1).toNat:Nat):Int)+1=mg; omega
 have e2:azi (m - 1).toNat+1=m:=by show (((m - 1).toNat:Nat):Int)+1=m; omega
 rwa [e1,e2] at this
theorem XM:∀ g<8,0<=zo (azi g+1)∧zo (azi g+1)<16∧put (zo (azi g+1))=An (azi g+1) 27:=by decide +kernel
theorem adD (mg:Int) (hg:1<=mg∧mg<=8):eZ (zo mg)∧put (zo mg)=An mg 27:=by
 have:=XM (mg - 1).toNat (by omega)
 have e1:azi (mg - 1).toNat+1=mg:=by show (((mg - 1).toNat:Nat):Int)+1=mg; omega
 rw [e1] at this
 exact ⟨⟨this.1,this.2.1⟩,this.2.2⟩
theorem Hw {m p s:Int} (h:dC m p s=true):(1<=m∧m<=8)∧(0<=p∧p<=255):=by
 unfold dC at h
 simp only [Bool.and_eq_true,decide_eq_true_eq] at h
 omega
theorem BQ {aR m p s:Int} (hm:1<=aR∧aR<=8) (h:dC m p s=true):0<=p∧p<=255∧0<=zO aR m∧zO aR m<8:=by
 have hr:=Hw h
 rw [ak8 aR m hm hr.1]
 have hx:=ara aR m
 omega
theorem ak9 {aR code zP m0 p0 s0 m1 p1 s1 m2 p2 s2 m3 p3 s3 m4 p4 s4 m5 p5 s5:Int} {R:Out->Prop} (h:af (okR aR code zP m0 p0 s0 m1 p1 s1 m2 p2 s2 m3 p3 s3 m4 p4 s4 m5 p5 s5) (R (oRB aR code zP m0 p0 s0 m1 p1 s1 m2 p2 s2 m3 p3 s3 m4 p4 s4 m5 p5 s5)) (R mw)):aJ ((uO [.c (.i .i64 aR),.c (.i .i64 code),.ag [.i .i64 m0,.i .i64 p0,.i .i64 s0,.i .i64 m1,.i .i64 p1,.i .i64 s1,.i .i64 m2,.i .i64 p2,.i .i64 s2,.i .i64 m3,.i .i64 p3,.i .i64 s3,.i .i64 m4,.i .i64 p4,.i .i64 s4,.i .i64 m5,.i .i64 p5,.i .i64 s5],.c (.i .i64 zP)] []).run R):=by
 refine aJ.of_eq (DW aR code zP m0 p0 s0 m1 p1 s1 m2 p2 s2 m3 p3 s3 m4 p4 s4 m5 p5 s5 R) ?_
 unfold okR at h
 by_cases hc:1<=aR∧aR<=8∧0<=code∧code<=3∧0<=zP∧zP<=15
 ·rw [dT hc,Bool.true_and] at h
  have hm:1<=aR∧aR<=8:=⟨hc.1,hc.2.1⟩
  refine cm (dF (by omega)) (cm (dF (by omega)) (cm (dF (by omega)) (cm (dF (by omega)) (cm (dF (by omega)) (cm (dF (by omega)) ⟨⟨by omega,by omega⟩,?_⟩)))))
  exact pz h fun hr h=>⟨BQ hm hr,pz h fun hr h=>⟨BQ hm hr,pz h fun hr h=>⟨BQ hm hr,pz h fun hr h=>⟨BQ hm hr,pz h fun hr h=>⟨BQ hm hr,XL h fun hr h=>⟨BQ hm hr,⟨by omega,by omega⟩,(adD aR hm).1,⟨by decide,by decide⟩,h⟩⟩⟩⟩⟩⟩
 ·rw [dF hc,Bool.false_and] at h
  have h:R mw:=h
  refine dW (fun _=>h) fun h1=>dW (fun _=>h) fun h2=>dW (fun _=>h) fun h3=>dW (fun _=>h) fun h4=>dW (fun _=>h) fun h5=>dW (fun _=>h) fun h6=>?_
  exact (hc ⟨by omega,by omega,by omega,by omega,by omega,by omega⟩).elim
theorem arb:Known prog GL 45 adB:=by
 refine QR.less fun args I R h=>aJ.out ?_
 unfold adB at h
 split at h
 case h_2=>exact h.elim
 exact ak9 h
end ls
namespace sv
open Go Go.Nx pk ln hd lb
theorem byT {x:Int} (h:0<=x∧x<256):∃ m,m<256∧x=azi m:=⟨x.toNat,by omega,by show x=((x.toNat:Nat):Int); omega⟩
noncomputable def zf:FuncId->Option au:=aE [(135,fP.qE)]
theorem DQ:∀ f T,zf f=some T->Known prog GL f T:=(aq.cons (bX fP.yY) .nil).get
noncomputable def zg:au:=fun args I=>aD prog GL zf [] f136 args I
theorem Ko:Known prog GL 136 zg:=ah func136 rfl (by kernel_rfl) mixed DQ (by kernel_rfl)
theorem uL (b:Int) (R:Out->Prop):(zg [.c (.i .u8 b)] []).run R=((0<=IntKind.i64.wrap b∧IntKind.i64.wrap b<9223372036854775808)∧R (oB ((fP.bl (IntKind.i64.wrap b).toNat:Int).tmod 2==1))):=by kernel_rfl
theorem zh:∀ m<256,fP.par m 8=BK (azi m):=by decide +kernel
noncomputable def zi:au:=fun args I=>match args,I with
 | [.c (.i .u8 b)],[]=>.aF (0<=b∧b<256) (.ret (oB (BK b)))
 | _,_=>.fail
theorem DR {b:Int} (h:0<=b∧b<256):((fP.bl (IntKind.i64.wrap b).toNat:Int).tmod 2==1)=BK b:=by
 obtain ⟨m,hm,rfl⟩:=byT h
 have hw:IntKind.i64.wrap (azi m)=azi m:=by rw [ay']; show ((m:Int)+_) % _ - _=(m:Int); omega
 rw [hw,show (azi m).toNat=m from rfl,<- zh m hm]
 have hp:=fP.y4 8 m (by omega)
 rw [Int.tmod_eq_emod_of_nonneg (by omega)]
 cases h2:fP.par m 8 with
 | true=>
   rw [h2] at hp
   have hp:fP.bl m % 2=1:=hp
   rw [beq_iff_eq]
   omega
 | false=>
   rw [h2] at hp
   have hp:fP.bl m % 2=0:=hp
   rw [beq_eq_false_iff_ne]
   omega
theorem Xw:Known prog GL 136 zi:=by
 refine Ko.less fun args I R h=>aJ.out ?_
 unfold zi at h
 split at h
 case h_2=>exact h.elim
 rename_i b
 have h1:=h.1
 have h2:R (oB (BK b)):=h.2
 clear h
 refine aJ.of_eq (uL b R) ⟨?_,by rw [DR h1]; exact h2⟩
 rw [ay']
 omega
noncomputable def Hp:FuncId->Option au:=aE [(136,zi)]
theorem Kp:∀ f T,Hp f=some T->Known prog GL f T:=(aq.cons Xw .nil).get
noncomputable def Hq:au:=fun args I=>aD prog GL Hp [] f95 args I
theorem Xx:Known prog GL 95 Hq:=ah func95 rfl (by kernel_rfl) mixed Kp (by kernel_rfl)
theorem zj (c:Int) (R:Out->Prop):(Hq [.c (.i .u8 c)] []).run R=((0<=aU c 127∧aU c 127<256)∧af (BK (aU c 127)) (R ⟨.v (.c (.i .u8 (aU c 127))),[]⟩) (R ⟨.v (.c (.i .u8 (oU (aU c 127) 128))),[]⟩)):=by kernel_rfl
theorem Nj:Known prog GL 95 Kc:=by
 refine Xx.less fun args I R h=>aJ.out ?_
 unfold Kc at h
 split at h
 case h_2=>exact h.elim
 rename_i c
 have h2:R ⟨.v (.c (.i .u8 (y9 c))),[]⟩:=h
 clear h
 refine aJ.of_eq (zj c R) ⟨Ww _ _,?_⟩
 unfold y9 at h2
 cases hc:BK (aU c 127) with
 | true=>rw [hc] at h2; exact bz rfl h2
 | false=>rw [hc] at h2; exact cm rfl h2
noncomputable def Nu:Cx:={P:=prog,con:=(fun _=>ay1),glob:=GL,m:=0,loops:=[]}
noncomputable def Nv:au:=fun args I=>if I.length=0 then aD prog GL (fun _=>ay1) [(0,[0,3,4],cF Nu 0 [0,3,4] [3] (ae f98 0) 9)] f98 args I else .fail
theorem adE:Known prog GL 98 Nv:=av 0 func98 rfl (by kernel_rfl) mixed az (aM.one (id:=0) (body:=ae f98 0) (by kernel_rfl) rfl (bL (X:=Nu) az mixed (aM.none (by kernel_rfl)) [0,3,4] [3] 9))
noncomputable def rvE (b:Int):Int:=oU (oU (oU (oU (oU (oU (oU (oU (0) (bH .u8 (aU (aX .u8 b 0) 1) 7)) (bH .u8 (aU (aX .u8 b 1) 1) 6)) (bH .u8 (aU (aX .u8 b 2) 1) 5)) (bH .u8 (aU (aX .u8 b 3) 1) 4)) (bH .u8 (aU (aX .u8 b 4) 1) 3)) (bH .u8 (aU (aX .u8 b 5) 1) 2)) (bH .u8 (aU (aX .u8 b 6) 1) 1)) (bH .u8 (aU (aX .u8 b 7) 1) 0)
theorem Kv (b:Int) (R:Out->Prop):(Nv [.c (.i .u8 b)] []).run R=R ⟨.v (.c (.i .u8 (rvE b))),[]⟩:=by kernel_rfl
theorem adF:∀ m<256,rvE (azi m)=rv (azi m):=by decide +kernel
theorem ak':Known prog GL 98 qH:=by
 refine adE.less fun args I R h=>aJ.out ?_
 unfold qH at h
 split at h
 case h_2=>exact h.elim
 rename_i b
 have h1:=h.1
 have h2:R ⟨.v (.c (.i .u8 (rv b))),[]⟩:=h.2
 clear h
 refine aJ.of_eq (Kv b R) ?_
 obtain ⟨m,hm,rfl⟩:=byT h1
 rw [adF m hm]
 exact h2
noncomputable def XN:au:=fun args I=>aD prog GL (fun _=>ay1) [] f99 args I
theorem ala:Known prog GL 99 XN:=ah func99 rfl (by kernel_rfl) mixed az (by kernel_rfl)
noncomputable def XO (x:Int):Int:=Il (IntKind.i64.wrap (bits .or .i64 (bH .i64 (IntKind.i64.wrap ((IntKind.i64.wrap (x.tdiv 10)).tmod 10+1)) 4) (x.tmod 10)+1))
noncomputable def rIf (a b e n o d h m s:Int) (z:ByteArray):Option aG:=some ⟨10,117,.cells (Kf a b e n o d h m s z)⟩
noncomputable abbrev fIB:=f46
noncomputable def arc:FuncId->Option au:=aE [(95,Kc)]
theorem ard:∀ f T,arc f=some T->Known prog GL f T:=(aq.cons Nj .nil).get
noncomputable def arf:Cx:={P:=prog,con:=arc,glob:=GL,m:=0,loops:=[]}
noncomputable def rIu (A:List Int):Option aG:=some ⟨1,5,.ints .u8 A⟩
noncomputable def sIb (a b e n o d h m s:Int) (z:ByteArray) (A:List Int) (q:Nat) (k:Int):St:={fr:=frame 167 [(1,.v (.c (.p 0 0 0))),(5,.v (.c (.h 1 0 q))),(6,.v (.c (.i .i64 k)))],rg:=[rIf a b e n o d h m s z,rIu A]}
noncomputable def dIb (A:List Int) (q:Nat):St:={fr:=frame 167 [(5,.v (.c (.h 0 0 q)))],rg:=[rIu A]}
noncomputable def xIb (A:List Int) (q:Nat):St:={fr:=frame 167 [(2,.v (.c .sn)),(3,.v (.c (.i .i64 101))),(5,.v (.c (.h 0 0 q)))],rg:=[rIu A]}
noncomputable def ahr (a b e n o d h m s:Int) (z:ByteArray) (A:List Int) (q:Nat) (k c:Int) (R:RO->Prop):Prop:=af (decide (c<32)) (R (.done .ret (xIb A q))) (af (decide (c > 127)) (R (.done .ret (xIb A q))) (aqI q A (R (.next (sIb a b e n o d h m s z (azo q (azs 0 A)++[y9 c]) (q+1) (IntKind.i64.wrap (k+1)))))))
theorem XP (a b e n o d h m s:Int) (z:ByteArray) (A:List Int) (q:Nat) (k:Int) (R:RO->Prop):(bu arf 0 [1,5,6] [2,3,5] (ae fIB 0) (sIb a b e n o d h m s z A q k)).run R =
 af (decide (k<20)) (af (decide (k<(z.size:Int))) (af (decide (0<=k)) (af (decide (k<(z.size:Int))) (ahr a b e n o d h m s z A q k (cA z k.toNat) R) False) False) (ahr a b e n o d h m s z A q k 32 R)) (R (.done .normal (dIb A q))):=by kernel_rfl
noncomputable def Im (z:ByteArray) (k r:Nat):List Int:=(List.range r).map fun j=>y9 (RU z (k+j))
theorem Hy (z:ByteArray) (k r:Nat):Im z k (r+1)=y9 (RU z k)::Im z (k+1) r:=by
 unfold Im
 rw [List.range_succ_eq_map,List.map_cons,List.map_map]
 congr 1
 refine List.map_congr_left fun j _=>?_
 show y9 (RU z (k+(j+1)))=y9 (RU z (k+1+j))
 rw [show k+(j+1)=k+1+j by omega]
theorem XQ (z:ByteArray):∀ (r k:Nat),(fst z r k).isNone=false->k<=(fst z r k).getD 0
 | 0,_,h=>by cases h
 | r+1,k,h=>by
   have e:fst z (r+1) k=bif DL z k then some k else fst z r (k+1):=rfl
   rw [e] at h ⊢
   cases hb:DL z k with
   | true=>exact Nat.le_refl _
   | false=>
     rw [hb] at h
     have:=XQ z r (k+1) h
     show k<=(fst z r (k+1)).getD 0
     omega
noncomputable def pIb:List gw:=FY 167 [(1,.p 0 0 0),(5,.h 1 0),(6,.i .i64)]
def adG:List lU:=[.cells 10 117 [.i .i64,.i .i64,.i .i64,.i .i64,.i .i64,.i .i64,.i .i64,.i .i64,.i .i64,.s],.ints 1 5 .u8]
noncomputable def lIb:List cE × List (List cE)->Tr (aj × St):=fun x=>match x with
 | ([.n q,.i k],[[.i _,.i _,.i _,.i _,.i _,.i _,.i _,.i _,.i _,.s z],[.l A]])=>.aF (A.length=q∧(q:Int)<1000+k∧0<=k∧k<=20) (.br (fst z (20 - k.toNat) k.toNat).isNone (.ret (.normal,dIb (A++Im z k.toNat (20 - k.toNat)) (q+(20 - k.toNat)))) (.ret (.ret,xIb (A++Im z k.toNat ((fst z (20 - k.toNat) k.toNat).getD 0 - k.toNat)) (q+((fst z (20 - k.toNat) k.toNat).getD 0 - k.toNat)))))
 | _=>.fail
def alb:List cE × List (List cE)->Nat:=fun x=>match x with
 | ([.n _,.i k],_)=>(20 - k).toNat
 | _=>0
theorem ahs (a b e n o d h m s:Int) (z:ByteArray) (A:List Int) (q:Nat) (k:Int):FZ pIb adG ([.n q,.i k],[[.i a,.i b,.i e,.i n,.i o,.i d,.i h,.i m,.i s,.s z],[.l A]])=sIb a b e n o d h m s z A q k:=by kernel_rfl
noncomputable def XR (z:ByteArray) (A:List Int) (q k:Nat) (R:aj × St->Prop):Prop:=af (fst z (20 - k) k).isNone (R (.normal,dIb (A++Im z k (20 - k)) (q+(20 - k)))) (R (.ret,xIb (A++Im z k ((fst z (20 - k) k).getD 0 - k)) (q+((fst z (20 - k) k).getD 0 - k))))
def mIb (A:List Int) (q:Nat) (k:Int):Prop:=A.length=q∧(q:Int)<1000+k∧0<=k∧k<=20
theorem adH {x:List cE × List (List cE)} {R:aj × St->Prop} (hx:(lIb x).run R):∃ (a b e n o d h m s:Int) (z:ByteArray) (A:List Int) (q:Nat) (k:Int),x=([.n q,.i k],[[.i a,.i b,.i e,.i n,.i o,.i d,.i h,.i m,.i s,.s z],[.l A]])∧mIb A q k∧XR z A q k.toNat R:=by
 unfold lIb at hx
 split at hx
 case h_2=>exact hx.elim
 exact ⟨_,_,_,_,_,_,_,_,_,_,_,_,_,rfl,hx.1,hx.2⟩
theorem adI {z:ByteArray} {A:List Int} {q k:Nat} {R:aj × St->Prop} (hk:k<20) (h:XR z A q k R):(DL z k=true->R (.ret,xIb A q))∧(DL z k=false->XR z (A++[y9 (RU z k)]) (q+1) (k+1) R):=by
 unfold XR at h
 obtain ⟨r,hr⟩:∃ r,20 - k=r+1:=⟨20 - k - 1,by omega⟩
 have er:20 - (k+1)=r:=by omega
 rw [hr] at h
 have eu:fst z (r+1) k=bif DL z k then some k else fst z r (k+1):=rfl
 rw [eu] at h
 refine ⟨fun hb=>?_,fun hb=>?_⟩
 ·rw [hb] at h
  have h:R (.ret,xIb (A++Im z k (k - k)) (q+(k - k))):=h
  rw [Nat.sub_self] at h
  have e:A++Im z k 0=A:=ayw A
  rw [e] at h
  exact h
 ·rw [hb] at h
  have h:af (fst z r (k+1)).isNone (R (.normal,dIb (A++Im z k (r+1)) (q+(r+1)))) (R (.ret,xIb (A++Im z k ((fst z r (k+1)).getD 0 - k)) (q+((fst z r (k+1)).getD 0 - k)))):=h
  unfold XR
  rw [er]
  cases hn:(fst z r (k+1)).isNone with
  | true=>
    rw [hn] at h
    have h:R (.normal,dIb (A++Im z k (r+1)) (q+(r+1))):=h
    rw [Hy] at h
    refine bz rfl ?_
    rw [axC,show q+1+r=q+(r+1) by omega]
    exact h
  | false=>
    rw [hn] at h
    have hg:=XQ z r (k+1) hn
    have h:R (.ret,xIb (A++Im z k ((fst z r (k+1)).getD 0 - k)) (q+((fst z r (k+1)).getD 0 - k))):=h
    generalize (fst z r (k+1)).getD 0=j at h hg
    obtain ⟨t,ht⟩:∃ t,j - k=t+1:=⟨j - k - 1,by omega⟩
    rw [ht,Hy] at h
    refine cm rfl ?_
    rw [show j - (k+1)=t by omega,axC,show q+1+t=q+(t+1) by omega]
    exact h
theorem adJ:jL prog GL 0 0 (ae fIB 0) (nW pIb adG lIb):=by
 refine kP (X:=arf) ard mixed (aM.none (by kernel_rfl)) [1,5,6] [2,3,5] _ _ _ alb ?_
 intro x R hx
 obtain ⟨a,b,e,n,o,d,h,m,s,z,A,q,k,rfl,h1,h2⟩:=adH hx
 clear hx
 have hA:=h1.1
 have hq:=h1.2.1
 have Po:=h1.2.2.1
 have hk:=h1.2.2.2
 clear h1
 rw [ahs,XP]
 refine dW (fun ff=>?_) fun tI=>?_
 ·have w2:IntKind.i64.wrap (k+1)=k+1:=by rw [ay']; omega
  have ekn:(k+1).toNat=k.toNat+1:=by omega
  obtain ⟨hb,hg⟩:=adI (k:=k.toNat) (by omega) h2
  have ea:azo q (azs 0 A)=A:=by rw [List.drop_zero,axN (by omega)]
  have go:DL z k.toNat=false->∃ y,sIb a b e n o d h m s z (azo q (azs 0 A)++[y9 (RU z k.toNat)]) (q+1) (IntKind.i64.wrap (k+1))=FZ pIb adG y∧alb y<alb ([.n q,.i k],[[.i a,.i b,.i e,.i n,.i o,.i d,.i h,.i m,.i s,.s z],[.l A]])∧(lIb y).run R:=fun hc=>by
   rw [ea,w2]
   refine ⟨([.n (q+1),.i (k+1)],[[.i a,.i b,.i e,.i n,.i o,.i d,.i h,.i m,.i s,.s z],[.l (A++[y9 (RU z k.toNat)])]]),(ahs ..).symm,by show (20 - (k+1)).toNat<(20 - k).toNat; omega,⟨by rw [axG]; show A.length+1=q+1; omega,?_,by omega,by omega⟩,?_⟩
   ·omega
   ·have:=hg hc
    rw [<- ekn] at this
    exact this
  have app:∀ X:Prop,X->aqI q A X:=fun X hX=>bz (dT (by omega)) (bz (dT (by omega)) (bz (dT (by omega)) hX))
  refine dW (fun hz=>bz (dT Po) (bz (dT hz) ?_)) fun hz=>?_
  ·have ez:RU z k.toNat=cA z k.toNat:=by unfold RU; rw [dT (by omega)]; rfl
   unfold DL at hb go
   rw [ez] at hb go
   exact WE hb fun hc=>app _ (go hc)
  ·have ez:RU z k.toNat=32:=by unfold RU; rw [dF (by omega)]; rfl
   unfold DL at hb go
   rw [ez] at hb go
   exact WE hb fun hc=>app _ (go hc)
 ·have hk2:k.toNat=20:=by omega
  rw [hk2] at h2
  have h2:R (.normal,dIb (A++[]) (q+0)):=h2
  rw [ayw] at h2
  exact h2
noncomputable def aht:FuncId->Option au:=aE [(92,ls.w9),(94,mf),(93,ls.tq),(98,qH),(99,XN),(95,Kc),(42,ls.iQ)]
theorem alc:∀ f T,aht f=some T->Known prog GL f T:=(aq.cons ls.Ns (.cons (bX vO) (.cons ls.Hv (.cons ak' (.cons ala (.cons Nj (.cons ls.mj .nil))))))).get
noncomputable def ahu:au:=fun args I=>if I.length=0 then aD prog GL aht [(0,[1,5,6],nW pIb adG lIb)] f46 args I else .fail
theorem arh:Known prog GL 46 ahu:=av 0 func46 rfl (by kernel_rfl) mixed alc (aM.one (id:=0) (body:=ae f46 0) (by kernel_rfl) rfl adJ)
noncomputable def qJ:Out:=⟨.tu [.c .sn,.c (.i .i64 101)],[]⟩
noncomputable def oIY (L:List Int):Out:=⟨.tu [.c (.h 0 0 42),.c (.i .i64 0)],[some ⟨1,5,.ints .u8 L⟩]⟩
noncomputable def ari (neg:Bool) (n o d h mi s:Int):List Int:=[rv (Il (aX .i64 n 8)),rv (Il n),ofB neg o,Il (IntKind.i64.wrap (IntKind.i64.wrap (d.tdiv 10000)+1)),XO ((IntKind.i64.wrap (d.tdiv 100)).tmod 100),XO (d.tmod 100),XO h,XO mi,XO s,0,0,0,0]
noncomputable def hdR (neg:Bool) (a b e n o d h mi s:Int):List Int:=put 0::(ls.Nt b e (a.tmod 8)++ari neg n o d h mi s)
noncomputable def LR (neg:Bool) (a b e n o d h mi s:Int) (z:ByteArray):List Int:=21::234::(hdR neg a b e n o d h mi s++Im z 0 20)
noncomputable def ibE (neg:Bool) (a b e n o d h mi s:Int) (z:ByteArray) (R:Out->Prop):Prop:=ls.eZ 0∧((0<=b∧b<=255∧0<=a.tmod 8∧a.tmod 8<8)∧(mBy (Il (aX .i64 n 8))∧(mBy (Il n)∧(((hdR neg a b e n o d h mi s).length=20∧((20:Nat):Int)<1000+0∧0<=(0:Int)∧(0:Int)<=20)∧af (fst z 20 0).isNone (ls.eZ 0∧(ls.eZ 15∧R (oIY (LR neg a b e n o d h mi s z)))) (R qJ)))))
theorem XS (a b e n o d h mi s:Int) (z:ByteArray) (R:Out->Prop):(ahu [.ag (Kf a b e n o d h mi s z)] []).run R =
 af (!ls.dC a b e) (R qJ) (af (decide (n<0)) (R qJ) (af (decide (n > 65535)) (R qJ) (af (decide (o < -31)) (R qJ) (af (decide (o > 31)) (R qJ) (af (decide (d<0)) (R qJ) (af (decide (d > 99999)) (R qJ) (af (decide (h<0)) (R qJ) (af (decide (h > 23)) (R qJ) (af (decide (mi<0)) (R qJ) (af (decide (mi > 59)) (R qJ) (af (decide (s<0)) (R qJ) (af (decide (s > 59)) (R qJ) (af (decide ((z.size:Int) > 20)) (R qJ) (af (decide (o<0)) (ibE true a b e n o d h mi s z R) (ibE false a b e n o d h mi s z R))))))))))))))):=by kernel_rfl
noncomputable def XU (a b e n o d h mi s:Int) (z:ByteArray):Bool:=ls.dC a b e&&(!decide (n<0)&&(!decide (n > 65535)&&(!decide (o < -31)&&(!decide (o > 31)&&(!decide (d<0)&&(!decide (d > 99999)&&(!decide (h<0)&&(!decide (h > 23)&&(!decide (mi<0)&&(!decide (mi > 59)&&(!decide (s<0)&&(!decide (s > 59)&&(!decide ((z.size:Int) > 20)&&(fst z 20 0).isNone)))))))))))))
noncomputable def adK:au:=fun args I=>match args,I with
 | [.ag [.i .i64 a,.i .i64 b,.i .i64 e,.i .i64 n,.i .i64 o,.i .i64 d,.i .i64 h,.i .i64 mi,.i .i64 s,.s z]],[]=>.br (XU a b e n o d h mi s z) (.ret (oIY (LR (decide (o<0)) a b e n o d h mi s z))) (.ret qJ)
 | _,_=>.fail
theorem XV {neg:Bool} {a b e n o d h mi s:Int} {z:ByteArray} {R:Out->Prop} (hb:0<=b∧b<=255∧0<=a.tmod 8∧a.tmod 8<8) (hR:af (fst z 20 0).isNone (R (oIY (LR neg a b e n o d h mi s z))) (R qJ)):ibE neg a b e n o d h mi s z R:=by
 refine ⟨⟨by decide,by decide⟩,hb,za _,za _,⟨rfl,by decide,by decide,by decide⟩,?_⟩
 cases hn:(fst z 20 0).isNone with
 | true=>rw [hn] at hR; exact bz rfl ⟨⟨by decide,by decide⟩,⟨by decide,by decide⟩,hR⟩
 | false=>rw [hn] at hR; exact cm rfl hR
theorem ald {a b e n o d h mi s:Int} {z:ByteArray} {R:Out->Prop} (hR:af (XU a b e n o d h mi s z) (R (oIY (LR (decide (o<0)) a b e n o d h mi s z))) (R qJ)) :
  af (!ls.dC a b e) (R qJ) (af (decide (n<0)) (R qJ) (af (decide (n > 65535)) (R qJ) (af (decide (o < -31)) (R qJ) (af (decide (o > 31)) (R qJ) (af (decide (d<0)) (R qJ) (af (decide (d > 99999)) (R qJ) (af (decide (h<0)) (R qJ) (af (decide (h > 23)) (R qJ) (af (decide (mi<0)) (R qJ) (af (decide (mi > 59)) (R qJ) (af (decide (s<0)) (R qJ) (af (decide (s > 59)) (R qJ) (af (decide ((z.size:Int) > 20)) (R qJ) (af (decide (o<0)) (ibE true a b e n o d h mi s z R) (ibE false a b e n o d h mi s z R))))))))))))))):=by
 unfold XU at hR
 cases hr:ls.dC a b e with
 | false=>rw [hr] at hR; exact bz rfl hR
 | true=>
   rw [hr] at hR
   have hp:=ls.Hw hr
   have ht:a.tmod 8=a % 8:=Int.tmod_eq_emod_of_nonneg (by omega)
   have hb:0<=b∧b<=255∧0<=a.tmod 8∧a.tmod 8<8:=by rw [ht]; omega
   refine cm rfl (ml hR fun hR=>ml hR fun hR=>ml hR fun hR=>ml hR fun hR=>ml hR fun hR=>ml hR fun hR=>ml hR fun hR=>ml hR fun hR=>ml hR fun hR=>ml hR fun hR=>ml hR fun hR=>ml hR fun hR=>ml hR fun hR=>?_)
   cases ho:decide (o<0) with
   | true=>rw [ho] at hR; exact bz rfl (XV hb hR)
   | false=>rw [ho] at hR; exact cm rfl (XV hb hR)
theorem arj:Known prog GL 46 adK:=by
 refine arh.less fun args I R h=>aJ.out ?_
 unfold adK at h
 split at h
 case h_2=>exact h.elim
 exact aJ.of_eq (XS _ _ _ _ _ _ _ _ _ _ R) (ald h)
end sv
namespace bh
open bR (sT sF)
open wX (Hx)
open Go Go.Nx pk ln hd lb sv bm
noncomputable abbrev Hz:=f47
noncomputable def XW:Cx:={P:=prog,con:=fun _=>ay1,glob:=[],m:=0,loops:=[]}
noncomputable def XX (xs ys:List Int) (n:Nat) (i:Int):St:={fr:=frame 22 [(0,.v (.c (.l .u8 xs))),(3,.v (.c (.h 0 0 n))),(4,.v (.c (.i .i64 i)))],rg:=[some ⟨1,5,.ints .u8 ys⟩]}
noncomputable def XY (ys:List Int) (n:Nat):St:={fr:=frame 22 [(3,.v (.c (.h 0 0 n)))],rg:=[some ⟨1,5,.ints .u8 ys⟩]}
theorem Kw (xs ys:List Int) (n:Nat) (i:Int) (R:RO->Prop):(bu XW 0 [0,3,4] [3] (ae Hz 0) (XX xs ys n i)).run R =
 af (decide (i<(xs.length:Int))) (af (decide (0<=i)) (af (decide (i<(xs.length:Int))) (af (decide (i.toNat<xs.length)) (af (decide (0+n<=ys.length)) (af (decide ((n+1) * bf prog 5<=140737488355328)) (af (decide (n+1<=9223372036854775807))
  (R (.next (XX xs (azo n (azs 0 ys)++[xs.getD i.toNat 0]) (n+1) (IntKind.i64.wrap (i+1))))) False) False) False) False) False) False) (R (.done .normal (XY ys n))):=by kernel_rfl
noncomputable def ahv:List gw:=FY 22 [(0,.l .u8),(3,.h 0 0),(4,.i .i64)]
def ahw:List lU:=[.ints 1 5 .u8]
noncomputable def XZ:List cE × List (List cE)->Tr (aj × St):=fun a=>match a with
 | ([.l xs,.n n,.i i],[[.l ys]])=>.aF (n=ys.length∧i=(ys.length:Int)∧ys.length<=xs.length∧xs.length<=1000000∧ys=xs.take ys.length) (.ret (.normal,XY xs xs.length))
 | _=>.fail
def ale:List cE × List (List cE)->Nat:=fun a=>match a with
 | ([.l xs,.n _,.i i],_)=>((xs.length:Int) - i).toNat
 | _=>0
theorem QS:jL prog [] 0 0 (ae Hz 0) (nW ahv ahw XZ):=by
 refine kP (X:=XW) az mixed (aM.none (by kernel_rfl)) [0,3,4] [3] _ _ _ ale ?_
 rintro ⟨a,b⟩ R hh
 unfold XZ at hh
 split at hh
 case h_2=>exact hh.elim
 rename_i xs n i ys he
 cases he
 have h1:=hh.1
 have h2:R (.normal,XY xs xs.length):=hh.2
 clear hh
 obtain ⟨rfl,rfl,hl,hm,hy⟩:=h1
 show (bu XW 0 [0,3,4] [3] (ae Hz 0) (XX xs ys ys.length ys.length)).run _
 rw [Kw,JG]
 have et:((ys.length:Nat):Int).toNat=ys.length:=by simp
 rw [et]
 refine dW (fun ff=>?_) fun tI=>?_
 ·have hx:ys.length<xs.length:=by omega
  have hw:IntKind.i64.wrap ((ys.length:Int)+1)=(((ys.length+1:Nat)):Int):=by rw [ay']; omega
  refine bz (dT (by omega)) (bz (dT ff) (bz (dT hx) (bz (dT (by omega)) (bz (dT (by omega)) (bz (dT (by omega)) ?_)))))
  have ey:azo ys.length (azs 0 ys)=ys:=by rw [List.drop_zero,azp]
  have eg:xs.getD ys.length 0=xs[ys.length]:=by rw [axF,axP hx]; rfl
  rw [ey,hw]
  have adL:(ys++[xs.getD ys.length 0]).length=ys.length+1:=by simp
  refine ⟨([.l xs,.n (ys.length+1),.i ((ys.length+1:Nat):Int)],[[.l (ys++[xs.getD ys.length 0])]]),rfl,by show ((xs.length:Int) - ((ys.length+1:Nat):Int)).toNat<((xs.length:Int) - (ys.length:Int)).toNat; omega,⟨adL.symm,by rw [adL],by rw [adL]; omega,hm,?_⟩,h2⟩
  rw [adL,eg,List.take_add_one,<- hy,axP hx]
  rfl
 ·have e:ys.length=xs.length:=by omega
  have e2:ys=xs:=by rw [hy,e,azp]
  rw [e2]
  exact h2
noncomputable def Kx:au:=fun args I=>if I.length=0 then aD prog [] (fun _=>ay1) [(0,[0,3,4],nW ahv ahw XZ)] Hz args I else .fail
theorem alf:Known prog [] 47 Kx:=av 0 func47 rfl (by kernel_rfl) mixed az (aM.one (id:=0) (body:=ae Hz 0) (by kernel_rfl) rfl QS)
theorem QT (xs:List Int) (R:Out->Prop):(Kx [.c (.l .u8 xs)] []).run R =
 af (decide ((xs.length:Int) * ((bf prog 5:Nat):Int)<=140737488355328)) (af (decide ((xs.length:Int)<=9223372036854775807))
  ((0=([]:List Int).length∧(0:Int)=(([]:List Int).length:Int)∧([]:List Int).length<=xs.length∧xs.length<=1000000∧[]=xs.take ([]:List Int).length)∧R (oL xs)) False) False:=by kernel_rfl
noncomputable def Nw:au:=fun args I=>match args,I with
 | [.c (.l .u8 ds)],[]=>.aF (ds.length<=1000000) (.ret (oL ds))
 | _,_=>.fail
theorem adM {xs:List Int} {R:Out->Prop} (h1:xs.length<=1000000) (h2:R (oL xs)):aJ ((Kx [.c (.l .u8 xs)] []).run R):=by
 refine aJ.of_eq (QT xs R) ?_
 rw [JG]
 exact bz (dT (by omega)) (bz (dT (by omega)) ⟨⟨rfl,rfl,azN _,h1,rfl⟩,h2⟩)
theorem ahx:Known prog [] 47 Nw:=by
 refine alf.less fun args I R h=>aJ.out ?_
 unfold Nw at h
 split at h
 case h_2=>exact h.elim
 exact adM h.1 h.2
noncomputable def ark:au:=da [] [0] [(0,0,0,.l .u8 [])] [] 0 Nw
theorem avP:Known prog GL 47 ark:=(bX ahx).soft [] [0] [(0,0,0,.l .u8 [])] [] 0
noncomputable def alg:FuncId->Option au:=aE [(8,num.yF),(22,tPl),(41,Nl),(40,tHB),(42,DS),(43,BF),(44,ts.MZ),(45,ls.adB),(46,adK),(47,ark)]
theorem Ny:∀ f T,alg f=some T->Known prog GL f T:=(aq.cons (bX num.Gb) (.cons kPl (.cons ahl (.cons kHB (.cons Kr (.cons MR (.cons ts.ag4 (.cons ls.arb (.cons arj (.cons avP .nil)))))))))).get
noncomputable def QU:Cx:={P:=prog,con:=alg,glob:=GL,m:=0,loops:=[]}
noncomputable def X0 (d:Dv):aG:=⟨9,36,.cells d.nv.cells⟩
noncomputable def adN (x:Int × Int × Int):aG:=⟨3,45,.cells [.i .i64 x.1,.i .i64 x.2.1,.i .i64 x.2.2]⟩
noncomputable def X1 (rs:List (List Sc)):aG:=⟨3,112,.aA [.i .i64,.i .i64,.i .i64] rs⟩
noncomputable def ouT:Option (List (List Sc) × Nat)->NC
 | none=>.sn
 | some x=>.h 2 0 x.2
noncomputable def arl:Option (List (List Sc) × Nat)->List (Option aG)
 | none=>[]
 | some x=>[some (X1 x.1)]
noncomputable def s3 (d:Dv) (x:Int × Int × Int) (o:Option (List (List Sc) × Nat)) (i:Int):St:={fr:=frame 179 [(1,.v (.c (.p 0 0 0))),(3,.v (.c (.p 1 0 0))),(7,.v (.c (ouT o))),(8,.v (.c (.i .i64 i)))],rg:=some (X0 d)::some (adN x)::arl o}
noncomputable def d3 (d:Dv) (x:Int × Int × Int) (o:Option (List (List Sc) × Nat)):St:={fr:=frame 179 [(1,.v (.c (.p 0 0 0))),(3,.v (.c (.p 1 0 0))),(7,.v (.c (ouT o)))],rg:=some (X0 d)::some (adN x)::arl o}
noncomputable def r3 (s:St):Tr RO:=bu QU 3 [1,3,7,8] [1,3,7] (ae adz 3) s
def RW (m:Nat) (A:Prop):Prop:=af (decide (0+m<=m)) (af (decide ((m+1) * bf prog 112<=140737488355328)) (af (decide (m+1<=9223372036854775807)) A False) False) False
noncomputable def nx3 (d:Dv) (x:Int × Int × Int) (i:Int) (R:RO->Prop) (xs:List (List Sc)) (m:Nat):Prop:=R (.next (s3 d x (some (xs,m)) (IntKind.i64.wrap (i+1))))
theorem avQ (d:Dv) (x:Int × Int × Int) (i:Int) (R:RO->Prop):(r3 (s3 d x none i)).run R =
 af (decide (i<13)) (af (decide (i<(d.L.length:Int))) (qa i d.L.length (nx3 d x i R [trR (d.L.getD i.toNat 0)] 1)) (nx3 d x i R [trR 0] 1)) (R (.done .normal (d3 d x none))):=by kernel_rfl
theorem avR (d:Dv) (x:Int × Int × Int) (i:Int) (xs:List (List Sc)) (R:RO->Prop):(r3 (s3 d x (some (xs,xs.length)) i)).run R =
 af (decide (i<13)) (af (decide (i<(d.L.length:Int))) (qa i d.L.length (RW xs.length (nx3 d x i R (azo xs.length xs++[trR (d.L.getD i.toNat 0)]) (xs.length+1)))) (RW xs.length (nx3 d x i R (azo xs.length xs++[trR 0]) (xs.length+1)))) (R (.done .normal (d3 d x (some (xs,xs.length))))):=by kernel_rfl
noncomputable def DX (L:List Int) (k:Nat):List (List Sc):=(List.range k).map fun j=>trR (L.getD j 0)
theorem DY (L:List Int) (k:Nat):(DX L k).length=k:=by unfold DX; rw [azq,List.length_range]
theorem X2 (L:List Int) (k:Nat):DX L (k+1)=DX L k++[trR (L.getD k 0)]:=by unfold DX; rw [List.range_succ,List.map_append]; rfl
theorem DZ {L:List Int} {k:Nat} (h:¬ k<L.length):L.getD k 0=0:=by
 rw [axF,List.getElem?_eq_none (by omega)]; rfl
noncomputable def oT (L:List Int):Nat->Option (List (List Sc) × Nat)
 | 0=>none
 | k+1=>some (DX L (k+1),k+1)
theorem adO:bf prog 112=24:=by kernel_rfl
theorem rH {m:Nat} {A:Prop} (hm:m<=1000) (h:A):RW m A:=by
 unfold RW
 rw [adO]
 exact sT (axv (by omega)) (sT (axv (by omega)) (sT (axv (by omega)) h))
def arn (s:St):Option (Dv × (Int × Int × Int)):=match s.rg with
 | some ⟨_,_,.cells [.i _ k,.i _ aR,.i _ pg,.i _ sb,.i _ n,.l _ L,.l _ T,.l _ W,.l _ B]⟩::some ⟨_,_,.cells [.i _ m,.i _ p,.i _ t]⟩::_=>some (⟨k,aR,pg,sb,n,L,T,W,B⟩,(m,p,t))
 | _=>none
noncomputable def l3 (s:St):Tr (aj × St):=match arn s with
 | some x=>.aF (s=s3 x.1 x.2 none 0) (.ret (.normal,d3 x.1 x.2 (some (DX x.1.L 13,13))))
 | none=>.fail
structure A3 where
 d:Dv
 x:Int × Int × Int
 k:Nat
noncomputable def h3 (a:A3):St:=s3 a.d a.x (oT a.d.L a.k) (a.k:Int)
def alh (a:A3) (R:aj × St->Prop):Prop:=a.k<=13∧R (.normal,d3 a.d a.x (some (DX a.d.L 13,13)))
def aro (a:A3) (R:aj × St->Prop) (o:RO):Prop:=match o with
 | .next s=>∃ y,s=h3 y∧13 - y.k<13 - a.k∧alh y R
 | .done e s=>R (e,s)
theorem arp (a:A3) (R:aj × St->Prop) (h:alh a R):aJ ((r3 (h3 a)).run (aro a R)):=by
 obtain ⟨d,x,k⟩:=a
 obtain ⟨h1,hR⟩:=h
 simp only at h1 hR
 have hw:IntKind.i64.wrap ((k:Int)+1)=((k+1:Nat):Int):=by rw [ay']; omega
 have nx:∀ xs m,k<13->xs=DX d.L (k+1)->m=k+1->nx3 d x (k:Int) (aro ⟨d,x,k⟩ R) xs m:=by
  rintro xs m hk rfl rfl
  unfold nx3
  rw [hw]
  exact ⟨⟨d,x,k+1⟩,rfl,by simp only; omega,by simp only; omega,hR⟩
 match k,h1,hw,nx with
 | 0,h1,hw,nx=>
   have e:DX d.L 1=[trR (d.L.getD 0 0)]:=rfl
   refine aJ.of_eq (avQ d x 0 _) (sT (axv (by decide)) ?_)
   by_cases hb:0<d.L.length
   ·exact sT (axv (by omega)) (cU ⟨by omega,by omega⟩ (nx _ _ (by decide) (by rw [e]; rfl) rfl))
   ·exact sF (axw (by omega)) (nx _ _ (by decide) (by rw [e,DZ hb]) rfl)
 | k+1,h1,hw,nx=>
   have hl:=DY d.L (k+1)
   have e:=X2 d.L (k+1)
   have ha:h3 ⟨d,x,k+1⟩=s3 d x (some (DX d.L (k+1),(DX d.L (k+1)).length)) ((k+1:Nat):Int):=by
    show s3 d x (some (DX d.L (k+1),k+1)) _=_
    rw [hl]
   rw [ha]
   refine aJ.of_eq (avR d x _ _ _) ?_
   by_cases hk:k+1<13
   ·refine sT (axv (by omega)) ?_
    rw [azp,hl]
    by_cases hb:k+1<d.L.length
    ·exact sT (axv (by omega)) (cU ⟨by omega,by omega⟩ (rH (by omega) (nx _ _ hk (by rw [e]; rfl) rfl)))
    ·exact sF (axw (by omega)) (rH (by omega) (nx _ _ hk (by rw [e,DZ hb]) rfl))
   ·refine sF (axw (by omega)) ?_
    have hn:k+1=13:=by omega
    rw [hl,hn]
    exact hR
theorem X3:jL prog GL 0 3 (ae adz 3) l3:=by
 refine cf (X:=QU) Ny mixed (aM.none (by kernel_rfl)) [1,3,7,8] [1,3,7] h3 (fun a=>13 - a.k) alh ?_ ?_
 ·intro s R h
  unfold l3 at h
  split at h
  case h_2=>exact h.elim
  rename_i x hx
  obtain ⟨hs,hR⟩:=h
  exact ⟨⟨x.1,x.2,0⟩,hs,by show 0<=13; omega,hR⟩
 ·intro a R h
  exact Tr.aN _ (fun o ho=>ho) (arp a R h).out
noncomputable def arq (rs:List (List Sc)):aG:=⟨3,53,.aA [.i .i64,.i .i64,.i .i64] rs⟩
noncomputable def s5 (d:Dv) (x:Int × Int × Int) (rs:List (List Sc)) (i:Int):St:={fr:=frame 179 [(1,.v (.c (.p 0 0 0))),(3,.v (.c (.p 1 0 0))),(10,.v (.c (.p 2 0 0))),(11,.v (.c (.i .i64 i)))],rg:=[some (X0 d),some (adN x),some (arq rs)]}
noncomputable def d5 (d:Dv) (x:Int × Int × Int) (rs:List (List Sc)):St:={fr:=frame 179 [(1,.v (.c (.p 0 0 0))),(3,.v (.c (.p 1 0 0))),(10,.v (.c (.p 2 0 0)))],rg:=[some (X0 d),some (adN x),some (arq rs)]}
noncomputable def r5 (s:St):Tr RO:=bu QU 5 [1,3,10,11] [1,3,10] (ae adz 5) s
noncomputable def plR (v:Int):List Sc:=[.i (v % 3+1),.i (BO (IntKind.i64.wrap (v.tdiv 8))),.i (Ht (IntKind.i64.wrap (v.tdiv 64)))]
def plE (v:Int):Prop:=[NV.c (.i .i64 v),.c (.i .i64 (IntKind.i64.wrap (v.tdiv 8))),.c (.i .i64 (IntKind.i64.wrap (v.tdiv 64)))]=[NV.c (.i .i64 v),.c (.i .i64 (IntKind.i64.wrap (v.tdiv 8))),.c (.i .i64 (IntKind.i64.wrap (v.tdiv 64)))]
noncomputable def nx5 (d:Dv) (x:Int × Int × Int) (rs:List (List Sc)) (i v:Int) (R:RO->Prop):Prop:=plE v∧af (decide (0<=i)) (af (decide (i<((6:Nat):Int))) (af (decide (0+i.toNat<rs.length)) (R (.next (s5 d x (rs.set (0+i.toNat) (plR v)) (IntKind.i64.wrap (i+1))))) False) False) False
theorem adP (d:Dv) (x:Int × Int × Int) (rs:List (List Sc)) (i:Int) (R:RO->Prop):(r5 (s5 d x rs i)).run R =
 af (decide (i<6)) (af (decide (i<(d.L.length:Int))) (qa i d.L.length (wv 1048576∧nx5 d x rs i (d.L.getD i.toNat 0 % 1048576) R)) (nx5 d x rs i 0 R)) (R (.done .normal (d5 d x rs))):=by kernel_rfl
noncomputable def lv (L:List Int) (j:Nat):Int:=L.getD j 0 % 1048576
def zS:List Sc:=[.i 0,.i 0,.i 0]
noncomputable def lrK (f:Nat->List Sc):Nat->List (List Sc)
 | 0=>[zS,zS,zS,zS,zS,zS]
 | 1=>[f 0,zS,zS,zS,zS,zS]
 | 2=>[f 0,f 1,zS,zS,zS,zS]
 | 3=>[f 0,f 1,f 2,zS,zS,zS]
 | 4=>[f 0,f 1,f 2,f 3,zS,zS]
 | 5=>[f 0,f 1,f 2,f 3,f 4,zS]
 | _=>[f 0,f 1,f 2,f 3,f 4,f 5]
theorem adQ (f:Nat->List Sc) {k:Nat} (h:k<6):(lrK f k).set (0+k) (f k)=lrK f (k+1):=by
 have:k=0∨k=1∨k=2∨k=3∨k=4∨k=5:=by omega
 rcases this with rfl | rfl | rfl | rfl | rfl | rfl <;> rfl
theorem adR (f:Nat->List Sc) {k:Nat} (h:k<=6):(lrK f k).length=6:=by
 have:k=0∨k=1∨k=2∨k=3∨k=4∨k=5∨k=6:=by omega
 rcases this with rfl | rfl | rfl | rfl | rfl | rfl | rfl <;> rfl
noncomputable def lrs (L:List Int) (k:Nat):List (List Sc):=lrK (fun j=>plR (lv L j)) k
noncomputable def l5 (s:St):Tr (aj × St):=match arn s with
 | some x=>.aF (s=s5 x.1 x.2 [zS,zS,zS,zS,zS,zS] 0) (.ret (.normal,d5 x.1 x.2 [plR (lv x.1.L 0),plR (lv x.1.L 1),plR (lv x.1.L 2),plR (lv x.1.L 3),plR (lv x.1.L 4),plR (lv x.1.L 5)]))
 | none=>.fail
noncomputable def h5 (a:A3):St:=s5 a.d a.x (lrs a.d.L a.k) (a.k:Int)
def ali (a:A3) (R:aj × St->Prop):Prop:=a.k<=6∧R (.normal,d5 a.d a.x (lrs a.d.L 6))
def ars (a:A3) (R:aj × St->Prop) (o:RO):Prop:=match o with
 | .next s=>∃ y,s=h5 y∧6 - y.k<6 - a.k∧ali y R
 | .done e s=>R (e,s)
theorem art (a:A3) (R:aj × St->Prop) (h:ali a R):aJ ((r5 (h5 a)).run (ars a R)):=by
 obtain ⟨d,x,k⟩:=a
 obtain ⟨h1,hR⟩:=h
 simp only at h1 hR
 have hw:IntKind.i64.wrap ((k:Int)+1)=((k+1:Nat):Int):=by rw [ay']; omega
 have et:((k:Nat):Int).toNat=k:=by simp
 have nx:∀ v,k<6->v=lv d.L k->nx5 d x (lrs d.L k) (k:Int) v (ars ⟨d,x,k⟩ R):=by
  rintro v hk rfl
  unfold nx5
  rw [et,hw]
  refine ⟨rfl,sT (axv (by omega)) (sT (axv (by omega)) (sT (axv (by unfold lrs; rw [adR _ (by omega)]; omega)) ?_))⟩
  have e:(lrs d.L k).set (0+k) (plR (lv d.L k))=lrs d.L (k+1):=adQ (fun j=>plR (lv d.L j)) hk
  rw [e]
  exact ⟨⟨d,x,k+1⟩,rfl,by simp only; omega,by simp only; omega,hR⟩
 refine aJ.of_eq (adP d x (lrs d.L k) (k:Int) _) ?_
 rw [et]
 by_cases hk:k<6
 ·refine sT (axv (by omega)) ?_
  by_cases hb:k<d.L.length
  ·exact sT (axv (by omega)) (cU ⟨by omega,by omega⟩ ⟨⟨by decide,by decide⟩,nx _ hk rfl⟩)
  ·refine sF (axw (by omega)) (nx _ hk ?_)
   unfold lv
   rw [DZ hb]
   rfl
 ·have hn:k=6:=by omega
  subst hn
  exact sF (axw (by decide)) hR
theorem X4:jL prog GL 0 5 (ae adz 5) l5:=by
 refine cf (X:=QU) Ny mixed (aM.none (by kernel_rfl)) [1,3,10,11] [1,3,10] h5 (fun a=>6 - a.k) ali ?_ ?_
 ·intro s R h
  unfold l5 at h
  split at h
  case h_2=>exact h.elim
  rename_i x hx
  obtain ⟨hs,hR⟩:=h
  exact ⟨⟨x.1,x.2,0⟩,hs,by show 0<=6; omega,hR⟩
 ·intro a R h
  exact Tr.aN _ (fun o ho=>ho) (art a R h).out
noncomputable def aru:au:=fun args I=>if I.length=0 then aD prog GL alg [(1,[1,2,3,4,5,6],cF QU 1 [1,2,3,4,5,6] [1,2,3,4,5] (ae f12 1) 12),(3,[1,3,7,8],l3),(5,[1,3,10,11],l5)] f12 args I else .fail
theorem avS:Known prog GL 12 aru:=av 0 func12 rfl (by kernel_rfl) mixed Ny (aM.three (i1:=1) (i2:=3) (i3:=5) (b1:=ae f12 1) (b2:=ae f12 3) (b3:=ae f12 5) (by kernel_rfl) rfl (by decide) (bL (X:=QU) Ny mixed (aM.none (by kernel_rfl)) [1,2,3,4,5,6] [1,2,3,4,5] 12) X3 X4)
noncomputable def X5:au:=da [] [0] [(0,0,0,.l .u8 [])] [] 0 aru
theorem arv:Known prog GL 12 X5:=avS.soft [] [0] [(0,0,0,.l .u8 [])] [] 0
noncomputable def xP (aR pg sb:Int):Int × Int × Int:=(aR % 3+1,BO pg,Ht sb)
noncomputable def ly {α:Type} (f:Int->Int->Int->Int->Int->Int->Int->Int->Int->Int->Int->Int->Int->Int->Int->Int->Int->Int->α) (L:List Int):α:=
 f (lv L 0 % 3+1) (BO (IntKind.i64.wrap ((lv L 0).tdiv 8))) (Ht (IntKind.i64.wrap ((lv L 0).tdiv 64))) (lv L 1 % 3+1) (BO (IntKind.i64.wrap ((lv L 1).tdiv 8))) (Ht (IntKind.i64.wrap ((lv L 1).tdiv 64))) (lv L 2 % 3+1) (BO (IntKind.i64.wrap ((lv L 2).tdiv 8))) (Ht (IntKind.i64.wrap ((lv L 2).tdiv 64))) (lv L 3 % 3+1) (BO (IntKind.i64.wrap ((lv L 3).tdiv 8))) (Ht (IntKind.i64.wrap ((lv L 3).tdiv 64))) (lv L 4 % 3+1) (BO (IntKind.i64.wrap ((lv L 4).tdiv 8))) (Ht (IntKind.i64.wrap ((lv L 4).tdiv 64))) (lv L 5 % 3+1) (BO (IntKind.i64.wrap ((lv L 5).tdiv 8))) (Ht (IntKind.i64.wrap ((lv L 5).tdiv 64)))
noncomputable def cd9 (n:Int):Int:=IntKind.i64.wrap ((n % 9).tdiv 8)
noncomputable def lkB (aR n:Int) (L:List Int):List Int:=put (ls.zo (aR % 3+1))::put 13::ly (ls.rlN (aR % 3+1) (cd9 n) 0) L
noncomputable def lkO (aR n:Int) (L:List Int):Bool:=ly (ls.okR (aR % 3+1) (cd9 n) 0) L
noncomputable def zE:ByteArray:=⟨#[]⟩
noncomputable def svO (aR pg sb n:Int):Bool:=XU (aR % 3+1) (BO pg) (Ht sb) (n % 65536) 0 (n % 90000) (sb % 24) 0 0 zE
noncomputable def svB (aR pg sb n:Int):List Int:=LR (decide ((0:Int)<0)) (aR % 3+1) (BO pg) (Ht sb) (n % 65536) 0 (n % 90000) (sb % 24) 0 0 zE
noncomputable def p7 (m n:Int) (L:List Int):List Int:=QQ m 26 (n % 16) (azo 13 (azs 0 (DX L 13)))
noncomputable def bx1 (d:Dv) (R:Out->Prop):Prop:=odA d.T 32∧(([NV.ag (Kt d).nc,.c (.l .u8 (rF d.T 32))]=[NV.ag (Kt d).nc,.c (.l .u8 (rF d.T 32))]∧right (d.aR % 3+1) (BO d.pg) (Ht d.sb)∧(rF d.T 32).length=32)∧R (Ar (RV (Kt d) (rF d.T 32))))
noncomputable def bx2 (d:Dv) (R:Out->Prop):Prop:=wv 25∧(odA d.T 40∧(lq (Nr (d.aR % 3+1) (d.n % 25))∧(lq (aX .i64 (d.n % 25) 1)∧(42=42∧R (Ar (BN (d.aR % 3+1) (d.n % 25) (rF d.T 40)))))))
noncomputable def bx3 (d:Dv) (R:Out->Prop):Prop:=s3 d (xP d.aR d.pg d.sb) none 0=s3 d (xP d.aR d.pg d.sb) none 0∧(wv 16∧af (ts.n0 (d.aR % 3+1) 26 (d.n % 16)) (af (decide ((azo 13 (azs 0 (DX d.L 13))).length=13)) (2+(ts.LTg (d.n % 16) (azo 13 (azs 0 (DX d.L 13)))).length=2+(ts.LTg (d.n % 16) (azo 13 (azs 0 (DX d.L 13)))).length∧R (Ar (p7 (d.aR % 3+1) d.n d.L))) (R (Ar []))) (R (Ar [])))
noncomputable def bx4 (d:Dv) (R:Out->Prop):Prop:=s5 d (xP d.aR d.pg d.sb) [zS,zS,zS,zS,zS,zS] 0=s5 d (xP d.aR d.pg d.sb) [zS,zS,zS,zS,zS,zS] 0∧(wv 9∧af (lkO d.aR d.n d.L) (42=42∧R (Ar (lkB d.aR d.n d.L))) (R (Ar [])))
noncomputable def bx5 (d:Dv) (r:Int) (R:Out->Prop):Prop:=wv 16∧(wv 5∧(wv 3∧af (ts.n0 (d.aR % 3+1) r (cdO d.pg)) (42=42∧R (Ar (QQ (d.aR % 3+1) r (cdO d.pg) (trO d.n d.sb)))) (R (Ar []))))
noncomputable def bx7 (d:Dv) (R:Out->Prop):Prop:=wv 65536∧(wv 90000∧(wv 24∧af (svO d.aR d.pg d.sb d.n) (42=42∧R (Ar (svB d.aR d.pg d.sb d.n))) (R (Ar []))))
noncomputable def bx8 (d:Dv) (R:Out->Prop):Prop:=d.W.length<=1000000∧(d.W.length=d.W.length∧R (Ar d.W))
theorem adS (k aR pg sb n:Int) (L T W B:List Int) (R:Out->Prop):(X5 [Dv.nv ⟨k,aR,pg,sb,n,L,T,W,B⟩] []).run R=(plA ⟨k,aR,pg,sb,n,L,T,W,B⟩∧af (k==1) (bx1 ⟨k,aR,pg,sb,n,L,T,W,B⟩ R) (af (k==2) (bx2 ⟨k,aR,pg,sb,n,L,T,W,B⟩ R) (af (k==3) (bx3 ⟨k,aR,pg,sb,n,L,T,W,B⟩ R) (af (k==4) (bx4 ⟨k,aR,pg,sb,n,L,T,W,B⟩ R) (af (k==5) (bx5 ⟨k,aR,pg,sb,n,L,T,W,B⟩ (IntKind.i64.wrap (23+k)) R) (af (k==6) (bx5 ⟨k,aR,pg,sb,n,L,T,W,B⟩ (IntKind.i64.wrap (23+k)) R) (af (k==7) (bx7 ⟨k,aR,pg,sb,n,L,T,W,B⟩ R) (bx8 ⟨k,aR,pg,sb,n,L,T,W,B⟩ R)))))))):=by kernel_rfl
end bh
namespace df
open bR (sT sF)
open Go Go.Nx pk cH bm
def B8 (b:Int):Prop:=0<=b∧b<256
theorem iR (n:Int):B8 (put n):=by
 have key:∀ m<16,0<=ai8.getD m 0∧ai8.getD m 0<256:=by decide +kernel
 exact key (n % 16).toNat (by omega)
theorem u8_in (v:BitVec 8):B8 (u8 v):=by
 have:=v.isLt
 unfold B8 u8
 omega
theorem D0 (T:List Int) (k:Nat):∀ b∈rF T k,B8 b:=by
 intro b hb
 unfold rF at hb
 obtain ⟨i,-,rfl⟩:=List.mem_map.1 hb
 exact sv.Wx _
theorem pA {l m:List Int} (h1:∀ b∈l,B8 b) (h2:∀ b∈m,B8 b):∀ b∈l++m,B8 b:=fun b hb=>(List.mem_append.1 hb).elim (h1 b) (h2 b)
theorem D1 {mg row:Int} {ds:List Int} (h:∀ b∈ds,B8 b):∀ b∈BN mg row ds,B8 b:=List.forall_mem_cons.2 ⟨iR _,List.forall_mem_cons.2 ⟨iR _,h⟩⟩
theorem Kz (h:wX.Hx) {xs:List Int} (hx:∀ b∈xs,B8 b):∀ b∈RV h xs,B8 b:=by
 refine D1 (pA (pA ?_ ?_) hx)
 ·unfold pl6
  repeat (refine List.forall_mem_cons.2 ⟨iR _,?_⟩)
  intro b hb; cases hb
 ·unfold t8
  repeat (refine List.forall_mem_cons.2 ⟨iR _,?_⟩)
  intro b hb; cases hb
theorem ahy (r:List Sc):∀ b∈tr.tw r,B8 b:=by
 unfold tr.tw
 repeat (refine List.forall_mem_cons.2 ⟨u8_in _,?_⟩)
 intro b hb; cases hb
theorem zp (mg row cd:Int) (rows:List (List Sc)):∀ b∈QQ mg row cd rows,B8 b:=by
 refine List.forall_mem_cons.2 ⟨iR _,List.forall_mem_cons.2 ⟨iR _,?_⟩⟩
 unfold ts.LTg tr.LT
 refine List.forall_mem_cons.2 ⟨iR _,?_⟩
 iterate 12 (refine pA (ahy _) ?_)
 exact ahy _
end df
namespace bh
open bR (sT sF)
open wX (Hx)
open df (B8 iR u8_in D0 pA D1 Kz zp)
open Go Go.Nx pk ln hd lb sv bm
noncomputable def iw (d:Dv):List Int:=
 bif d.k==1 then RV (Kt d) (rF d.T 32) else bif d.k==2 then BN (d.aR % 3+1) (d.n % 25) (rF d.T 40)
 else bif d.k==3 then p7 (d.aR % 3+1) d.n d.L else bif d.k==4 then lkB d.aR d.n d.L
 else bif d.k==5 then QQ (d.aR % 3+1) 28 (cdO d.pg) (trO d.n d.sb) else bif d.k==6 then QQ (d.aR % 3+1) 29 (cdO d.pg) (trO d.n d.sb)
 else bif d.k==7 then svB d.aR d.pg d.sb d.n else d.W
theorem Nz {mg row cd:Int} (hm:1<=mg∧mg<=8) (hc:0<=cd∧cd<=15) (hr:row=28∨row=29∨row=26):ts.n0 mg row cd=true:=by
 unfold ts.n0
 rw [axv (show 1<=mg∧mg<=8∧0<=cd∧cd<=15 from ⟨hm.1,hm.2,hc.1,hc.2⟩)]
 rcases hr with rfl | rfl | rfl <;> rfl
theorem rB (a b c:Int):ls.dC (a % 3+1) (BO b) (Ht c)=true:=by
 have h:=zl a b c
 unfold ls.dC
 rw [axv (show a % 3+1 >= 1 from h.1.1),axv (show a % 3+1<=8 from h.1.2),axv (show BO b >= 0 from h.2.1.1),axv (show BO b<=255 from h.2.1.2),axv (show Ht c >= 0 from h.2.2.1),h.2.2.2]
 rfl
theorem alj (n:Int):0<=cd9 n∧cd9 n<=3:=by
 have key:∀ m<9,0<=IntKind.i64.wrap ((azi m).tdiv 8)∧IntKind.i64.wrap ((azi m).tdiv 8)<=3:=by decide +kernel
 have h:=key (n % 9).toNat (by omega)
 have e:azi (n % 9).toNat=n % 9:=by show (((n % 9).toNat:Nat):Int)=n % 9; omega
 rw [e] at h
 exact h
theorem ahz (aR n:Int) (L:List Int):lkO aR n L=true:=by
 have h:=alj n
 unfold lkO ly ls.okR
 rw [rB,rB,rB,rB,rB,rB,axv (show 1<=aR % 3+1∧aR % 3+1<=8∧0<=cd9 n∧cd9 n<=3∧(0:Int)<=0∧(0:Int)<=15 from ⟨by omega,by omega,h.1,h.2,by decide,by decide⟩)]
 rfl
theorem avT:fst zE 20 0=none:=by kernel_rfl
theorem nd {p:Prop} [Decidable p] (h:¬ p):(!decide p)=true:=by rw [axw h]; rfl
theorem ahA (aR pg sb n:Int):svO aR pg sb n=true:=by
 unfold svO XU
 rw [rB,avT,nd (show ¬ n % 65536<0 by omega),nd (show ¬ n % 65536 > 65535 by omega),nd (show ¬ n % 90000<0 by omega),nd (show ¬ n % 90000 > 99999 by omega),nd (show ¬ sb % 24<0 by omega),nd (show ¬ sb % 24 > 23 by omega)]
 rfl
theorem arw:IntKind.i64.wrap (23+5)=28:=by decide +kernel
theorem arx:IntKind.i64.wrap (23+6)=29:=by decide +kernel
theorem kY {k:Int} {j:Int} {A B:Prop} (hA:k=j->A) (hB:k≠j->B):af (k==j) A B:=by
 by_cases h:k=j
 ·exact sT (beq_iff_eq.2 h) (hA h)
 ·exact sF (beq_eq_false_iff_ne.2 h) (hB h)
noncomputable def tBy:au:=fun args I=>match args,I with
 | [.ag [.i _ k,.i _ aR,.i _ pg,.i _ sb,.i _ n,.l _ L,.l _ T,.l _ W,.l _ B]],[]=>.aF (args=[Dv.nv ⟨k,aR,pg,sb,n,L,T,W,B⟩]∧W.length<=1000000) (.ret (Ar (iw ⟨k,aR,pg,sb,n,L,T,W,B⟩)))
 | _,_=>.fail
attribute [local irreducible] X5 in
theorem kBy:Known prog GL 12 tBy:=by
 refine arv.less fun args I R h=>?_
 unfold tBy at h
 split at h
 case h_2=>exact h.elim
 rename_i _ k _ aR _ pg _ sb _ n _ L _ T _ W _ B
 obtain ⟨⟨h1,hW⟩,h⟩:=h
 rw [h1]
 have h:R (Ar (iw ⟨k,aR,pg,sb,n,L,T,W,B⟩)):=h
 have hm:1<=aR % 3+1∧aR % 3+1<=8:=⟨by omega,by omega⟩
 refine (aJ.of_eq (adS k aR pg sb n L T W B R) ⟨rfl,?_⟩).out
 refine kY (fun e=>?_) fun n1=>kY (fun e=>?_) fun n2=>kY (fun e=>?_) fun n3=>kY (fun e=>?_) fun n4=>kY (fun e=>?_) fun n5=>kY (fun e=>?_) fun n6=>kY (fun e=>?_) fun n7=>?_
 ·subst e
  exact ⟨⟨rfl,by decide,by decide⟩,⟨rfl,zl aR pg sb,kX _ _⟩,h⟩
 ·subst e
  have e1:lq (Nr (aR % 3+1) (n % 25)):=DT hm ⟨by omega,by omega⟩
  have e2:lq (aX .i64 (n % 25) 1):=by rw [aci]; exact ⟨by omega,by omega⟩
  exact ⟨⟨by decide,by decide⟩,⟨rfl,by decide,by decide⟩,e1,e2,rfl,h⟩
 ·subst e
  refine ⟨rfl,⟨by decide,by decide⟩,sT (Nz hm (by show 0<=n % 16∧n % 16<=15; omega) (.inr (.inr rfl))) (sT (axv ?_) ⟨rfl,h⟩)⟩
  rw [List.drop_zero,ax7,DY]
  rfl
 ·subst e
  exact ⟨rfl,⟨by decide,by decide⟩,sT (ahz _ _ _) ⟨rfl,h⟩⟩
 ·subst e
  rw [arw]
  exact ⟨⟨by decide,by decide⟩,⟨by decide,by decide⟩,⟨by decide,by decide⟩,sT (w8 hm (DV pg) (.inl rfl)) ⟨rfl,h⟩⟩
 ·subst e
  rw [arx]
  exact ⟨⟨by decide,by decide⟩,⟨by decide,by decide⟩,⟨by decide,by decide⟩,sT (w8 hm (DV pg) (.inr (.inl rfl))) ⟨rfl,h⟩⟩
 ·subst e
  exact ⟨⟨by decide,by decide⟩,⟨by decide,by decide⟩,⟨by decide,by decide⟩,sT (ahA _ _ _ _) ⟨rfl,h⟩⟩
 ·refine ⟨hW,rfl,?_⟩
  have e:iw ⟨k,aR,pg,sb,n,L,T,W,B⟩=W:=by
   unfold iw
   simp only
   rw [beq_eq_false_iff_ne.2 n1,beq_eq_false_iff_ne.2 n2,beq_eq_false_iff_ne.2 n3,beq_eq_false_iff_ne.2 n4,beq_eq_false_iff_ne.2 n5,beq_eq_false_iff_ne.2 n6,beq_eq_false_iff_ne.2 n7]
   rfl
  rw [e] at h
  exact h
theorem KA:∀ b∈([]:List Int),B8 b:=fun b hb=>by cases hb
theorem alk:B8 0:=⟨by decide,by decide⟩
theorem X6 (a b c:Int):∀ x∈ls.Nt a b c,B8 x:=by
 unfold ls.Nt
 iterate 6 (refine List.forall_mem_cons.2 ⟨iR _,?_⟩)
 exact KA
theorem alm (aR n:Int) (L:List Int):∀ b∈lkB aR n L,B8 b:=by
 unfold lkB ly ls.rlN
 iterate 3 (refine List.forall_mem_cons.2 ⟨iR _,?_⟩)
 iterate 6 (refine pA (X6 _ _ _) ?_)
 exact List.forall_mem_cons.2 ⟨iR _,List.forall_mem_cons.2 ⟨alk,List.forall_mem_cons.2 ⟨alk,KA⟩⟩⟩
end bh
namespace cH
open Go Go.Nx pk ac bR wX dec
noncomputable def NA:au:=fun args I=>aD prog GL (fun _=>ay1) [] f113 args I
theorem X7:Known prog GL 113 NA:=ah func113 rfl (by kernel_rfl) mixed az (by kernel_rfl)
noncomputable def ahB:FuncId->Option au:=aE [(113,NA),(114,Gr)]
theorem aln:∀ f T,ahB f=some T->Known prog GL f T:=(aq.cons X7 (.cons Uq .nil)).get
noncomputable def ahC:au:=fun args I=>aD prog GL ahB [] f66 args I
theorem ary:Known prog GL 66 ahC:=ah func66 rfl (by kernel_rfl) mixed aln (by kernel_rfl)
noncomputable def mu:au:=da [] [] [(1,0,0,.l .u8 [])] [] 4 ahC
theorem arz:Known prog GL 66 mu:=ary.soft [] [] [(1,0,0,.l .u8 [])] [] 4
noncomputable def oLa (M:Mc) (h:Hx) (t:List Int) (b:Bool):Out:=⟨.tu [.ag h.nc,.c (.l .u8 t),.c (.b b)],(dO M).map some⟩
noncomputable def laT (M:Mc) (g:Nat) (R:Out->Prop):Prop:=af (!(M.v g).bg) (R (oLa M hxZ [] false)) (([NV.c (.l .u8 (M.v g).t)]=[NV.c (.l .u8 (M.v g).t)]∧(M.v g).t.length<=1000000)∧R (oLa M (M.v g).h (M.v g).t true))
theorem avU (M:Mc) (R:Out->Prop):(mu [.c (.p 0 0 0),.c (.i .i64 1)] (dO M)).run R=laT M 1 R:=by kernel_rfl
theorem avV (M:Mc) (R:Out->Prop):(mu [.c (.p 0 0 0),.c (.i .i64 2)] (dO M)).run R=laT M 2 R:=by kernel_rfl
theorem avW (M:Mc) (R:Out->Prop):(mu [.c (.p 0 0 0),.c (.i .i64 3)] (dO M)).run R=laT M 3 R:=by kernel_rfl
theorem avX (M:Mc) (R:Out->Prop):(mu [.c (.p 0 0 0),.c (.i .i64 4)] (dO M)).run R=laT M 4 R:=by kernel_rfl
theorem avY (M:Mc) (R:Out->Prop):(mu [.c (.p 0 0 0),.c (.i .i64 5)] (dO M)).run R=laT M 5 R:=by kernel_rfl
theorem avZ (M:Mc) (R:Out->Prop):(mu [.c (.p 0 0 0),.c (.i .i64 6)] (dO M)).run R=laT M 6 R:=by kernel_rfl
theorem av0 (M:Mc) (R:Out->Prop):(mu [.c (.p 0 0 0),.c (.i .i64 7)] (dO M)).run R=laT M 7 R:=by kernel_rfl
theorem av1 (M:Mc) (R:Out->Prop):(mu [.c (.p 0 0 0),.c (.i .i64 8)] (dO M)).run R=laT M 8 R:=by kernel_rfl
theorem av2 (M:Mc) (R:Out->Prop) (g:Int) (h:1<=g∧g<=8):(mu [.c (.p 0 0 0),.c (.i .i64 g)] (dO M)).run R=laT M g.toNat R:=by
 have hg:g=1∨g=2∨g=3∨g=4∨g=5∨g=6∨g=7∨g=8:=by omega
 rcases hg with rfl | rfl | rfl | rfl | rfl | rfl | rfl | rfl
 ·exact avU M R
 ·exact avV M R
 ·exact avW M R
 ·exact avX M R
 ·exact avY M R
 ·exact avZ M R
 ·exact av0 M R
 ·exact av1 M R
noncomputable abbrev X8:=f71
noncomputable def qi:Code:=EN X8 0
noncomputable def frN:List NS:=frame 77 [(3,.v (.c (.p 4 0 0))),(4,.v (.c (.p 5 0 0))),(6,.v (.c (.p 6 0 0))),(7,.v (.c (.p 7 0 0))),(14,.v (.c (.cl 104 [(8,0,0)])))]
noncomputable def YN:Yh:=vI XFe (GO qi) (GP qi) (GQ qi) frN
inductive Jn where
 | z
 | a (p:Pg)
 | s (p:Pg)
 | d (p q:Pg)
def Jn.ca:Jn->Nat->NC
 | .z,_=>.pn
 | _,n=>.p n 0 0
def Jn.cb:Jn->Nat->NC
 | .z,_=>.pn
 | .a _,_=>.pn
 | .s _,n=>.p n 0 0
 | .d _ _,n=>.p (n+1) 0 0
noncomputable def Jn.ex:Jn->List (Option aG)
 | .z=>[]
 | .a p=>[some (qB p (.lr K3 p.ex))]
 | .s p=>[some (qB p (.lr K3 p.ex))]
 | .d p q=>[some (qB p (.lr K3 p.ex)),some (qB q (.lr K3 q.ex))]
noncomputable def rgJ (M:Mc) (k:Ky) (J:Jn) (n:Nat):List (Option aG):=[some (Ii 1 M.v M.inf),some (stM M.st.bR (.hz 3 M.st.bR.l.length)),some (eN M.st.bR.m),some (aY (aC M.st.bR.l)),some (agz k),some (qB fO .sn),some ⟨1,200,.cells [J.ca n]⟩,some ⟨1,200,.cells [J.cb n]⟩,some ⟨1,88,.cells [.p 1 0 0]⟩]
noncomputable def X9 (s:St):Tr F7:=Ji XIt YN KI [] 0 [0,1,8,9,10] [] itC s ay1
def Jn.cnt:Jn->Nat
 | .z=>9
 | .a _=>10
 | .s _=>10
 | .d _ _=>11
noncomputable def SN (M:Mc) (k:Ky) (J:Jn) (i:Int):St:={fr:=frame 32 [(0,.v (.c (.e 1000))),(1,.v (.c (.p 8 0 0))),(8,.v (.c (.hz J.cnt M.st.L.length))),(9,.v (.c (.i .i64 M.st.L.length))),(10,.v (.c (.i .i64 i)))],rg:=rgJ M k J 9++J.ex++[some (aY (aC (M.st.L.map bA)))]}
noncomputable def DN (M:Mc) (k:Ky) (J:Jn):St:={fr:=frame 32 [],rg:=rgJ M k J 9++J.ex}
noncomputable def nxN (M:Mc) (k:Ky) (i:Int) (R:F7->Prop) (J:Jn):Prop:=R (.next (SN M k J (IntKind.i64.wrap (i+1))) ay1)
def KB (M:Mc) (i:Int):Pg:=ofRow (jQ di (iN (Xi M i)) M.st.bR.m)
def QV (k:Ky) (b:Int) (x:Pg) (N:Jn->Prop):Jn->Prop
 | .z=>af (decide (b > k.2.2)) (N (.s x)) (N (.a x))
 | .a p=>af (decide (b<p.sb)) (af (decide (b > k.2.2)) (N (.s x)) (N (.a x))) (af (decide (b > k.2.2)) (N (.d p x)) (N (.a p)))
 | .s p=>af (decide (b<p.sb)) (af (decide (b > k.2.2)) (af (decide (b<p.sb)) (N (.s x)) (N (.d x p))) (N (.d x p))) (af (decide (b > k.2.2)) (af (decide (b<p.sb)) (N (.d p x)) (N (.s p))) (N (.s p)))
 | .d p q=>af (decide (b<p.sb)) (af (decide (b > k.2.2)) (af (decide (b<q.sb)) (N (.s x)) (N (.d x q))) (N (.d x q))) (af (decide (b > k.2.2)) (af (decide (b<q.sb)) (N (.d p x)) (N (.d p q))) (N (.d p q)))
noncomputable def inN (M:Mc) (k:Ky) (J:Jn) (i:Int) (R:F7->Prop):Prop:=
 af (decide (i<(M.st.L.length:Int))) (af (decide (0<=i)) (af (decide (i<(M.st.L.length:Int))) (af (decide (i.toNat<(aC (M.st.L.map bA)).length)) (af (gW di (iN (Xi M i)) M.st.bR.m)
  (true=true∧af ((Xi M i).1 !=k.1) (nxN M k i R J) (af ((Xi M i).2.1 !=k.2.1) (nxN M k i R J) (QV k (Xi M i).2.2 (KB M i) (nxN M k i R) J)))
  (nxN M k i R J)) False) False) False) (R (.done .normal (DN M k J) ay1))
theorem X' (M:Mc) (k:Ky) (i:Int) (R:F7->Prop):(X9 (SN M k .z i)).run R=inN M k .z i R:=by kernel_rfl
theorem Ya (M:Mc) (k:Ky) (p:Pg) (i:Int) (R:F7->Prop):(X9 (SN M k (.a p) i)).run R=inN M k (.a p) i R:=by kernel_rfl
theorem Yb (M:Mc) (k:Ky) (p:Pg) (i:Int) (R:F7->Prop):(X9 (SN M k (.s p) i)).run R=inN M k (.s p) i R:=by kernel_rfl
theorem Yc (M:Mc) (k:Ky) (p q:Pg) (i:Int) (R:F7->Prop):(X9 (SN M k (.d p q) i)).run R=inN M k (.d p q) i R:=by kernel_rfl
theorem adT (M:Mc) (k:Ky) (i:Int) (R:F7->Prop):∀ J:Jn,(X9 (SN M k J i)).run R=inN M k J i R
 | .z=>X' M k i R
 | .a p=>Ya M k p i R
 | .s p=>Yb M k p i R
 | .d p q=>Yc M k p q i R
def Jn.C8 (k:Ky) (x:Pg):Jn->Jn
 | .z=>bif decide (x.sb > k.2.2) then .s x else .a x
 | .a p=>bif decide (x.sb<p.sb) then (bif decide (x.sb > k.2.2) then .s x else .a x) else (bif decide (x.sb > k.2.2) then .d p x else .a p)
 | .s p=>bif decide (x.sb<p.sb) then (bif decide (x.sb > k.2.2) then .s x else .d x p) else .s p
 | .d p q=>bif decide (x.sb<p.sb) then (bif decide (x.sb > k.2.2)&&decide (x.sb<q.sb) then .s x else .d x q) else (bif decide (x.sb > k.2.2)&&decide (x.sb<q.sb) then .d p x else .d p q)
def Jn.step (k:Ky) (J:Jn) (x:Pg):Jn:=bif DP k x then J.C8 k x else J
def Mc.nxJ (M:Mc) (k:Ky):Jn:=M.st.L.foldl (Jn.step k) .z
theorem adU (k:Ky) (x:Pg) (N:Jn->Prop) (J:Jn) (h:N (J.C8 k x)):QV k x.sb x N J:=by
 revert h
 cases J with
 | z=>
   dsimp only [QV,Jn.C8]
   cases decide (x.sb > k.2.2) <;> exact fun h=>h
 | a p=>
   dsimp only [QV,Jn.C8]
   cases decide (x.sb > k.2.2) <;> cases decide (x.sb<p.sb) <;> exact fun h=>h
 | s p=>
   dsimp only [QV,Jn.C8]
   cases decide (x.sb > k.2.2) <;> cases decide (x.sb<p.sb) <;> exact fun h=>h
 | d p q=>
   dsimp only [QV,Jn.C8]
   cases decide (x.sb > k.2.2) <;> cases decide (x.sb<p.sb) <;> cases decide (x.sb<q.sb) <;> exact fun h=>h
structure AN where
 J:Jn
 i:Int
def Jn.isZ:Jn->Bool
 | .z=>true
 | _=>false
def Jn.isA:Jn->Bool
 | .a _=>true
 | _=>false
def Jn.isS:Jn->Bool
 | .s _=>true
 | _=>false
def Jn.p:Jn->Pg
 | .z=>fO
 | .a p=>p
 | .s p=>p
 | .d p _=>p
def Jn.q:Jn->Pg
 | .d _ q=>q
 | _=>fO
noncomputable def adV (M:Mc) (k:Ky) (J:Jn):Tr (aj × St × Option aj):=.br J.isZ (.ret (.normal,DN M k .z,ay1)) (.br J.isA (.ret (.normal,DN M k (.a J.p),ay1)) (.br J.isS (.ret (.normal,DN M k (.s J.p),ay1)) (.ret (.normal,DN M k (.d J.p J.q),ay1))))
noncomputable def alo (M:Mc) (k:Ky) (a:AN) (R:aj × St × Option aj->Prop):Prop:=(0<=a.i∧a.i<=(M.st.L.length:Int))∧M.bM∧(adV M k ((M.st.L.drop a.i.toNat).foldl (Jn.step k) a.J)).run R
noncomputable def hN (M:Mc) (k:Ky) (a:AN):St × Option aj:=(SN M k a.J a.i,ay1)
noncomputable def alp (M:Mc) (k:Ky) (a:AN) (R:aj × St × Option aj->Prop) (o:F7):Prop:=match o with
 | .next s p=>∃ y,(s,p)=hN M k y∧((M.st.L.length:Int) - y.i).toNat<((M.st.L.length:Int) - a.i).toNat∧alo M k y R
 | .done e s p=>R (e,s,p)
theorem ahD {a b:Int} (h:(a==b)=false):(a !=b)=true:=by unfold bne; rw [h]; rfl
theorem ahE {a b:Int} (h:(a==b)=true):(a !=b)=false:=by unfold bne; rw [h]; rfl
theorem alq (M:Mc) (k:Ky) (a:AN) (R:aj × St × Option aj->Prop) (h:alo M k a R):inN M k a.J a.i (alp M k a R):=by
 obtain ⟨J,i⟩:=a
 obtain ⟨⟨h0,hle⟩,hg,hR⟩:=h
 simp only at h0 hle hR
 unfold inN
 by_cases ff:i<(M.st.L.length:Int)
 ·have hj:i.toNat<M.st.L.length:=by omega
  have hl8:=hg.lt
  have hw:IntKind.i64.wrap (i+1)=i+1:=by rw [ay']; omega
  have ht:(i+1).toNat=i.toNat+1:=by omega
  have nx:∀ J',(adV M k ((M.st.L.drop (i.toNat+1)).foldl (Jn.step k) J')).run R->nxN M k i (alp M k ⟨J,i⟩ R) J':=fun J' h'=>by
   unfold nxN
   rw [hw]
   exact ⟨⟨J',i+1⟩,rfl,by simp only; omega,⟨by simp only; omega,by simp only; omega⟩,hg,by simp only; rw [ht]; exact h'⟩
  rw [axO hj,List.foldl_cons] at hR
  have hm:=Xm hj hg.nd
  have hp:KB M i=M.st.L[i.toNat]:=by
   unfold KB
   rw [Xl hj]
   exact hm.2
  rw [hp,Xl hj]
  refine sT (axv ff) (sT (axv h0) (sT (axv ff) (sT (axv (by rw [a8,azq]; exact hj)) ?_)))
  refine sT hm.1 ⟨rfl,?_⟩
  generalize M.st.L[i.toNat]=p at hR ⊢
  show af (p.mg !=k.1) _ (af (p.pn !=k.2.1) _ _)
  cases h1:p.mg==k.1 with
  | false=>
    rw [ahD h1]
    refine nx J ?_
    unfold Jn.step DP at hR
    rw [h1] at hR
    exact hR
  | true=>
    rw [ahE h1]
    show af (p.pn !=k.2.1) _ _
    cases h2:p.pn==k.2.1 with
    | false=>
      rw [ahD h2]
      refine nx J ?_
      unfold Jn.step DP at hR
      rw [h1,h2] at hR
      exact hR
    | true=>
      rw [ahE h2]
      refine adU k p _ J (nx (J.C8 k p) ?_)
      unfold Jn.step DP at hR
      rw [h1,h2] at hR
      exact hR
 ·refine sF (axw ff) ?_
  rw [List.drop_eq_nil_iff.2 (by omega)] at hR
  cases J <;> exact hR
theorem alr (M:Mc) (k:Ky):Jg prog GL 9 KI YN 0 itC (fun s=>.aF (s=(SN M k .z 0,ay1)∧M.bM) (adV M k (M.nxJ k))):=by
 refine F8 (X:=XIt) (ls:=[]) acE (by kernel_rfl) (lZ.none (by kernel_rfl)) [0,1,8,9,10] [] (hN M k) (fun a=>((M.st.L.length:Int) - a.i).toNat) (alo M k) ?_ ?_
 ·rintro s R ⟨⟨hs,hg⟩,hR⟩
  exact ⟨⟨.z,0⟩,hs,⟨by simp only; omega,by simp only; omega⟩,hg,hR⟩
 ·intro a R h
  have:=(aJ.of_eq (adT M k a.i (alp M k a R) a.J) (alq M k a R h)).out
  exact Tr.aN _ (fun o ho=>ho) this
noncomputable def LN (M:Mc) (k:Ky) (m:Nat) (fr:List NS) (s:St × Option aj):Tr (aj × St × Option aj):=.aF ((m=9∧fr=frN)∧s=(SN M k .z 0,ay1)∧M.bM) (adV M k (M.nxJ k))
theorem adW (M:Mc) (k:Ky) (m:Nat) (fr:List NS):Jg prog GL m KI (vI XFe (GO qi) (GP qi) (GQ qi) fr) 0 itC (LN M k m fr):=by
 intro l rc N Γ0 w0 h0 hN h0k Tv hY s p Γ a w R Q hI hE hW hL hK
 unfold LN at hL
 obtain ⟨⟨⟨rfl,dr⟩,h2⟩,h4⟩:=hL
 rw [dr] at hY
 exact alr M k l rc N Γ0 w0 h0 hN h0k Tv hY s p Γ a w R Q hI hE hW ⟨h2,h4⟩ hK
noncomputable def lsN (M:Mc) (k:Ky) (m:Nat) (fr:List NS):LI:=[(0,[0,1,8,9,10],LN M k m fr)]
noncomputable def RN (M:Mc) (k:Ky):St->Tr (aj × St):=C3 XFe KI cIt (lsN M k) 0 [4,6,7] 104 Vt qi
theorem adX:qi=.rangeFunc (.tmp 14) (GO qi) (GP qi) (GQ qi):=by kernel_rfl
theorem arA (M:Mc) (k:Ky):abw prog GL 4 0 qi (RN M k):=by
 have h:=Be (X:=XFe) ahg (K:=KI) acE (ls:=lsN M k) (id:=0) (out:=[4,6,7]) (g:=.tmp 14) (ps:=GO qi) (assign:=GP qi) (body:=GQ qi) func104 Ni (by kernel_rfl) (by kernel_rfl) (by kernel_rfl) (by kernel_rfl) (by kernel_rfl)
  (fun m fr=>lZ.one (id:=0) (body:=itC) (live:=[0,1,8,9,10]) (L:=LN M k m fr) Hm rfl (adW M k m fr))
 rw [<- adX] at h
 exact h
noncomputable def lpN (M:Mc) (k:Ky):List (Nat × List Nat × (St->Tr (aj × St))):=[(0,[3,4,6,7,14],RN M k)]
noncomputable def arC (M:Mc) (k:Ky):au:=fun args I=>if I.length=4 then aD prog GL Ng (lpN M k) X8 args I else .fail
theorem Yd:bY (X8.body.getD .skip)=[]:=by kernel_rfl
theorem QW:cG (X8.body.getD .skip)=[(0,qi)]:=by kernel_rfl
theorem av3 (M:Mc) (k:Ky):Known prog GL 71 (arC M k):=by
 refine av (c:=X8.body.getD .skip) 4 func71 (by kernel_rfl) (by kernel_rfl) mixed Kk ⟨fun i b hb x hf=>?_,fun i b hb x hf=>?_⟩
 ·rw [Yd] at hb
  cases hb
 ·rw [QW,List.mem_singleton] at hb
  cases hb
  have:x=(0,[3,4,6,7,14],RN M k):=by simpa [lpN] using hf.symm
  subst this
  exact arA M k
noncomputable def NB (M:Mc) (k:Ky):au:=da [] [] [(0,5,0,.lr K3 [])] [] 4 (arC M k)
theorem arD (M:Mc) (k:Ky):Known prog GL 71 (NB M k):=(av3 M k).soft [] [] [(0,5,0,.lr K3 [])] [] 4
noncomputable def oNx (M:Mc) (x:Pg × Bool):Out:=⟨.tu [fa x.1,.c (.b x.2)],(dO M).map some⟩
noncomputable def owN (M:Mc) (p:Pg) (R:Out->Prop):Prop:=([fa p]=[fa p]∧fits p)∧R (oNx M (p,true))
noncomputable def Ye (M:Mc) (k:Ky) (R:Out->Prop):Prop:=
 (yP M.st=yP (jN M.st)∧(jN M.st).ok)∧((9=9∧frN=frN)∧(SN {M with st:=jN M.st} k .z 0,ay1)=(SN M k .z 0,(ay1:Option aj))∧M.bM)∧
   af (M.nxJ k).isZ (R (oNx M (fO,false))) (af (M.nxJ k).isA (owN M (M.nxJ k).p R) (af (M.nxJ k).isS (owN M (M.nxJ k).p R) (owN M (M.nxJ k).q R)))
theorem adY (M:Mc) (a b c:Int) (R:Out->Prop):(NB M (a,b,c) [.c (.p 0 0 0),.ag (dY (a,b,c))] (dO M)).run R=Ye M (a,b,c) R:=by kernel_rfl
def Jn.res:Jn->Pg × Bool
 | .z=>(fO,false)
 | .a p=>(p,true)
 | .s p=>(p,true)
 | .d _ q=>(q,true)
def Mc.next (M:Mc) (k:Ky):Pg × Bool:=(M.nxJ k).res
def Jn.mem (L:List Pg):Jn->Prop
 | .z=>True
 | .a p=>p∈L
 | .s p=>p∈L
 | .d p q=>p∈L∧q∈L
theorem Jn.adZ {L:List Pg} {k:Ky} {x:Pg} {J:Jn} (hx:x∈L) (h:J.mem L):(J.C8 k x).mem L:=by
 cases J with
 | z=>dsimp only [Jn.C8]; cases decide (x.sb > k.2.2) <;> exact hx
 | a p=>dsimp only [Jn.C8]; cases decide (x.sb > k.2.2) <;> cases decide (x.sb<p.sb) <;> first | exact hx | exact h | exact ⟨h,hx⟩
 | s p=>dsimp only [Jn.C8]; cases decide (x.sb > k.2.2) <;> cases decide (x.sb<p.sb) <;> first | exact hx | exact h | exact ⟨hx,h⟩
 | d p q=>dsimp only [Jn.C8]; cases decide (x.sb > k.2.2) <;> cases decide (x.sb<p.sb) <;> cases decide (x.sb<q.sb) <;> first | exact hx | exact h | exact ⟨hx,h.2⟩ | exact ⟨h.1,hx⟩
theorem Jn.HA {L:List Pg} (k:Ky):∀ (l:List Pg) (J:Jn),(∀ x∈l,x∈L)->J.mem L->(l.foldl (Jn.step k) J).mem L
 | [],_,_,h=>h
 | x::l,J,hl,h=>by
   refine Jn.HA k l (J.step k x) (fun y hy=>hl y (List.mem_cons_of_mem _ hy)) ?_
   unfold Jn.step
   cases DP k x with
   | true=>exact Jn.adZ (hl x (List.mem_cons_self ..)) h
   | false=>exact h
theorem ND (M:Mc) (k:Ky):(M.nxJ k).mem M.st.L:=Jn.HA k _ _ (fun _ h=>h) trivial
theorem arE {M:Mc} {k:Ky} {R:Out->Prop} (hM:M.bM) (h:R (oNx M (M.next k))):Ye M k R:=by
 unfold Ye
 rw [iO]
 refine ⟨⟨rfl,hM.ok.2⟩,⟨⟨rfl,rfl⟩,rfl,hM⟩,?_⟩
 have hm:=ND M k
 unfold Mc.next at h
 generalize M.nxJ k=J at h hm ⊢
 cases J with
 | z=>exact h
 | a p=>exact ⟨⟨rfl,hM.fit p hm⟩,h⟩
 | s p=>exact ⟨⟨rfl,hM.fit p hm⟩,h⟩
 | d p q=>exact ⟨⟨rfl,hM.fit q hm.2⟩,h⟩
noncomputable def tNx:au:=fun args I=>match args with
 | [.c (.p 0 0 0),.ag [.i _ a,.i _ b,.i _ c]]=>Qf I fun M=>.aF (args=[.c (.p 0 0 0),.ag (dY (a,b,c))]∧M.bM) (.ret (oNx M (M.next (a,b,c))))
 | _=>.fail
attribute [local irreducible] NB in
theorem kNx:Known prog GL 71 tNx:=by
 refine gQ (ι:=Mc × Ky) (T:=fun x=>NB x.1 x.2) (mcZ,wj) (fun x=>arD x.1 x.2) fun args I R h=>?_
 unfold tNx at h
 split at h
 case h_2=>exact h.elim
 rename_i _ a _ b _ c
 obtain ⟨M,rfl,hM,⟨h1,hg⟩,h⟩:=fo h
 rw [h1]
 exact ⟨(M,a,b,c),(aJ.of_eq (adY M a b c R) (arE hg h)).out⟩
end cH
namespace rv
open Go Go.Nx pk ac bR wX dec cH
structure Rm where
 mg:Int
 pn:Int
 sb:Int
 ds:List Int
 su:List Int
 sub:Bool
 hd:Bool
 rv:Bool
 mx:Bool
def Rm.nc (s:Rm):List NC:=[.i .i64 s.mg,.i .i64 s.pn,.i .i64 s.sb,.l .i64 s.ds,.l .i64 s.su,.b s.sub,.b s.hd,.b s.rv,.b s.mx]
def Rm.ky (s:Rm):Ky:=(s.mg,s.pn,s.sb)
def rmZ:Rm:=⟨1,0,16255,[],[],false,false,false,false⟩
structure Rv where
 m:Mc
 s:Rm
 p:Pg
 fd:Bool
 tk:Int
noncomputable def Yf (r:Nat) (rm:List NC) (p:Pg) (x:NC) (fd:Bool) (tk:Int):aG:=⟨1073,139,.sg (uw p x (.p r 0 0::rm) fun q=>[.cells (q++[.b fd,.i .i64 tk])])⟩
noncomputable def rcG (V:Rv):aG:=Yf 1 V.s.nc V.p (.lr K3 V.p.ex) V.fd V.tk
noncomputable def stN (n:Nat) (s:lC):aG:=Ma s.gA n (.hz (n+1) s.l.length) s.wi.1 s.wi.2.1 s.wi.2.2 s.pd
noncomputable def wC (V:Rv):List aG:=[rcG V,Ii 2 V.m.v V.m.inf,stN 3 V.m.st.bR,ac.eN V.m.st.bR.m,aY (aC V.m.st.bR.l)]
def als:List aG->Option Rv
 | ⟨_,_,.sg [.cells [.p _ _ _,.i _ a,.i _ b,.i _ c,.l _ ds,.l _ su,.b sub,.b hd,.b rv,.b mx,.i _ mg,.i _ pn,.i _ sb],.aA _ _ cc,.cells [.i _ op],.ints _ _ rows,.aA _ _ th,.cells [.lr _ ex],.aA _ _ lk,.cells [.b ld,.i _ df,.b fd,.i _ tk]]⟩::rest=>(match acr rest with
   | some M=>some ⟨M,⟨a,b,c,ds,su,sub,hd,rv,mx⟩,⟨mg,pn,sb,cc,op,rows,th,ex,lk,ld,df⟩,fd,tk⟩
   | none=>none)
 | _=>none
def Rv.bk (V:Rv):Rv:={V with m:=cH.bk V.m}
theorem Rv.fm (V:Rv) (h:V.m.wu):V.bk=V:=by unfold Rv.bk; rw [cH.fm _ h]
def onV (I:List aG) (f:Rv->Tr Out):Tr Out:=
 match als I with
 | some V=>.aF (I=wC V∧V.m.ok) (f V)
 | none=>.fail
theorem j5 {I:List aG} {f:Rv->Tr Out} {R:Out->Prop} (h:(onV I f).run R):∃ V,I=wC V∧V.m.ok∧(f V).run R:=by
 unfold onV at h
 split at h
 ·exact ⟨_,h.1.1,h.1.2,h.2⟩
 ·exact h.elim
noncomputable def Yg:FuncId->Option au:=aE [(143,ajo)]
theorem ad0:∀ f T,Yg f=some T->Known prog GL f T:=(aq.cons au2 .nil).get
noncomputable def KD:au:=fun args I=>aD prog GL Yg [] f111 args I
theorem alu:Known prog GL 111 KD:=ah func111 rfl (by kernel_rfl) mixed ad0 (by kernel_rfl)
noncomputable def NF:FuncId->Option au:=aE [(110,Uk)]
theorem Yi:∀ f T,NF f=some T->Known prog GL f T:=(aq.cons apI .nil).get
noncomputable def D2:au:=fun args I=>aD prog GL NF [] f63 args I
theorem ad1:Known prog GL 63 D2:=ah func63 rfl (by kernel_rfl) mixed Yi (by kernel_rfl)
def Mc.pinned (M:Mc) (k:Ky):Mc:={M with st:={M.st with wi:=k,pd:=true}}
def Mc.zq (M:Mc):Mc:={M with st:={M.st with pd:=false}}
noncomputable def oMc (M:Mc):Out:=⟨.tu [],(dO M).map some⟩
theorem QX (M:Mc) (k:Ky) (R:Out->Prop):(KD [.c (.p 0 0 0),.ag (dY k)] (dO M)).run R=((bR.yP M.st=bR.yP (jN M.st)∧(jN M.st).ok)∧R (oMc (Mc.pinned {M with st:=jN M.st} k))):=by kernel_rfl
theorem KE (M:Mc) (R:Out->Prop):(D2 [.c (.p 0 0 0)] (dO M)).run R=((bR.yP M.st=bR.yP (jN M.st)∧(jN M.st).ok)∧R (oMc (Mc.zq {M with st:=jN M.st}))):=by kernel_rfl
noncomputable def Yj:au:=fun args I=>match args with
 | [.c (.p 0 0 0),.ag [.i _ a,.i _ b,.i _ c]]=>Qf I fun M=>.aF (args=[.c (.p 0 0 0),.ag (dY (a,b,c))]) (.ret (oMc (Mc.pinned M (a,b,c))))
 | _=>.fail
noncomputable def KF:au:=fun args I=>match args with
 | [.c (.p 0 0 0)]=>Qf I fun M=>.ret (oMc (Mc.zq M))
 | _=>.fail
theorem NG (M:Mc):({M with st:=jN M.st}:Mc)=M:=by rw [iO]
attribute [local irreducible] KD in
theorem arF:Known prog GL 111 Yj:=by
 refine alu.less fun args I R h=>?_
 unfold Yj at h
 split at h
 case h_2=>exact h.elim
 rename_i _ a _ b _ c
 obtain ⟨M,rfl,hM,h1,h⟩:=fo h
 rw [h1]
 refine (aJ.of_eq (QX M (a,b,c) R) ⟨⟨by rw [iO],by rw [iO]; exact hM.2⟩,?_⟩).out
 rw [NG]
 exact h
attribute [local irreducible] D2 in
theorem alv:Known prog GL 63 KF:=by
 refine ad1.less fun args I R h=>?_
 unfold KF at h
 split at h
 case h_2=>exact h.elim
 obtain ⟨M,rfl,hM,h⟩:=fo h
 refine (aJ.of_eq (KE M R) ⟨⟨by rw [iO],by rw [iO]; exact hM.2⟩,?_⟩).out
 rw [NG]
 exact h
noncomputable def Yk:FuncId->Option au:=aE [(111,Yj)]
theorem ad2:∀ f T,Yk f=some T->Known prog GL f T:=(aq.cons arF .nil).get
noncomputable def zr:au:=fun args I=>aD prog GL Yk [] f64 args I
theorem Yl:Known prog GL 64 zr:=ah func64 rfl (by kernel_rfl) mixed ad2 (by kernel_rfl)
def Rv.shown (V:Rv) (x:Pg × Bool):Rv:=match x.2 with
 | true=>{V with m:=Mc.pinned V.m (bA x.1),p:=x.1,fd:=true}
 | false=>V
noncomputable def KG (V:Rv):Out:=⟨.tu [],(wC V).map some⟩
noncomputable def ahF (V:Rv) (q:Pg) (is:Bool) (R:Out->Prop):Prop:=af is ((dO V.m=dO (cH.bk V.m)∧(cH.bk V.m).ok)∧[NV.c (.p 0 0 0),.ag (dY (bA q))]=[.c (.p 0 0 0),.ag (dY (bA q))]∧R (KG (V.bk.shown (q,true)))) (R (KG V))
theorem QY (V:Rv) (q:Pg) (is:Bool) (R:Out->Prop):(zr [.c (.p 0 0 0),fa q,.c (.b is)] (wC V)).run R=ahF V q is R:=by kernel_rfl
noncomputable def BR:au:=fun args I=>match args with
 | [.c (.p 0 0 0),v,.c (.b is)]=>(match bR.nX v with
   | some q=>onV I fun V=>.aF (args=[.c (.p 0 0 0),fa q,.c (.b is)]) (.ret (KG (V.shown (q,is))))
   | none=>.fail)
 | _=>.fail
attribute [local irreducible] zr in
theorem Ym:Known prog GL 64 BR:=by
 refine Yl.less fun args I R h=>?_
 unfold BR at h
 split at h
 case h_2=>exact h.elim
 rename_i v is
 split at h
 case h_2=>exact h.elim
 rename_i q _
 obtain ⟨V,rfl,hV,h1,h⟩:=j5 h
 rw [h1]
 refine (aJ.of_eq (QY V q is R) ?_).out
 unfold ahF
 rw [V.fm hV.1,cH.fm _ hV.1]
 cases is with
 | true=>exact sT rfl ⟨⟨rfl,hV⟩,rfl,h⟩
 | false=>exact sF rfl h
noncomputable def HB:au:=fun args I=>aD prog GL (fun _=>ay1) [] f61 args I
theorem Yn:Known prog GL 61 HB:=ah func61 rfl (by kernel_rfl) mixed az (by kernel_rfl)
noncomputable def NH:FuncId->Option au:=aE [(10,Xs),(61,HB)]
theorem Yo:∀ f T,NH f=some T->Known prog GL f T:=(aq.cons aq1 (.cons Yn .nil)).get
noncomputable def NI:au:=fun args I=>aD prog GL NH [] f21 args I
theorem ad3:Known prog GL 21 NI:=ah func21 rfl (by kernel_rfl) mixed Yo (by kernel_rfl)
def ahG:List (Nat × Nat × Nat × NC):=[(0,0,4,.l .i64 []),(0,0,5,.l .i64 []),(0,5,0,.lr K3 [])]
noncomputable def D3:au:=da [] [] [] ahG 5 NI
theorem ad4:Known prog GL 21 D3:=ad3.soft [] [] [] ahG 5
def NJ (n:Int):Rv:=⟨mcN n,rmZ,fO,false,0⟩
noncomputable def oNv (n:Int):Out:=⟨.tu [.c (.p 0 0 0),.c .en],(wC (NJ n)).map some⟩
theorem QZ (n:Int) (R:Out->Prop):(D3 [.c (.i .i64 n)] []).run R=([NV.c (.i .i64 n)]=[NV.c (.i .i64 n)]∧af (decide (n<1)) (R oNo) (af (decide (n > 800)) (R oNo) (R (oNv n)))):=by kernel_rfl
noncomputable def NK:au:=fun args I=>match args,I with
 | [.c (.i _ n)],[]=>.aF (args=[.c (.i .i64 n)]) (.br (decide (n<1)) (.ret oNo) (.br (decide (n > 800)) (.ret oNo) (.ret (oNv n))))
 | _,_=>.fail
attribute [local irreducible] D3 in
theorem ahH:Known prog GL 21 NK:=by
 refine ad4.less fun args I R h=>?_
 unfold NK at h
 split at h
 case h_2=>exact h.elim
 rename_i n
 rw [h.1]
 exact (aJ.of_eq (QZ n R) ⟨rfl,h.2⟩).out
noncomputable def NL:au:=fun args I=>aD prog GL (fun _=>ay1) [] f60 args I
theorem ad5:Known prog GL 60 NL:=ah func60 rfl (by kernel_rfl) mixed az (by kernel_rfl)
noncomputable def ahI:FuncId->Option au:=aE [(11,tPk),(18,tFd),(64,BR)]
theorem alw:∀ f T,ahI f=some T->Known prog GL f T:=(aq.cons kPk (.cons kFd (.cons Ym .nil))).get
noncomputable def Yp:au:=fun args I=>aD prog GL ahI [] f24 args I
theorem arG:Known prog GL 24 Yp:=ah func24 rfl (by kernel_rfl) mixed alw (by kernel_rfl)
noncomputable def stO (n k:Nat) (s:lC):aG:=Ma s.gA n (.hz k s.l.length) s.wi.1 s.wi.2.1 s.wi.2.2 s.pd
noncomputable def KH (V:Rv):List (Option aG):=[some (rcG V),some (Ii 2 V.m.v V.m.inf),some (stO 3 5 V.m.st.bR),some (ac.eN V.m.st.bR.m),none,some (aY (aC V.m.st.bR.l))]
noncomputable def Q5 (V:Rv) (e:NC):Out:=⟨.v (.c e),KH V⟩
def Rv.look (V:Rv):Rv:=match V.s.hd with
 | true=>V
 | false=>V.shown (V.m.find V.s.ky)
noncomputable def Rv.eV (V:Rv) (bs:List Int):Rv × Option Nat:=match (V.m.step bs).2 with
 | none=>(Rv.look {V with m:=(V.m.step bs).1},none)
 | some k=>({V with m:=(V.m.step bs).1},some k)
def Rv.zt (V:Rv) (M:Mc):Rv:={V with m:=M}
noncomputable def Yq (V:Rv) (R:Rv->Prop):Prop:=(dO V.m=dO (cH.bk V.m)∧(cH.bk V.m).ok)∧(([NV.c (.p 0 0 0),.ag (dY V.s.ky)]=[.c (.p 0 0 0),.ag (dY V.s.ky)]∧(cH.bk V.m).bM)∧
 ((wC V.bk=wC V.bk.bk∧V.bk.bk.m.ok)∧([NV.c (.p 0 0 0),fa ((cH.bk V.m).find V.s.ky).1,.c (.b ((cH.bk V.m).find V.s.ky).2)]=[.c (.p 0 0 0),fa ((cH.bk V.m).find V.s.ky).1,.c (.b ((cH.bk V.m).find V.s.ky).2)]∧R (V.bk.bk.shown ((cH.bk V.m).find V.s.ky)))))
noncomputable def alx (V:Rv) (bs:List Int) (R:Out->Prop):Prop:=
 (dO V.m=dO (cH.bk V.m)∧(cH.bk V.m).ok)∧(([NV.c (.p 0 0 0),.c (.l .u8 bs)]=[.c (.p 0 0 0),.c (.l .u8 bs)]∧(cH.bk V.m).bM∧∀ b∈bs,0<=b∧b<256)∧
   af (((cH.bk V.m).step bs).2==none) (af (!V.s.hd) (Yq (V.zt ((cH.bk V.m).step bs).1) fun V=>R (Q5 V .en)) (R (Q5 (V.zt ((cH.bk V.m).step bs).1) .en)))
    (af (((cH.bk V.m).step bs).2==some fM) (R (Q5 (V.zt ((cH.bk V.m).step bs).1) (.e fM))) (af (((cH.bk V.m).step bs).2==some dX) (R (Q5 (V.zt ((cH.bk V.m).step bs).1) (.e dX))) (af (((cH.bk V.m).step bs).2==some fN) (R (Q5 (V.zt ((cH.bk V.m).step bs).1) (.e fN))) (R (Q5 (V.zt ((cH.bk V.m).step bs).1) (.e oY)))))))
theorem Yr (V:Rv) (bs:List Int) (R:Out->Prop):(Yp [.c (.p 0 0 0),.c (.l .u8 bs)] (wC V)).run R=alx V bs R:=by kernel_rfl
theorem ad6 {V:Rv} {R:Rv->Prop} (hV:V.m.bM) (h:R (V.shown (V.m.find V.s.ky))):Yq V R:=by
 unfold Yq
 rw [V.fm hV.wu,V.fm hV.wu,hV.bk]
 exact ⟨⟨rfl,hV.ok⟩,⟨rfl,hV⟩,⟨rfl,hV.ok⟩,rfl,h⟩
noncomputable def arH (e:Option Nat) (V:Rv):Tr Out:=
 .br (e==none) (.ret (Q5 V .en)) (.br (e==some fM) (.ret (Q5 V (.e fM))) (.br (e==some dX) (.ret (Q5 V (.e dX))) (.br (e==some fN) (.ret (Q5 V (.e fN))) (.ret (Q5 V (.e oY))))))
theorem Ys {e:Option Nat} {V:Rv} {R:Out->Prop} (he:e=none∨e=some fM∨e=some dX∨e=some fN∨e=some oY) (h:(arH e V).run R):R (Q5 V (ncE e)):=by
 rcases he with rfl | rfl | rfl | rfl | rfl
 all_goals exact h
noncomputable def aly:au:=fun args I=>match args with
 | [.c (.p 0 0 0),.c (.l _ bs)]=>onV I fun V=>.aF (args=[.c (.p 0 0 0),.c (.l .u8 bs)]∧V.m.bM∧∀ b∈bs,0<=b∧b<256) (arH (V.eV bs).2 (V.eV bs).1)
 | _=>.fail
theorem KJ (V:Rv) (bs:List Int):(V.eV bs).2=(V.m.step bs).2:=by
 unfold Rv.eV
 split <;> simp [*]
theorem alz {V:Rv} {bs:List Int} {R:Out->Prop} (hV:V.m.bM) (hb:∀ b∈bs,0<=b∧b<256) (h:R (Q5 (V.eV bs).1 (ncE (V.eV bs).2))):alx V bs R:=by
 have hg:=BL hV hb
 unfold alx
 rw [hV.bk]
 refine ⟨⟨rfl,hV.ok⟩,⟨rfl,hV,hb⟩,?_⟩
 unfold Rv.eV at h
 rcases zd V.m bs with he | he | he | he | he
 ·rw [he] at h ⊢
  refine sT rfl ?_
  unfold Rv.look at h
  cases hh:V.s.hd with
  | true=>simp only [hh] at h; exact sF rfl h
  | false=>
    simp only [hh] at h
    exact sT rfl (ad6 (V:=V.zt (V.m.step bs).1) hg h)
 all_goals rw [he] at h ⊢; exact h
attribute [local irreducible] Yp in
theorem av4:Known prog GL 24 aly:=by
 refine arG.less fun args I R h=>?_
 unfold aly at h
 split at h
 case h_2=>exact h.elim
 rename_i _ bs
 obtain ⟨V,rfl,hV,⟨h1,hg,hb⟩,h⟩:=j5 h
 rw [h1]
 refine (aJ.of_eq (Yr V bs R) (alz hg hb (Ys ?_ h))).out
 rw [KJ]
 exact zd V.m bs
noncomputable def Yt:FuncId->Option au:=aE [(71,tNx),(64,BR)]
theorem ad7:∀ f T,Yt f=some T->Known prog GL f T:=(aq.cons kNx (.cons Ym .nil)).get
noncomputable def KK:au:=fun args I=>aD prog GL Yt [] f31 args I
theorem alA:Known prog GL 31 KK:=ah func31 rfl (by kernel_rfl) mixed ad7 (by kernel_rfl)
def Rv.js (V:Rv):Rv:={V with tk:=IntKind.i64.wrap (V.tk+1)}
noncomputable def Yu (V:Rv) (R:Rv->Prop):Prop:=(dO V.m=dO (cH.bk V.m)∧(cH.bk V.m).ok)∧(([NV.c (.p 0 0 0),.ag (dY (bA V.p))]=[.c (.p 0 0 0),.ag (dY (bA V.p))]∧(cH.bk V.m).bM)∧
 ((wC V.bk=wC V.bk.bk∧V.bk.bk.m.ok)∧([NV.c (.p 0 0 0),fa ((cH.bk V.m).next (bA V.p)).1,.c (.b ((cH.bk V.m).next (bA V.p)).2)]=[.c (.p 0 0 0),fa ((cH.bk V.m).next (bA V.p)).1,.c (.b ((cH.bk V.m).next (bA V.p)).2)]∧R (V.bk.bk.shown ((cH.bk V.m).next (bA V.p))))))
noncomputable def Yv (V:Rv) (R:Rv->Prop):Prop:=af (V.js.tk.tmod 4==0) (af (!V.s.hd) (af (V.s.sb==16255) (af V.fd (Yu V.js R) (R V.js)) (R V.js)) (R V.js)) (R V.js)
theorem Q6 (V:Rv) (R:Out->Prop):(KK [.c (.p 0 0 0)] (wC V)).run R=Yv V fun V=>R (KG V):=by kernel_rfl
def Rv.tick (V:Rv):Rv:=match (V.js.tk.tmod 4==0)&&(!V.s.hd&&((V.s.sb==16255)&&V.fd)) with
 | true=>V.js.shown (V.m.next (bA V.p))
 | false=>V.js
theorem ad8 {V:Rv} {R:Rv->Prop} (hV:V.m.bM) (h:R (V.shown (V.m.next (bA V.p)))):Yu V R:=by
 unfold Yu
 rw [V.fm hV.wu,V.fm hV.wu,hV.bk]
 exact ⟨⟨rfl,hV.ok⟩,⟨rfl,hV⟩,⟨rfl,hV.ok⟩,rfl,h⟩
theorem ad9 {V:Rv} {R:Rv->Prop} (hV:V.m.bM) (h:R V.tick):Yv V R:=by
 unfold Yv
 unfold Rv.tick at h
 cases h1:(V.js.tk.tmod 4==0) with
 | false=>rw [h1] at h; exact sF rfl h
 | true=>
   cases h2:V.s.hd with
   | true=>rw [h1,h2] at h; exact sT rfl (sF rfl h)
   | false=>
     cases h3:(V.s.sb==16255) with
     | false=>rw [h1,h2,h3] at h; exact sT rfl (sT rfl (sF rfl h))
     | true=>
       cases h4:V.fd with
       | false=>rw [h1,h2,h3,h4] at h; exact sT rfl (sT rfl (sT rfl (sF rfl h)))
       | true=>
         rw [h1,h2,h3,h4] at h
         exact sT rfl (sT rfl (sT rfl (sT rfl (ad8 (V:=V.js) hV h))))
noncomputable def Yw:au:=fun args I=>match args with
 | [.c (.p 0 0 0)]=>onV I fun V=>.aF V.m.bM (.ret (KG V.tick))
 | _=>.fail
attribute [local irreducible] KK in
theorem arJ:Known prog GL 31 Yw:=by
 refine alA.less fun args I R h=>?_
 unfold Yw at h
 split at h
 case h_2=>exact h.elim
 obtain ⟨V,rfl,hV,hg,h⟩:=j5 h
 exact (aJ.of_eq (Q6 V R) (ad9 hg h)).out
theorem Yx:bP prog GL 106 (fun args I=>aD prog GL (fun _=>ay1) [] f106 args I):=dp func106 rfl (by kernel_rfl) mixed az (by kernel_rfl)
noncomputable def ahJ:au:=da [] [0] [(0,0,0,.l .i64 [])] [] 0 (fun args I=>aD prog GL (fun _=>ay1) [] f106 args I)
theorem alC:Known prog GL 106 ahJ:=Yx.soft [] [0] [(0,0,0,.l .i64 [])] [] 0
theorem Yy (xs:List Int) (R:Out->Prop):(ahJ [.c (.l .i64 xs)] []).run R =
 af xs.isEmpty (∀ y:Bool,True->af y (R ⟨.v (.c (.l .i64 [])),[]⟩) (af (decide ((0+xs.length) * bf prog 3<=140737488355328)) (af (decide (0+xs.length<=9223372036854775807)) (0+xs.length=xs.length∧R ⟨.v (.c (.l .i64 xs)),[]⟩) False) False))
  (af (decide ((0+xs.length) * bf prog 3<=140737488355328)) (af (decide (0+xs.length<=9223372036854775807)) (0+xs.length=xs.length∧R ⟨.v (.c (.l .i64 xs)),[]⟩) False) False):=by kernel_rfl
theorem KL:bf prog 3=8:=by kernel_rfl
noncomputable def Yz:au:=fun args I=>match args,I with
 | [.c (.l _ xs)],[]=>.aF (args=[.c (.l .i64 xs)]∧xs.length<=1000000) (.ret ⟨.v (.c (.l .i64 xs)),[]⟩)
 | _,_=>.fail
theorem arK:Known prog GL 106 Yz:=by
 refine alC.less fun args I R h=>aJ.out ?_
 unfold Yz at h
 split at h
 case h_2=>exact h.elim
 rename_i xs
 obtain ⟨⟨h1,hl⟩,h⟩:=h
 rw [h1]
 refine aJ.of_eq (Yy xs R) ?_
 have hb:=KL
 have key:af (decide ((0+xs.length) * bf prog _<=140737488355328)) (af (decide (0+xs.length<=9223372036854775807)) (0+xs.length=xs.length∧R ⟨.v (.c (.l .i64 xs)),[]⟩) False) False:=sT (axv (by rw [hb]; omega)) (sT (axv (by omega)) ⟨by omega,h⟩)
 cases hx:xs.isEmpty with
 | false=>exact sF rfl key
 | true=>
   refine sT rfl fun y _=>?_
   have e:xs=[]:=List.isEmpty_iff.1 hx
   subst e
   cases y with
   | true=>exact sT rfl h
   | false=>exact sF rfl key
noncomputable def arI (xs:List Int):aG:=⟨1,3,.ints .i64 xs⟩
noncomputable def ahK:au:=iM 1 [] (some (arI [])) (fun args I=>aD prog GL (fun _=>ay1) [] f106 args I)
theorem alD:bP prog GL 106 ahK:=Yx.canon 1 [] (some (arI []))
noncomputable def arL (xs:List Int):Out:=⟨.v (.c (.hz 1 xs.length)),[none,some (arI xs)]⟩
theorem YA (xs:List Int) (R:Out->Prop):(ahK [.c (.l .i64 xs)] []).run R =
 af xs.isEmpty (∀ y:Bool,True->af y (R (arL [])) (af (decide ((0+xs.length) * bf prog 3<=140737488355328)) (af (decide (0+xs.length<=9223372036854775807)) (R ⟨.v (.c (.hz 1 (0+xs.length))),[none,some (arI xs)]⟩) False) False))
  (af (decide ((0+xs.length) * bf prog 3<=140737488355328)) (af (decide (0+xs.length<=9223372036854775807)) (R ⟨.v (.c (.hz 1 (0+xs.length))),[none,some (arI xs)]⟩) False) False):=by kernel_rfl
noncomputable def aea:au:=fun args I=>match args,I with
 | [.c (.l _ xs)],[]=>.aF (args=[.c (.l .i64 xs)]∧xs.length<=1000000) (.ret (arL xs))
 | _,_=>.fail
theorem arM:bP prog GL 106 aea:=by
 refine alD.less fun args I R h=>aJ.out ?_
 unfold aea at h
 split at h
 case h_2=>exact h.elim
 rename_i xs
 obtain ⟨⟨h1,hl⟩,h⟩:=h
 rw [h1]
 refine aJ.of_eq (YA xs R) ?_
 have hb:=KL
 have h' : R ⟨.v (.c (.hz 1 (0+xs.length))),[none,some (arI xs)]⟩:=by rw [Nat.zero_add]; exact h
 have key:af (decide ((0+xs.length) * bf prog _<=140737488355328)) (af (decide (0+xs.length<=9223372036854775807)) (R ⟨.v (.c (.hz 1 (0+xs.length))),[none,some (arI xs)]⟩) False) False:=sT (axv (by rw [hb]; omega)) (sT (axv (by omega)) h')
 cases hx:xs.isEmpty with
 | false=>exact sF rfl key
 | true=>
   refine sT rfl fun y _=>?_
   have e:xs=[]:=List.isEmpty_iff.1 hx
   subst e
   cases y with
   | true=>exact sT rfl h
   | false=>exact sF rfl key
noncomputable def YB:FuncId->Option au:=aE [(113,NA)]
theorem aeb:∀ f T,YB f=some T->Known prog GL f T:=(aq.cons X7 .nil).get
noncomputable def YC:au:=fun args I=>aD prog GL YB [] f165 args I
theorem alE:Known prog GL 165 YC:=ah func165 rfl (by kernel_rfl) mixed aeb (by kernel_rfl)
noncomputable def ahL:au:=fun args I=>aD prog GL (fun _=>ay1) [] f139 args I
theorem arN:Known prog GL 139 ahL:=ah func139 rfl (by kernel_rfl) mixed az (by kernel_rfl)
noncomputable def plc (n:Int):Ky:=match decide (n<100)||decide (n > 899) with
 | true=>(0,0,0)
 | false=>(IntKind.i64.wrap (n.tdiv 100),bits .or .i64 (bH .i64 ((IntKind.i64.wrap (n.tdiv 10)).tmod 10) 4) (n.tmod 10),16255)
def alF (n:Int):Bool:=!(decide (n<100)||decide (n > 899))
noncomputable def YD (x:Ky × Bool):Out:=⟨.tu [.ag (dY x.1),.c (.b x.2)],[]⟩
theorem YE (n:Int) (R:Out->Prop):(ahL [.c (.i .i64 n)] []).run R=af (decide (n<100)) (R (YD ((0,0,0),false))) (af (decide (n > 899)) (R (YD ((0,0,0),false))) (R (YD ((IntKind.i64.wrap (n.tdiv 100),bits .or .i64 (bH .i64 ((IntKind.i64.wrap (n.tdiv 10)).tmod 10) 4) (n.tmod 10),16255),true)))):=by kernel_rfl
noncomputable def aec:au:=fun args I=>match args,I with
 | [.c (.i _ n)],[]=>.aF (args=[.c (.i .i64 n)]) (.ret (YD (plc n,alF n)))
 | _,_=>.fail
theorem arO:Known prog GL 139 aec:=by
 refine arN.less fun args I R h=>?_
 unfold aec at h
 split at h
 case h_2=>exact h.elim
 rename_i n
 obtain ⟨h1,h⟩:=h
 rw [h1]
 refine (aJ.of_eq (YE n R) ?_).out
 have h:R (YD (plc n,alF n)):=h
 unfold plc alF at h
 cases h2:decide (n<100) with
 | true=>rw [h2] at h; exact sT rfl h
 | false=>
   cases h3:decide (n > 899) with
   | true=>rw [h2,h3] at h; exact sF rfl (sT rfl h)
   | false=>rw [h2,h3] at h; exact sF rfl (sF rfl h)
noncomputable def D4:au:=fun args I=>aD prog GL (fun _=>ay1) [] f140 args I
theorem KM:Known prog GL 140 D4:=ah func140 rfl (by kernel_rfl) mixed az (by kernel_rfl)
noncomputable def YG:FuncId->Option au:=aE [(165,YC)]
theorem aed:∀ f T,YG f=some T->Known prog GL f T:=(aq.cons alE .nil).get
noncomputable def KN:au:=fun args I=>aD prog GL YG [] f142 args I
theorem alG:Known prog GL 142 KN:=ah func142 rfl (by kernel_rfl) mixed aed (by kernel_rfl)
noncomputable def NM:FuncId->Option au:=aE [(113,NA)]
theorem YH:∀ f T,NM f=some T->Known prog GL f T:=(aq.cons X7 .nil).get
noncomputable def NN:au:=fun args I=>aD prog GL NM [] f141 args I
theorem aee:Known prog GL 141 NN:=ah func141 rfl (by kernel_rfl) mixed YH (by kernel_rfl)
noncomputable def YI:FuncId->Option au:=aE [(141,NN),(140,D4)]
theorem aef:∀ f T,YI f=some T->Known prog GL f T:=(aq.cons aee (.cons KM .nil)).get
noncomputable def YJ:au:=fun args I=>aD prog GL YI [] f108 args I
theorem alH:Known prog GL 108 YJ:=ah func108 rfl (by kernel_rfl) mixed aef (by kernel_rfl)
noncomputable def KO:FuncId->Option au:=aE [(106,aea)]
theorem NO:∀ f T,KO f=some T->Known prog GL f T:=(aq.cons arM.known .nil).get
noncomputable def YK:Cx:={P:=prog,con:=KO,glob:=GL,m:=0,loops:=[]}
noncomputable def YL:au:=fun args I=>if I.length=0 then aD prog GL KO [(0,[2,4,6,23,24,25],cF YK 0 [2,4,6,23,24,25] [2,4,6] (ae f138 0) 5)] f138 args I else .fail
theorem alI:Known prog GL 138 YL:=av 0 func138 rfl (by kernel_rfl) mixed NO (aM.one (id:=0) (body:=ae f138 0) (by kernel_rfl) rfl (bL (X:=YK) NO mixed (aM.none (by kernel_rfl)) [2,4,6,23,24,25] [2,4,6] 5))
def KP:List NC->Option Rm
 | [.i _ a,.i _ b,.i _ c,.l _ ds,.l _ su,.b sub,.b hd,.b rv,.b mx]=>some ⟨a,b,c,ds,su,sub,hd,rv,mx⟩
 | _=>none
def qK:List (Nat × Nat × Nat × NC):=[(0,0,3,.l .i64 []),(0,0,4,.l .i64 [])]
noncomputable def D5:au:=da [] [0] qK [] 0 YL
theorem aeg:Known prog GL 138 D5:=alI.soft [] [0] qK [] 0
noncomputable def jt (x:Rm × Bool):Out:=⟨.tu [.ag x.1.nc,.c (.b x.2)],[]⟩
noncomputable def Ks (xs:List Int):Int:=bits .and .i64 (IntKind.i64.wrap (bH .i64 (IntKind.i64.wrap (bH .i64 (IntKind.i64.wrap (bH .i64 (IntKind.i64.wrap (0+xs.getD 0 0)) 4+xs.getD 1 0)) 4+xs.getD 2 0)) 4+xs.getD 3 0)) 16255
def snoc (xs:List Int) (d:Int):List Int:=azo xs.length xs++azo 1 (azs 0 [d])
theorem NP (xs:List Int) (d:Int):snoc xs d=xs++[d]:=by unfold snoc; rw [azp]; rfl
noncomputable def RW (xs:List Int) (N:Prop):Prop:=af (decide (xs.length<=xs.length)) (af (decide ((xs.length+1) * bf prog 3<=140737488355328)) (af (decide (xs.length+1<=9223372036854775807)) N False) False) False
theorem rH {xs:List Int} {N:Prop} (h:xs.length<=1000) (hN:N):RW xs N:=by
 unfold RW
 rw [KL]
 exact sT (axv (Nat.le_refl _)) (sT (axv (by omega)) (sT (axv (by omega)) hN))
noncomputable def arP (s:Rm) (d:Int) (R:Out->Prop):Prop:=([NV.c (.l .i64 s.su)]=[.c (.l .i64 s.su)]∧s.su.length<=1000000)∧RW s.su
 (af (decide (((s.su.length+1:Nat):Int)<4)) (s.su.length+1=(snoc s.su d).length∧R (jt ({s with su:=snoc s.su d},false)))
   (af (decide ((4:Int)<=((s.su.length+1:Nat):Int))) (af (decide (0<(snoc s.su d).length)) (af (decide (1<(snoc s.su d).length)) (af (decide (2<(snoc s.su d).length)) (af (decide (3<(snoc s.su d).length)) (R (jt ({s with sb:=Ks (snoc s.su d),su:=[],sub:=false},true))) False) False) False) False) False))
theorem Q7 (s:Rm) (d:Int) (R:Out->Prop):(D5 [.ag s.nc,.c (.i .i64 d)] []).run R=arP s d R:=by kernel_rfl
noncomputable def Rm.Q8 (s:Rm) (d:Int):Rm × Bool:=match decide (s.su.length<3) with
 | true=>({s with su:=s.su++[d]},false)
 | false=>({s with sb:=Ks (s.su++[d]),su:=[],sub:=false},true)
noncomputable def YM:au:=fun args I=>match args,I with
 | [.ag xs,.c (.i _ d)],[]=>(match KP xs with
   | some s=>.aF (args=[.ag s.nc,.c (.i .i64 d)]∧s.su.length<=3) (.ret (jt (s.Q8 d)))
   | none=>.fail)
 | _,_=>.fail
attribute [local irreducible] D5 in
theorem arQ:Known prog GL 138 YM:=by
 refine aeg.less fun args I R h=>?_
 unfold YM at h
 split at h
 case h_2=>exact h.elim
 split at h
 case h_2=>exact h.elim
 rename_i s _
 obtain ⟨⟨h1,hl⟩,h⟩:=h
 rw [h1]
 refine (aJ.of_eq (Q7 s _ R) ⟨⟨rfl,by omega⟩,rH (by omega) ?_⟩).out
 rw [NP,axG]
 unfold Rm.Q8 at h
 by_cases hc:s.su.length<3
 ·rw [axv hc] at h
  exact sT (axv (by omega)) ⟨rfl,h⟩
 ·rw [axw hc] at h
  have e:([‹Int›]:List Int).length=1:=rfl
  exact sF (axw (by omega)) (sT (axv (by omega)) (sT (axv (by omega)) (sT (axv (by omega)) (sT (axv (by omega)) (sT (axv (by omega)) h)))))
noncomputable def YO:FuncId->Option au:=aE [(106,aea),(138,YM),(139,aec),(140,D4)]
theorem YP:∀ f T,YO f=some T->Known prog GL f T:=(aq.cons arM.known (.cons arQ (.cons arO (.cons KM .nil)))).get
noncomputable def ahM:Cx:={P:=prog,con:=YO,glob:=GL,m:=0,loops:=[]}
noncomputable def ahN:au:=fun args I=>if I.length=0 then aD prog GL YO [(1,[2,4,6,47,48,49],cF ahM 1 [2,4,6,47,48,49] [2,4,6] (ae f107 1) 4)] f107 args I else .fail
theorem arR:Known prog GL 107 ahN:=av 0 func107 rfl (by kernel_rfl) mixed YP (aM.one (id:=1) (body:=ae f107 1) (by kernel_rfl) rfl (bL (X:=ahM) YP mixed (aM.none (by kernel_rfl)) [2,4,6,47,48,49] [2,4,6] 4))
noncomputable def YQ (xs:List Int):Int:=IntKind.i64.wrap (IntKind.i64.wrap (10 * IntKind.i64.wrap (IntKind.i64.wrap (10 * IntKind.i64.wrap (IntKind.i64.wrap (10 * 0)+xs.getD 0 0))+xs.getD 1 0))+xs.getD 2 0)
def Rm.gone (s:Rm) (k:Ky):Rm:={s with mg:=k.1,pn:=k.2.1,sb:=k.2.2,ds:=[],hd:=false,rv:=false}
noncomputable def KQ:au:=da [] [0] qK [] 0 ahN
theorem alJ:Known prog GL 107 KQ:=arR.soft [] [0] qK [] 0
noncomputable def dgM (s:Rm) (d:Int) (R:Out->Prop):Prop:=([NV.c (.l .i64 s.ds)]=[.c (.l .i64 s.ds)]∧s.ds.length<=1000000)∧RW s.ds
 (af (decide (((s.ds.length+1:Nat):Int)<3)) (s.ds.length+1=(snoc s.ds d).length∧R (jt ({s with ds:=snoc s.ds d},false)))
   (af (decide ((3:Int)<=((s.ds.length+1:Nat):Int))) (af (decide (0<(snoc s.ds d).length)) (af (decide (1<(snoc s.ds d).length)) (af (decide (2<(snoc s.ds d).length))
     ([NV.c (.i .i64 (YQ (snoc s.ds d)))]=[.c (.i .i64 (YQ (snoc s.ds d)))]∧af (decide (s.ds.length+1<=(snoc s.ds d).length)) (R (jt (s.gone (plc (YQ (snoc s.ds d))),true))) False) False) False) False) False))
noncomputable def arS (s:Rm) (d:Int) (R:Out->Prop):Prop:=af s.sub (([NV.ag s.nc,.c (.i .i64 d)]=[.ag s.nc,.c (.i .i64 d)]∧s.su.length<=3)∧R (jt (s.Q8 d)))
 (af ((s.ds.length:Int)==0) (af (decide (d<1)) (R (jt (s,false))) (af (decide (d > 8)) (R (jt (s,false))) (dgM s d R))) (dgM s d R))
theorem YR (s:Rm) (d:Int) (R:Out->Prop):(KQ [.ag s.nc,.c (.i .i64 d)] []).run R=arS s d R:=by kernel_rfl
noncomputable def Rm.aeh (s:Rm) (d:Int):Rm × Bool:=match s.ds.isEmpty&&(decide (d<1)||decide (d > 8)) with
 | true=>(s,false)
 | false=>match decide (s.ds.length<2) with
   | true=>({s with ds:=s.ds++[d]},false)
   | false=>(s.gone (plc (YQ (s.ds++[d]))),true)
noncomputable def Rm.ED (s:Rm) (d:Int):Rm × Bool:=match s.sub with
 | true=>s.Q8 d
 | false=>s.aeh d
noncomputable def alK:au:=fun args I=>match args,I with
 | [.ag xs,.c (.i _ d)],[]=>(match KP xs with
   | some s=>.aF (args=[.ag s.nc,.c (.i .i64 d)]∧s.su.length<=3∧s.ds.length<=2) (.ret (jt (s.ED d)))
   | none=>.fail)
 | _,_=>.fail
theorem YS {s:Rm} {d:Int} {R:Out->Prop} (hl:s.ds.length<=2) (h:R (jt (match decide (s.ds.length<2) with | true=>({s with ds:=s.ds++[d]},false) | false=>(s.gone (plc (YQ (s.ds++[d]))),true)))):dgM s d R:=by
 refine ⟨⟨rfl,by omega⟩,rH (by omega) ?_⟩
 have e:(s.ds++[d]).length=s.ds.length+1:=by rw [axG]; rfl
 rw [NP,e]
 by_cases hc:s.ds.length<2
 ·rw [axv hc] at h
  exact sT (axv (by omega)) ⟨rfl,h⟩
 ·rw [axw hc] at h
  exact sF (axw (by omega)) (sT (axv (by omega)) (sT (axv (by omega)) (sT (axv (by omega)) (sT (axv (by omega)) ⟨rfl,sT (axv (Nat.le_refl _)) h⟩))))
attribute [local irreducible] KQ in
theorem av5:Known prog GL 107 alK:=by
 refine alJ.less fun args I R h=>?_
 unfold alK at h
 split at h
 case h_2=>exact h.elim
 split at h
 case h_2=>exact h.elim
 rename_i d _ s _
 obtain ⟨⟨h1,hs,hl⟩,h⟩:=h
 rw [h1]
 refine (aJ.of_eq (YR s d R) ?_).out
 unfold arS
 have h:R (jt (s.ED d)):=h
 unfold Rm.ED at h
 cases h2:s.sub with
 | true=>rw [h2] at h; exact sT rfl ⟨⟨rfl,hs⟩,h⟩
 | false=>
   rw [h2] at h
   have h:R (jt (s.aeh d)):=h
   unfold Rm.aeh at h
   refine sF rfl ?_
   have e:((s.ds.length:Int)==0)=s.ds.isEmpty:=by
    cases s.ds with
    | nil=>rfl
    | cons x l=>rw [beq_eq_false_iff_ne.2 (by rw [List.length_cons]; omega)]; rfl
   rw [e]
   cases h3:s.ds.isEmpty with
   | false=>rw [h3] at h; exact sF rfl (YS hl h)
   | true=>
     rw [h3] at h
     refine sT rfl ?_
     cases h4:decide (d<1) with
     | true=>rw [h4] at h; exact sT rfl h
     | false=>
       cases h5:decide (d > 8) with
       | true=>rw [h4,h5] at h; exact sF rfl (sT rfl h)
       | false=>rw [h4,h5] at h; exact sF rfl (sF rfl (YS hl h))
def nine (n:Int):Int:=bif decide (9<n) then 9 else n
noncomputable def nmQ (a b:Int):Int:=bits .or .i64 (bH .i64 (nine a) 4) (nine b)
noncomputable def nmH (pn:Int):Int:=nmQ (bits .and .i64 (aX .i64 pn 4) 15) (bits .and .i64 pn 15)
noncomputable def nmV (mg q:Int):Int:=IntKind.i64.wrap (IntKind.i64.wrap (IntKind.i64.wrap (100 * mg)+IntKind.i64.wrap (10 * aX .i64 q 4))+bits .and .i64 q 15)
noncomputable def oN (n:Int):Out:=⟨.v (.c (.i .i64 n)),[]⟩
noncomputable def ahO (mg q:Int) (R:Out->Prop):Prop:=af (decide (mg >= 1)) (af (!decide (mg<=8)) (R (oN 0)) (af (decide (q<0)) (R (oN 0)) (af (decide (aX .i64 q 4 >= 10)) (R (oN 0)) (af (decide (bits .and .i64 q 15 >= 10)) (R (oN 0)) (R (oN (nmV mg q))))))) (R (oN 0))
theorem Q9 (mg pn sb:Int) (R:Out->Prop):(KN [.ag (dY (mg,pn,sb))] []).run R=ahO mg (nmH pn) R:=by kernel_rfl
def pB (mg pn:Int):Int:=match decide (1<=mg∧mg<=8) with
 | true=>100 * mg+10 * nine (pn / 16 % 16)+nine (pn % 16)
 | false=>0
theorem alL:∀ m<9,∀ a<16,∀ b<16,0<=nmQ (azi a) (azi b)∧aX .i64 (nmQ (azi a) (azi b)) 4<10∧bits .and .i64 (nmQ (azi a) (azi b)) 15<10∧nmV (azi m) (nmQ (azi a) (azi b))=100 * azi m+10 * nine (azi a)+nine (azi b):=by decide +kernel
theorem KR {n:Int} {k:Nat} (h:0<=n∧n<(k:Int)):∃ m<k,n=azi m:=⟨n.toNat,by omega,by show n=((n.toNat:Nat):Int); omega⟩
theorem alM (pn:Int):nmH pn=nmQ (pn / 16 % 16) (pn % 16):=by
 have e1:bits .and .i64 (aX .i64 pn 4) 15=(aX .i64 pn 4) % 16:=cB _ 4 (by decide)
 have e2:bits .and .i64 pn 15=pn % 16:=cB _ 4 (by decide)
 have e3:aX .i64 pn 4=pn / 16:=yD pn 4 (by decide)
 unfold nmH
 rw [e1,e2,e3]
noncomputable def YT:au:=fun args I=>match args,I with
 | [.ag [.i _ mg,.i _ pn,.i _ sb]],[]=>.aF (args=[.ag (dY (mg,pn,sb))]) (.ret (oN (pB mg pn)))
 | _,_=>.fail
attribute [local irreducible] KN in
theorem arT:Known prog GL 142 YT:=by
 refine alG.less fun args I R h=>?_
 unfold YT at h
 split at h
 case h_2=>exact h.elim
 rename_i _ mg _ pn _ sb
 obtain ⟨h1,h⟩:=h
 rw [h1]
 refine (aJ.of_eq (Q9 mg pn sb R) ?_).out
 have h:R (oN (pB mg pn)):=h
 unfold ahO
 unfold pB at h
 by_cases hm:1<=mg∧mg<=8
 ·rw [axv hm] at h
  obtain ⟨m,hm9,rfl⟩:=KR (n:=mg) (k:=9) ⟨by omega,by omega⟩
  obtain ⟨x,hx,ex⟩:=KR (n:=pn / 16 % 16) (k:=16) ⟨by omega,by omega⟩
  obtain ⟨y,hy,ey⟩:=KR (n:=pn % 16) (k:=16) ⟨by omega,by omega⟩
  rw [alM,ex,ey]
  rw [ex,ey] at h
  obtain ⟨k1,k2,k3,k4⟩:=alL m hm9 x hx y hy
  refine sT (axv hm.1) (sF (by rw [axv hm.2]; rfl) (sF (axw (by omega)) (sF (axw (by omega)) (sF (axw (by omega)) ?_))))
  rw [k4]
  exact h
 ·rw [axw hm] at h
  by_cases h1:mg >= 1
  ·exact sT (axv h1) (sT (by rw [axw (show ¬ mg<=8 by omega)]; rfl) h)
  ·exact sF (axw h1) h
noncomputable def NQ:FuncId->Option au:=aE [(142,YT),(139,aec),(140,D4)]
theorem YU:∀ f T,NQ f=some T->Known prog GL f T:=(aq.cons arT (.cons arO (.cons KM .nil))).get
noncomputable def NR:au:=fun args I=>aD prog GL NQ [] f109 args I
theorem aei:Known prog GL 109 NR:=ah func109 rfl (by kernel_rfl) mixed YU (by kernel_rfl)
noncomputable def D6:au:=da [] [0] qK [] 0 NR
theorem aej:Known prog GL 109 D6:=aei.soft [] [0] qK [] 0
noncomputable def goT (s:Rm) (n:Int) (R:Out->Prop):Prop:=[NV.c (.i .i64 n)]=[.c (.i .i64 n)]∧R (jt (s.gone (plc n),true))
noncomputable def goN (s:Rm) (n:Int) (R:Out->Prop):Prop:=af (decide (n > 899)) (goT s 100 R) (af (decide (n<100)) (goT s 899 R) (goT s n R))
noncomputable def arV (s:Rm) (Nd : Int) (R:Out->Prop):Prop:=[NV.ag (dY s.ky)]=[.ag (dY s.ky)]∧af (pB s.mg s.pn==0) (goN s (IntKind.i64.wrap (100+Nd)) R) (goN s (IntKind.i64.wrap (pB s.mg s.pn+Nd)) R)
theorem uJ (s:Rm) (n:Int) (R:Out->Prop):(D6 [.ag s.nc,.c (.i .i64 n)] []).run R=arV s n R:=by kernel_rfl
noncomputable def ahP (mg pn Nd : Int):Int:=
 match decide ((bif pB mg pn==0 then 100 else pB mg pn)+Nd > 899) with
 | true=>100
 | false=>match decide ((bif pB mg pn==0 then 100 else pB mg pn)+Nd<100) with
   | true=>899
   | false=>(bif pB mg pn==0 then 100 else pB mg pn)+Nd
noncomputable def Rm.sr (s:Rm) (Nd : Int):Rm × Bool:=(s.gone (plc (ahP s.mg s.pn Nd)),true)
theorem YV {s:Rm} {n:Int} {R:Out->Prop} (h:R (jt (s.gone (plc (match decide (n > 899) with | true=>100 | false=>match decide (n<100) with | true=>899 | false=>n)),true))):goN s n R:=by
 unfold goN
 cases h1:decide (n > 899) with
 | true=>rw [h1] at h; exact sT rfl ⟨rfl,h⟩
 | false=>
   rw [h1] at h
   cases h2:decide (n<100) with
   | true=>rw [h2] at h; exact sF rfl (sT rfl ⟨rfl,h⟩)
   | false=>rw [h2] at h; exact sF rfl (sF rfl ⟨rfl,h⟩)
theorem NT {n:Int} (h:0<=n):0<=nine n∧nine n<=9:=by
 unfold nine
 by_cases h1:9<n
 ·rw [axv h1]; show (0:Int)<=9∧(9:Int)<=9; omega
 ·rw [axw h1]; show 0<=n∧n<=9; omega
theorem aek (mg pn:Int):0<=pB mg pn∧pB mg pn<=899:=by
 unfold pB
 by_cases hm:1<=mg∧mg<=8
 ·rw [axv hm]
  have h1:=NT (n:=pn / 16 % 16) (by omega)
  have h2:=NT (n:=pn % 16) (by omega)
  show 0<=100 * mg+10 * nine (pn / 16 % 16)+nine (pn % 16)∧100 * mg+10 * nine (pn / 16 % 16)+nine (pn % 16)<=899
  omega
 ·rw [axw hm]
  show (0:Int)<=0∧(0:Int)<=899
  omega
noncomputable def qH:au:=fun args I=>match args,I with
 | [.ag xs,.c (.i _ n)],[]=>(match KP xs with
   | some s=>.aF (args=[.ag s.nc,.c (.i .i64 n)]∧(n=1∨n=-1)) (.ret (jt (s.sr n)))
   | none=>.fail)
 | _,_=>.fail
attribute [local irreducible] D6 in
theorem Wz:Known prog GL 109 qH:=by
 refine aej.less fun args I R h=>?_
 unfold qH at h
 split at h
 case h_2=>exact h.elim
 split at h
 case h_2=>exact h.elim
 rename_i n _ s _
 obtain ⟨⟨h1,hn⟩,h⟩:=h
 rw [h1]
 refine (aJ.of_eq (uJ s n R) ⟨rfl,?_⟩).out
 have h:R (jt (s.sr n)):=h
 unfold Rm.sr ahP at h
 have hb:=aek s.mg s.pn
 cases hz:pB s.mg s.pn==0 with
 | true=>
   rw [hz] at h
   have hw:IntKind.i64.wrap (100+n)=100+n:=by rw [ay']; omega
   rw [hw]
   exact sT rfl (YV h)
 | false=>
   rw [hz] at h
   have hw:IntKind.i64.wrap (pB s.mg s.pn+n)=pB s.mg s.pn+n:=by rw [ay']; omega
   rw [hw]
   exact sF rfl (YV h)
noncomputable def kZ:au:=da [] [0] qK [] 0 YJ
theorem ael:Known prog GL 108 kZ:=alH.soft [] [0] qK [] 0
noncomputable def vR (s:Rm) (k:Ky) (ln:Bool) (R:Out->Prop):Prop:=af (!ln) (R (jt (s,false))) (af (decide (k.1 >= 1)) (af (decide (k.1<=8)) (af (!(k.2.1 !=255)) (R (jt (s,false))) (R (jt (s.gone k,true)))) (R (jt (s,false)))) (R (jt (s,false))))
def uP (l:List (List Sc)):NV:=.ag (bJ K3 l)
section
variable (s:Rm) (r0 r1 r2 r3 r4 r5:List Sc) (ln:Bool) (R:Out->Prop)
theorem alN:(kZ [.ag s.nc,.c (.i .i64 0),uP [r0,r1,r2,r3,r4,r5],.c (.b ln)] []).run R=vR s (dj r0) ln R:=by kernel_rfl
theorem alO:(kZ [.ag s.nc,.c (.i .i64 1),uP [r0,r1,r2,r3,r4,r5],.c (.b ln)] []).run R=vR s (dj r1) ln R:=by kernel_rfl
theorem alP:(kZ [.ag s.nc,.c (.i .i64 2),uP [r0,r1,r2,r3,r4,r5],.c (.b ln)] []).run R=vR s (dj r2) ln R:=by kernel_rfl
theorem alQ:(kZ [.ag s.nc,.c (.i .i64 3),uP [r0,r1,r2,r3,r4,r5],.c (.b ln)] []).run R=vR s (dj r3) ln R:=by kernel_rfl
theorem alR:(kZ [.ag s.nc,.c (.i .i64 4),uP [r0,r1,r2,r3,r4,r5],.c (.b ln)] []).run R=vR s (dj r4) ln R:=by kernel_rfl
theorem alS:(kZ [.ag s.nc,.c (.i .i64 5),uP [r0,r1,r2,r3,r4,r5],.c (.b ln)] []).run R=vR s (dj r5) ln R:=by kernel_rfl
end
def Rm.rI (s:Rm) (k:Ky) (ln:Bool):Rm × Bool:=match ln&&(decide (1<=k.1∧k.1<=8)&&(k.2.1 !=255)) with
 | true=>(s.gone k,true)
 | false=>(s,false)
theorem qb {s:Rm} {k:Ky} {ln:Bool} {R:Out->Prop} (h:R (jt (s.rI k ln))):vR s k ln R:=by
 unfold Rm.rI at h
 unfold vR
 cases ln with
 | false=>exact h
 | true=>
   refine sF rfl ?_
   by_cases h1:k.1 >= 1
   ·refine sT (axv h1) ?_
    by_cases h2:k.1<=8
    ·refine sT (axv h2) ?_
     rw [axv (show 1<=k.1∧k.1<=8 from ⟨h1,h2⟩)] at h
     cases h3:(k.2.1 !=255) with
     | true=>rw [h3] at h; exact h
     | false=>rw [h3] at h; exact h
    ·rw [axw (fun hh:1<=k.1∧k.1<=8=>h2 hh.2)] at h
     exact sF (axw h2) h
   ·rw [axw (fun hh:1<=k.1∧k.1<=8=>h1 hh.1)] at h
    exact sF (axw h1) h
noncomputable def YW (lk:List (List Sc)):au:=fun args I=>match args,I with
 | [.ag xs,.c (.i _ k),v,.c (.b ln)],[]=>(match KP xs with
   | some s=>.aF (args=[.ag s.nc,.c (.i .i64 k),uP lk,.c (.b ln)]∧lk.length=6∧0<=k∧k<=5) (.ret (jt (s.rI (dj (lk.getD k.toNat [])) ln)))
   | none=>.fail)
 | _,_=>.fail
theorem YX {α:Type} {l:List α} (h:l.length=6):∃ a b c d e f,l=[a,b,c,d,e,f]:=by
 match l,h with
 | [a,b,c,d,e,f],_=>exact ⟨a,b,c,d,e,f,rfl⟩
attribute [local irreducible] kZ in
theorem arW (lk:List (List Sc)):Known prog GL 108 (YW lk):=by
 refine ael.less fun args I R h=>?_
 unfold YW at h
 split at h
 case h_2=>exact h.elim
 split at h
 case h_2=>exact h.elim
 rename_i k v ln _ s _
 obtain ⟨⟨h1,hl,h0,h5⟩,h⟩:=h
 rw [h1]
 obtain ⟨r0,r1,r2,r3,r4,r5,rfl⟩:=YX hl
 have hk:k=0∨k=1∨k=2∨k=3∨k=4∨k=5:=by omega
 rcases hk with rfl | rfl | rfl | rfl | rfl | rfl
 ·exact (aJ.of_eq (alN s r0 r1 r2 r3 r4 r5 ln R) (qb h)).out
 ·exact (aJ.of_eq (alO s r0 r1 r2 r3 r4 r5 ln R) (qb h)).out
 ·exact (aJ.of_eq (alP s r0 r1 r2 r3 r4 r5 ln R) (qb h)).out
 ·exact (aJ.of_eq (alQ s r0 r1 r2 r3 r4 r5 ln R) (qb h)).out
 ·exact (aJ.of_eq (alR s r0 r1 r2 r3 r4 r5 ln R) (qb h)).out
 ·exact (aJ.of_eq (alS s r0 r1 r2 r3 r4 r5 ln R) (qb h)).out
noncomputable def ahQ (lk:List (List Sc)):FuncId->Option au:=aE [(106,Yz),(107,alK),(108,YW lk),(109,qH)]
theorem alT (lk:List (List Sc)):∀ f T,ahQ lk f=some T->Known prog GL f T:=(aq.cons arK (.cons av5 (.cons (arW lk) (.cons Wz .nil)))).get
noncomputable def ahR (lk:List (List Sc)):au:=fun args I=>aD prog GL (ahQ lk) [] f62 args I
theorem arX (lk:List (List Sc)):Known prog GL 62 (ahR lk):=ah func62 rfl (by kernel_rfl) mixed (alT lk) (by kernel_rfl)
noncomputable def D7 (lk:List (List Sc)):au:=da [] [0,1] qK [] 0 (ahR lk)
theorem alU (lk:List (List Sc)):Known prog GL 62 (D7 lk):=(arX lk).soft [] [0,1] qK [] 0
def K2 (s:Rm) (N:Prop):Prop:=([NV.c (.l .i64 s.ds)]=[.c (.l .i64 s.ds)]∧s.ds.length<=1000000)∧(([NV.c (.l .i64 s.su)]=[.c (.l .i64 s.su)]∧s.su.length<=1000000)∧N)
section
variable (s:Rm) (r0 r1 r2 r3 r4 r5:List Sc) (ln:Bool) (k:Int) (R:Out->Prop)
noncomputable abbrev KT (s:Rm) (r0 r1 r2 r3 r4 r5:List Sc) (ln:Bool) (k:Int):Tr Out:=D7 [r0,r1,r2,r3,r4,r5] [.ag s.nc,.c (.i .i64 k),uP [r0,r1,r2,r3,r4,r5],.c (.b ln)] []
def zu (s:Rm) (k:Int) (N:Prop):Prop:=([NV.ag s.nc,.c (.i .i64 k)]=[.ag s.nc,.c (.i .i64 k)]∧s.su.length<=3∧s.ds.length<=2)∧N
def YY (s:Rm) (l:List (List Sc)) (ln:Bool) (k:Int) (N:Prop):Prop:=([NV.ag s.nc,.c (.i .i64 k),uP l,.c (.b ln)]=[.ag s.nc,.c (.i .i64 k),uP l,.c (.b ln)]∧l.length=6∧0<=k∧k<=5)∧N
def arY (s:Rm) (n:Int) (N:Prop):Prop:=([NV.ag s.nc,.c (.i .i64 n)]=[.ag s.nc,.c (.i .i64 n)]∧(n=1∨n=-1))∧N
theorem arZ:(KT s r0 r1 r2 r3 r4 r5 ln 0).run R=K2 s (zu s 0 (R (jt (s.ED 0)))):=by kernel_rfl
theorem ar0:(KT s r0 r1 r2 r3 r4 r5 ln 1).run R=K2 s (zu s 1 (R (jt (s.ED 1)))):=by kernel_rfl
theorem ar1:(KT s r0 r1 r2 r3 r4 r5 ln 2).run R=K2 s (zu s 2 (R (jt (s.ED 2)))):=by kernel_rfl
theorem ar2:(KT s r0 r1 r2 r3 r4 r5 ln 3).run R=K2 s (zu s 3 (R (jt (s.ED 3)))):=by kernel_rfl
theorem ar3:(KT s r0 r1 r2 r3 r4 r5 ln 4).run R=K2 s (zu s 4 (R (jt (s.ED 4)))):=by kernel_rfl
theorem ar4:(KT s r0 r1 r2 r3 r4 r5 ln 5).run R=K2 s (zu s 5 (R (jt (s.ED 5)))):=by kernel_rfl
theorem ar5:(KT s r0 r1 r2 r3 r4 r5 ln 6).run R=K2 s (zu s 6 (R (jt (s.ED 6)))):=by kernel_rfl
theorem ar6:(KT s r0 r1 r2 r3 r4 r5 ln 7).run R=K2 s (zu s 7 (R (jt (s.ED 7)))):=by kernel_rfl
theorem ar7:(KT s r0 r1 r2 r3 r4 r5 ln 8).run R=K2 s (zu s 8 (R (jt (s.ED 8)))):=by kernel_rfl
theorem ar8:(KT s r0 r1 r2 r3 r4 r5 ln 9).run R=K2 s (zu s 9 (R (jt (s.ED 9)))):=by kernel_rfl
theorem alW:(KT s r0 r1 r2 r3 r4 r5 ln 10).run R=K2 s (R (jt ({s with hd:=!s.hd},!!s.hd))):=by kernel_rfl
theorem alX:(KT s r0 r1 r2 r3 r4 r5 ln 11).run R=K2 s (R (jt ({s with rv:=!s.rv},false))):=by kernel_rfl
theorem alY:(KT s r0 r1 r2 r3 r4 r5 ln 12).run R=K2 s (R (jt ({s with mx:=!s.mx},false))):=by kernel_rfl
theorem alZ:(KT s r0 r1 r2 r3 r4 r5 ln 13).run R=K2 s (arY s 1 (R (jt (s.sr 1)))):=by kernel_rfl
theorem al0:(KT s r0 r1 r2 r3 r4 r5 ln 14).run R=K2 s (arY s (-1) (R (jt (s.sr (-1))))):=by kernel_rfl
theorem al1:(KT s r0 r1 r2 r3 r4 r5 ln 15).run R=K2 s (YY s [r0,r1,r2,r3,r4,r5] ln 0 (R (jt (s.rI (dj r0) ln)))):=by kernel_rfl
theorem al2:(KT s r0 r1 r2 r3 r4 r5 ln 16).run R=K2 s (YY s [r0,r1,r2,r3,r4,r5] ln 1 (R (jt (s.rI (dj r1) ln)))):=by kernel_rfl
theorem al3:(KT s r0 r1 r2 r3 r4 r5 ln 17).run R=K2 s (YY s [r0,r1,r2,r3,r4,r5] ln 2 (R (jt (s.rI (dj r2) ln)))):=by kernel_rfl
theorem al4:(KT s r0 r1 r2 r3 r4 r5 ln 18).run R=K2 s (YY s [r0,r1,r2,r3,r4,r5] ln 3 (R (jt (s.rI (dj r3) ln)))):=by kernel_rfl
theorem al5:(KT s r0 r1 r2 r3 r4 r5 ln 19).run R=K2 s (YY s [r0,r1,r2,r3,r4,r5] ln 5 (R (jt (s.rI (dj r5) ln)))):=by kernel_rfl
theorem al6:(KT s r0 r1 r2 r3 r4 r5 ln 20).run R=K2 s (R (jt ({s with sub:=true,su:=[],ds:=[]},false))):=by kernel_rfl
theorem al7:(KT s r0 r1 r2 r3 r4 r5 ln 21).run R=K2 s (R (jt ({s with sub:=false,mx:=false,su:=[],ds:=[]},false))):=by kernel_rfl
def ar9 (s:Rm) (k:Int):List RC:=[.m ([NV.c (.l .i64 s.ds)]=[.c (.l .i64 s.ds)]∧s.ds.length<=1000000),.m ([NV.c (.l .i64 s.su)]=[.c (.l .i64 s.su)]∧s.su.length<=1000000),.f (decide (k >= 0)),.F 3,.f (decide (k >= 15)),.F 3,.f (k==10),.f (k==11),.f (k==12),.f (k==13),.f (k==14),.f (k==19),.f (k==20),.f (k==21)]
def ar' (s:Rm) (k:Int):List RC:=[.m ([NV.c (.l .i64 s.ds)]=[.c (.l .i64 s.ds)]∧s.ds.length<=1000000),.m ([NV.c (.l .i64 s.su)]=[.c (.l .i64 s.su)]∧s.su.length<=1000000),.t (decide (k >= 0)),.T 2,.f (decide (k<=9)),.t (decide (k >= 15)),.T 2,.f (decide (k<=18)),.f (k==10),.f (k==11),.f (k==12),.f (k==13),.f (k==14),.f (k==19),.f (k==20),.f (k==21)]
theorem al8:((KT s r0 r1 r2 r3 r4 r5 ln k).fol (scr (ar9 s k))).run R=yu (ar9 s k) (R (jt (s,false))):=by kernel_rfl
theorem al9:((KT s r0 r1 r2 r3 r4 r5 ln k).fol (scr (ar' s k))).run R=yu (ar' s k) (R (jt (s,false))):=by kernel_rfl
end
noncomputable def Rm.aem (s:Rm) (lk:List (List Sc)) (ln:Bool):Nat->Rm × Bool
 | 10=>({s with hd:=!s.hd},!!s.hd)
 | 11=>({s with rv:=!s.rv},false)
 | 12=>({s with mx:=!s.mx},false)
 | 13=>s.sr 1
 | 14=>s.sr (-1)
 | 15=>s.rI (dj (lk.getD 0 [])) ln
 | 16=>s.rI (dj (lk.getD 1 [])) ln
 | 17=>s.rI (dj (lk.getD 2 [])) ln
 | 18=>s.rI (dj (lk.getD 3 [])) ln
 | 19=>s.rI (dj (lk.getD 5 [])) ln
 | 20=>({s with sub:=true,su:=[],ds:=[]},false)
 | 21=>({s with sub:=false,mx:=false,su:=[],ds:=[]},false)
 | n=>match decide (n<10) with
   | true=>s.ED (n:Int)
   | false=>(s,false)
noncomputable def Rm.key (s:Rm) (k:Int) (lk:List (List Sc)) (ln:Bool):Rm × Bool:=match decide (0<=k) with
 | true=>s.aem lk ln k.toNat
 | false=>(s,false)
structure Rm.ok (s:Rm):Prop where
 ds:s.ds.length<=2
 su:s.su.length<=3
noncomputable def al' (lk:List (List Sc)):au:=fun args I=>match args,I with
 | [.ag xs,.c (.i _ k),v,.c (.b ln)],[]=>(match KP xs with
   | some s=>.aF (args=[.ag s.nc,.c (.i .i64 k),uP lk,.c (.b ln)]∧lk.length=6∧s.ok) (.ret (jt (s.key k lk ln)))
   | none=>.fail)
 | _,_=>.fail
theorem fK {s:Rm} {N:Prop} (h:s.ok) (hN:N):K2 s N:=⟨⟨rfl,by have:=h.ds; omega⟩,⟨rfl,by have:=h.su; omega⟩,hN⟩
attribute [local irreducible] D7 in
theorem ama (s:Rm) (r0 r1 r2 r3 r4 r5:List Sc) (ln:Bool) (k:Int) (R:Out->Prop) (hs:s.ok) (h:R (jt (s.key k [r0,r1,r2,r3,r4,r5] ln))):aJ ((KT s r0 r1 r2 r3 r4 r5 ln k).run R):=by
 by_cases h0:k<0
 ·have e:s.key k [r0,r1,r2,r3,r4,r5] ln=(s,false):=by unfold Rm.key; rw [axw (show ¬ 0<=k by omega)]
  rw [e] at h
  refine ⟨wS (al8 s r0 r1 r2 r3 r4 r5 ln k R) ?_ h⟩
  refine ⟨⟨rfl,by have:=hs.ds; omega⟩,⟨rfl,by have:=hs.su; omega⟩,axw (by omega),axw (by omega),?_⟩
  refine ⟨?_,?_,?_,?_,?_,?_,?_,?_,trivial⟩ <;> exact beq_eq_false_iff_ne.2 (by omega)
 ·by_cases h1:22<=k
  ·have e:s.key k [r0,r1,r2,r3,r4,r5] ln=(s,false):=by
    unfold Rm.key
    rw [axv (show 0<=k by omega)]
    show s.aem [r0,r1,r2,r3,r4,r5] ln k.toNat=(s,false)
    obtain ⟨n,hn⟩:∃ n,k.toNat=n+22:=⟨k.toNat - 22,by omega⟩
    rw [hn]
    rfl
   rw [e] at h
   refine ⟨wS (al9 s r0 r1 r2 r3 r4 r5 ln k R) ?_ h⟩
   refine ⟨⟨rfl,by have:=hs.ds; omega⟩,⟨rfl,by have:=hs.su; omega⟩,axv (by omega),axw (by omega),axv (by omega),axw (by omega),?_⟩
   refine ⟨?_,?_,?_,?_,?_,?_,?_,?_,trivial⟩ <;> exact beq_eq_false_iff_ne.2 (by omega)
  ·have hk:k=0∨k=1∨k=2∨k=3∨k=4∨k=5∨k=6∨k=7∨k=8∨k=9∨k=10∨k=11∨k=12∨k=13∨k=14∨k=15∨k=16∨k=17∨k=18∨k=19∨k=20∨k=21:=by omega
   clear h0 h1
   have dg:∀ n:Int,zu s n (R (jt (s.ED n)))↔R (jt (s.ED n)):=fun n=>⟨fun x=>x.2,fun x=>⟨⟨rfl,hs.su,hs.ds⟩,x⟩⟩
   rcases hk with rfl | rfl | rfl | rfl | rfl | rfl | rfl | rfl | rfl | rfl | rfl | rfl | rfl | rfl | rfl | rfl | rfl | rfl | rfl | rfl | rfl | rfl
   ·exact aJ.of_eq (arZ s r0 r1 r2 r3 r4 r5 ln R) (fK hs ((dg 0).2 h))
   ·exact aJ.of_eq (ar0 s r0 r1 r2 r3 r4 r5 ln R) (fK hs ((dg 1).2 h))
   ·exact aJ.of_eq (ar1 s r0 r1 r2 r3 r4 r5 ln R) (fK hs ((dg 2).2 h))
   ·exact aJ.of_eq (ar2 s r0 r1 r2 r3 r4 r5 ln R) (fK hs ((dg 3).2 h))
   ·exact aJ.of_eq (ar3 s r0 r1 r2 r3 r4 r5 ln R) (fK hs ((dg 4).2 h))
   ·exact aJ.of_eq (ar4 s r0 r1 r2 r3 r4 r5 ln R) (fK hs ((dg 5).2 h))
   ·exact aJ.of_eq (ar5 s r0 r1 r2 r3 r4 r5 ln R) (fK hs ((dg 6).2 h))
   ·exact aJ.of_eq (ar6 s r0 r1 r2 r3 r4 r5 ln R) (fK hs ((dg 7).2 h))
   ·exact aJ.of_eq (ar7 s r0 r1 r2 r3 r4 r5 ln R) (fK hs ((dg 8).2 h))
   ·exact aJ.of_eq (ar8 s r0 r1 r2 r3 r4 r5 ln R) (fK hs ((dg 9).2 h))
   ·exact aJ.of_eq (alW s r0 r1 r2 r3 r4 r5 ln R) (fK hs h)
   ·exact aJ.of_eq (alX s r0 r1 r2 r3 r4 r5 ln R) (fK hs h)
   ·exact aJ.of_eq (alY s r0 r1 r2 r3 r4 r5 ln R) (fK hs h)
   ·exact aJ.of_eq (alZ s r0 r1 r2 r3 r4 r5 ln R) (fK hs ⟨⟨rfl,.inl rfl⟩,h⟩)
   ·exact aJ.of_eq (al0 s r0 r1 r2 r3 r4 r5 ln R) (fK hs ⟨⟨rfl,.inr rfl⟩,h⟩)
   ·exact aJ.of_eq (al1 s r0 r1 r2 r3 r4 r5 ln R) (fK hs ⟨⟨rfl,rfl,by decide,by decide⟩,h⟩)
   ·exact aJ.of_eq (al2 s r0 r1 r2 r3 r4 r5 ln R) (fK hs ⟨⟨rfl,rfl,by decide,by decide⟩,h⟩)
   ·exact aJ.of_eq (al3 s r0 r1 r2 r3 r4 r5 ln R) (fK hs ⟨⟨rfl,rfl,by decide,by decide⟩,h⟩)
   ·exact aJ.of_eq (al4 s r0 r1 r2 r3 r4 r5 ln R) (fK hs ⟨⟨rfl,rfl,by decide,by decide⟩,h⟩)
   ·exact aJ.of_eq (al5 s r0 r1 r2 r3 r4 r5 ln R) (fK hs ⟨⟨rfl,rfl,by decide,by decide⟩,h⟩)
   ·exact aJ.of_eq (al6 s r0 r1 r2 r3 r4 r5 ln R) (fK hs h)
   ·exact aJ.of_eq (al7 s r0 r1 r2 r3 r4 r5 ln R) (fK hs h)
attribute [local irreducible] D7 in
theorem av6 (lk:List (List Sc)):Known prog GL 62 (al' lk):=by
 refine (alU lk).less fun args I R h=>?_
 unfold al' at h
 split at h
 case h_2=>exact h.elim
 split at h
 case h_2=>exact h.elim
 rename_i k v ln _ s _
 obtain ⟨⟨h1,hl,hs⟩,h⟩:=h
 rw [h1]
 obtain ⟨r0,r1,r2,r3,r4,r5,rfl⟩:=YX hl
 exact (ama s r0 r1 r2 r3 r4 r5 ln k R hs h).out
noncomputable def rcN (V:Rv):aG:=Yf 1 V.s.nc fO .sn V.fd V.tk
noncomputable def KS (V:Rv):List aG:=[rcN V,Ii 2 V.m.v V.m.inf,stN 3 V.m.st.bR,ac.eN V.m.st.bR.m,aY (aC V.m.st.bR.l)]
def av7:List aG->Option Rv
 | ⟨_,_,.sg [.cells [.p _ _ _,.i _ a,.i _ b,.i _ c,.l _ ds,.l _ su,.b sub,.b hd,.b rv,.b mx,.i _ _,.i _ _,.i _ _],.aA _ _ _,.cells [.i _ _],.ints _ _ _,.aA _ _ _,.cells [.sn],.aA _ _ _,.cells [.b _,.i _ _,.b fd,.i _ tk]]⟩::rest=>(match acr rest with
   | some M=>some ⟨M,⟨a,b,c,ds,su,sub,hd,rv,mx⟩,fO,fd,tk⟩
   | none=>none)
 | _=>none
noncomputable def ahS (V:Rv) (q:Pg) (is:Bool) (R:Out->Prop):Prop:=af is ((dO V.m=dO (cH.bk V.m)∧(cH.bk V.m).ok)∧[NV.c (.p 0 0 0),.ag (dY (bA q))]=[.c (.p 0 0 0),.ag (dY (bA q))]∧R (KG (V.bk.shown (q,true)))) (R ⟨.tu [],(KS V).map some⟩)
theorem KU (V:Rv) (q:Pg) (is:Bool) (R:Out->Prop):(zr [.c (.p 0 0 0),fa q,.c (.b is)] (KS V)).run R=ahS V q is R:=by kernel_rfl
noncomputable def D8:au:=fun args I=>match args with
 | [.c (.p 0 0 0),v,.c (.b is)]=>(match bR.nX v,av7 I with
   | some q,some V=>.aF (args=[.c (.p 0 0 0),fa q,.c (.b is)]∧I=KS V∧V.m.ok) (.br is (.ret (KG (V.shown (q,true)))) (.ret ⟨.tu [],(KS V).map some⟩))
   | _,_=>.fail)
 | _=>.fail
attribute [local irreducible] zr in
theorem amb:Known prog GL 64 D8:=by
 refine Yl.less fun args I R h=>?_
 unfold D8 at h
 split at h
 case h_2=>exact h.elim
 rename_i v is
 split at h
 case h_2=>exact h.elim
 rename_i q V _ _
 obtain ⟨⟨h1,h2,hV⟩,h⟩:=h
 rw [h1,h2]
 refine (aJ.of_eq (KU V q is R) ?_).out
 unfold ahS
 rw [V.fm hV.1,cH.fm _ hV.1]
 have h:af is (R (KG (V.shown (q,true)))) (R ⟨.tu [],(KS V).map some⟩):=h
 cases is with
 | true=>exact sT rfl ⟨⟨rfl,hV⟩,rfl,h⟩
 | false=>exact sF rfl h
noncomputable def asa:Bool->au
 | true=>BR
 | false=>D8
noncomputable def KV:au:=fun args I=>match als I with
 | some _=>BR args I
 | none=>D8 args I
theorem amc:Known prog GL 64 KV:=by
 refine gQ (T:=asa) true (fun b=>by cases b; exact amb; exact Ym) fun args I R h=>?_
 unfold KV at h
 split at h
 ·exact ⟨true,h⟩
 ·exact ⟨false,h⟩
noncomputable def YZ (lk:List (List Sc)):FuncId->Option au:=aE [(62,al' lk),(63,KF),(18,tFd),(64,KV)]
theorem aen (lk:List (List Sc)):∀ f T,YZ lk f=some T->Known prog GL f T:=(aq.cons (av6 lk) (.cons alv (.cons kFd (.cons amc .nil)))).get
noncomputable def Y0 (lk:List (List Sc)):au:=fun args I=>aD prog GL (YZ lk) [] f23 args I
theorem amd (lk:List (List Sc)):Known prog GL 23 (Y0 lk):=ah func23 rfl (by kernel_rfl) mixed (aen lk) (by kernel_rfl)
noncomputable def xc (lk:List (List Sc)):au:=da [] [] [] [(0,5,0,.lr K3 [])] 5 (Y0 lk)
theorem aeo (lk:List (List Sc)):Known prog GL 23 (xc lk):=(amd lk).soft [] [] [] [(0,5,0,.lr K3 [])] 5
def Rv.with (V:Rv) (s:Rm):Rv:={V with s:=s}
def Rv.fresh (V:Rv) (s:Rm):Rv:={V with s:=s,p:=fO,fd:=false,m:=Mc.zq V.m}
noncomputable def Rv.key (V:Rv) (k:Int):Rv:=match (V.s.key k V.p.lk (V.fd&&V.p.ld)).2 with
 | true=>(V.fresh (V.s.key k V.p.lk (V.fd&&V.p.ld)).1).shown ((Mc.zq V.m).find (V.s.key k V.p.lk (V.fd&&V.p.ld)).1.ky)
 | false=>V.with (V.s.key k V.p.lk (V.fd&&V.p.ld)).1
noncomputable def ame (V:Rv) (M:Mc) (s:Rm) (R:Out->Prop):Prop:=(dO M=dO (cH.bk M)∧(cH.bk M).ok)∧(([NV.c (.p 0 0 0),.ag (dY s.ky)]=[.c (.p 0 0 0),.ag (dY s.ky)]∧(cH.bk M).bM)∧
 (([NV.c (.p 0 0 0),fa ((cH.bk M).find s.ky).1,.c (.b ((cH.bk M).find s.ky).2)]=[.c (.p 0 0 0),fa ((cH.bk M).find s.ky).1,.c (.b ((cH.bk M).find s.ky).2)]∧KS ⟨cH.bk M,s,fO,false,V.tk⟩=KS (Rv.bk ⟨cH.bk M,s,fO,false,V.tk⟩)∧(Rv.bk ⟨cH.bk M,s,fO,false,V.tk⟩).m.ok)∧
   af ((cH.bk M).find s.ky).2 (R (KG ((Rv.bk ⟨cH.bk M,s,fO,false,V.tk⟩).shown (((cH.bk M).find s.ky).1,true)))) (R (KG (Rv.bk ⟨cH.bk M,s,fO,false,V.tk⟩)))))
noncomputable def amf (V:Rv) (lk:List (List Sc)) (k:Int) (ln:Bool) (R:Out->Prop):Prop:=([NV.ag V.s.nc,.c (.i .i64 k),uP lk,.c (.b ln)]=[.ag V.s.nc,.c (.i .i64 k),uP lk,.c (.b ln)]∧lk.length=6∧V.s.ok)∧
 af (V.s.key k lk ln).2 ((dO V.m=dO (cH.bk V.m)∧(cH.bk V.m).ok)∧ame V (Mc.zq (cH.bk V.m)) (V.s.key k lk ln).1 R) (R (KG (V.with (V.s.key k lk ln).1)))
def Rv.lks (V:Rv) (l:List (List Sc)):Rv:={V with p:={V.p with lk:=l}}
noncomputable def Y1 (V:Rv) (lk:List (List Sc)) (k:Int) (R:Out->Prop):Prop:=af V.fd (amf V lk k V.p.ld R) (amf V lk k false R)
theorem Q' (V:Rv) (r0 r1 r2 r3 r4 r5:List Sc) (k:Int) (R:Out->Prop):(xc [r0,r1,r2,r3,r4,r5] [.c (.p 0 0 0),.c (.i .i64 k)] (wC (V.lks [r0,r1,r2,r3,r4,r5]))).run R=Y1 (V.lks [r0,r1,r2,r3,r4,r5]) [r0,r1,r2,r3,r4,r5] k R:=by kernel_rfl
theorem zx {M:Mc} (h:M.bM):(Mc.zq M).bM:=⟨h.wu,h.nd,h.m1,h.m8,h.len,h.fit,h.Ap,h.RQ⟩
theorem HC {M:Mc} (h:M.bM) (k:Ky):(Mc.pinned M k).bM:=⟨h.wu,h.nd,h.m1,h.m8,h.len,h.fit,h.Ap,h.RQ⟩
theorem aep {V:Rv} {M:Mc} {s:Rm} {R:Out->Prop} (hM:M.bM) (h:R (KG (Rv.shown ⟨M,s,fO,false,V.tk⟩ (M.find s.ky)))):ame V M s R:=by
 unfold ame
 have e:Rv.bk ⟨M,s,fO,false,V.tk⟩=⟨M,s,fO,false,V.tk⟩:=Rv.fm _ hM.wu
 rw [hM.bk,e]
 refine ⟨⟨rfl,hM.ok⟩,⟨rfl,hM⟩,⟨rfl,rfl,hM.ok⟩,?_⟩
 unfold Rv.shown at h
 cases hf:(M.find s.ky).2 with
 | true=>rw [hf] at h; exact sT rfl h
 | false=>rw [hf] at h; exact sF rfl h
theorem NU {V:Rv} {k:Int} {ln:Bool} {R:Out->Prop} (hl:V.p.lk.length=6) (hs:V.s.ok) (hM:V.m.bM)
  (h:R (KG (match (V.s.key k V.p.lk ln).2 with
    | true=>(V.fresh (V.s.key k V.p.lk ln).1).shown ((Mc.zq V.m).find (V.s.key k V.p.lk ln).1.ky)
    | false=>V.with (V.s.key k V.p.lk ln).1))):amf V V.p.lk k ln R:=by
 refine ⟨⟨rfl,hl,hs⟩,?_⟩
 rw [hM.bk]
 cases hk:(V.s.key k V.p.lk ln).2 with
 | true=>rw [hk] at h; exact sT rfl ⟨⟨rfl,hM.ok⟩,aep (zx hM) h⟩
 | false=>rw [hk] at h; exact sF rfl h
theorem aeq {V:Rv} {k:Int} {R:Out->Prop} (hl:V.p.lk.length=6) (hs:V.s.ok) (hM:V.m.bM) (h:R (KG (V.key k))):Y1 V V.p.lk k R:=by
 unfold Y1
 unfold Rv.key at h
 cases hf:V.fd with
 | true=>rw [hf] at h; exact sT rfl (NU hl hs hM h)
 | false=>rw [hf] at h; exact sF rfl (NU hl hs hM h)
noncomputable def Y2:au:=fun args I=>match args with
 | [.c (.p 0 0 0),.c (.i _ k)]=>onV I fun V=>.aF (args=[.c (.p 0 0 0),.c (.i .i64 k)]∧V.p.lk.length=6∧V.s.ok∧V.m.bM) (.ret (KG (V.key k)))
 | _=>.fail
attribute [local irreducible] xc in
theorem asb:Known prog GL 23 Y2:=by
 refine gQ (T:=xc) [] aeo fun args I R h=>?_
 unfold Y2 at h
 split at h
 case h_2=>exact h.elim
 rename_i _ k
 obtain ⟨V,rfl,hV,⟨h1,hl,hs,hg⟩,h⟩:=j5 h
 rw [h1]
 refine ⟨V.p.lk,?_⟩
 obtain ⟨r0,r1,r2,r3,r4,r5,hr⟩:=YX hl
 have e:V=V.lks [r0,r1,r2,r3,r4,r5]:=by unfold Rv.lks; rw [<- hr]
 have hh:=aeq (R:=R) hl hs hg h
 rw [hr] at hh ⊢
 have t:=Q' V r0 r1 r2 r3 r4 r5 k R
 rw [<- e] at t
 exact (aJ.of_eq t hh).out
noncomputable def zy:au:=fun args I=>aD prog GL (fun _=>ay1) [] f65 args I
theorem Y3:Known prog GL 65 zy:=ah func65 rfl (by kernel_rfl) mixed az (by kernel_rfl)
def amg:ByteArray:=⟨#[48,49,50,51,52,53,54,55,56,57,97,98,99,100,101,102]⟩
def qd (a:Int):Int:=(IntKind.i64.wrap (a.tmod 10+10)).tmod 10
noncomputable def amh (p:Int):Int:=bits .and .i64 (aX .i64 p 4) 15
noncomputable def ami (p:Int):Int:=bits .and .i64 p 15
noncomputable def vS (m p:Int):ByteArray:=⟨#[80]⟩++strOfNums [cA amg (qd m).toNat,cA amg (amh p).toNat,cA amg (ami p).toNat]++⟨#[32,32,32,32]⟩
noncomputable def oS (s:ByteArray):Out:=⟨.v (.c (.s s)),[]⟩
noncomputable def rlT (m p:Int) (R:Out->Prop):Prop:=af (decide (0<=qd m)) (af (decide (qd m<16)) (af (decide (0<=amh p)) (af (decide (amh p<16)) (af (decide (0<=ami p)) (af (decide (ami p<16)) (R (oS (vS m p))) False) False) False) False) False) False
theorem KW (m p u:Int) (su:List Int) (h r x:Bool) (R:Out->Prop):(zy [.ag (Rm.nc ⟨m,p,u,[],su,false,h,r,x⟩)] []).run R=rlT m p R:=by kernel_rfl
noncomputable def KX:au:=fun args I=>match args,I with
 | [.ag xs],[]=>(match KP xs with
   | some s=>.aF (args=[.ag s.nc]∧s.sub=false∧s.ds=[]) (.ret (oS (vS s.mg s.pn)))
   | none=>.fail)
 | _,_=>.fail
theorem ahT (m:Int):0<=qd m∧qd m<16:=by
 have hk:∀ k<19,0<=((azi k+1).tmod 10)∧((azi k+1).tmod 10)<16:=by decide
 have h1:=Int.tmod_lt_of_pos m (show (0:Int)<10 by decide)
 have h2 : -10<m.tmod 10:=by
  have:=Int.lt_tmod_of_pos m (show (0:Int)<10 by decide)
  omega
 unfold qd
 have hw:IntKind.i64.wrap (m.tmod 10+10)=m.tmod 10+10:=by rw [ay']; omega
 rw [hw]
 have:=hk (m.tmod 10+9).toNat (by omega)
 have e:azi (m.tmod 10+9).toNat+1=m.tmod 10+10:=by show (((m.tmod 10+9).toNat:Nat):Int)+1=_; omega
 rw [e] at this
 exact this
theorem D9 (n:Int):0<=bits .and .i64 n 15∧bits .and .i64 n 15<16:=by
 have e:bits .and .i64 n 15=n % 16:=cB _ 4 (by decide)
 rw [e]
 omega
attribute [local irreducible] zy in
theorem amj:Known prog GL 65 KX:=by
 refine Y3.less fun args I R h=>?_
 unfold KX at h
 split at h
 case h_2=>exact h.elim
 split at h
 case h_2=>exact h.elim
 rename_i s _
 obtain ⟨⟨h1,h2,h3⟩,h⟩:=h
 rw [h1]
 obtain ⟨m,p,u,ds,su,sub,hd,rv,mx⟩:=s
 simp only at h2 h3
 subst h2 h3
 refine (aJ.of_eq (KW m p u su hd rv mx R) ?_).out
 have q1:=ahT m
 have q2:=D9 (aX .i64 p 4)
 have q3:=D9 p
 exact sT (axv q1.1) (sT (axv q1.2) (sT (axv q2.1) (sT (axv q2.2) (sT (axv q3.1) (sT (axv q3.2) h)))))
noncomputable def NW:FuncId->Option au:=aE [(65,KX),(16,adp)]
theorem Y4:∀ f T,NW f=some T->Known prog GL f T:=(aq.cons amj (.cons aq3 .nil)).get
noncomputable def Ea:au:=fun args I=>aD prog GL NW [] f25 args I
theorem aer:Known prog GL 25 Ea:=ah func25 rfl (by kernel_rfl) mixed Y4 (by kernel_rfl)
noncomputable def aes (V:Rv) (l:ByteArray):List NC:=[.i .i64 V.s.mg,.i .i64 V.s.pn,.i .i64 V.s.sb,.b V.fd,.i .i64 V.p.mg,.i .i64 V.p.pn,.i .i64 V.p.sb,.s l,.i .i64 (aC (V.m.st.L.map bA)).length,.i .i64 V.tk]
noncomputable def Y5 (V:Rv) (R:Out->Prop):Prop:=([NV.ag V.s.nc]=[.ag V.s.nc]∧V.s.sub=false∧V.s.ds=[])∧((dO V.m=dO (cH.bk V.m)∧(cH.bk V.m).ok)∧(some (Ii 2 V.m.v V.m.inf)=some (Ii 2 V.bk.m.v V.bk.m.inf)∧(some (stN 3 V.m.st.bR)=some (stN 3 V.bk.m.st.bR)∧(some (ac.eN V.m.st.bR.m)=some (ac.eN V.bk.m.st.bR.m)∧(some (aY (aC V.m.st.bR.l))=some (aY (aC V.bk.m.st.bR.l))∧R ⟨.v (.ag (aes V.bk (vS V.s.mg V.s.pn))),(wC V).map some⟩)))))
theorem KY (V:Rv) (R:Out->Prop):(Ea [.c (.p 0 0 0)] (wC V)).run R=Y5 V R:=by kernel_rfl
noncomputable def oSv (V:Rv) (l:ByteArray):Out:=⟨.v (.ag [.i .i64 V.s.mg,.i .i64 V.s.pn,.i .i64 V.s.sb,.b V.fd,.i .i64 V.p.mg,.i .i64 V.p.pn,.i .i64 V.p.sb,.s l,.i .i64 V.m.st.L.length,.i .i64 V.tk]),(wC V).map some⟩
noncomputable def KZ:au:=fun args I=>match args with
 | [.c (.p 0 0 0)]=>onV I fun V=>.aF (V.s.sub=false∧V.s.ds=[]) (.ret (oSv V (vS V.s.mg V.s.pn)))
 | _=>.fail
attribute [local irreducible] Ea in
theorem amk:Known prog GL 25 KZ:=by
 refine aer.less fun args I R h=>?_
 unfold KZ at h
 split at h
 case h_2=>exact h.elim
 obtain ⟨V,rfl,hV,hs,h⟩:=j5 h
 refine (aJ.of_eq (KY V R) ?_).out
 unfold Y5
 rw [V.fm hV.1,cH.fm _ hV.1]
 refine ⟨⟨rfl,hs⟩,⟨rfl,hV⟩,rfl,rfl,rfl,rfl,?_⟩
 have e:(aC (V.m.st.L.map bA)).length=V.m.st.L.length:=by rw [a8,azq]
 have h:R (oSv V (vS V.s.mg V.s.pn)):=h
 unfold oSv at h
 unfold aes
 rw [e]
 exact h
noncomputable def ahU:FuncId->Option au:=aE [(21,NK),(25,KZ),(60,NL)]
theorem aml:∀ f T,ahU f=some T->Known prog GL f T:=(aq.cons ahH (.cons amk (.cons ad5 .nil))).get
noncomputable def Y6:au:=fun args I=>aD prog GL ahU [] f20 args I
theorem asc:Known prog GL 20 Y6:=ah func20 rfl (by kernel_rfl) mixed aml (by kernel_rfl)
noncomputable def asd (R:Out->Prop):Prop:=[NV.c (.i .i64 1)]=[NV.c (.i .i64 1)]∧((wC (NJ 1)=wC (NJ 1).bk∧(NJ 1).bk.m.ok)∧(((NJ 1).bk.s.sub=false∧(NJ 1).bk.s.ds=[])∧R ⟨.v (.c (.b true)),[]⟩))
theorem Y7 (R:Out->Prop):(Y6 [] []).run R=asd R:=by kernel_rfl
noncomputable def amm:au:=fun args I=>match args,I with
 | [],[]=>.ret ⟨.v (.c (.b true)),[]⟩
 | _,_=>.fail
attribute [local irreducible] Y6 in
theorem av8:Known prog GL 20 amm:=by
 refine asc.less fun args I R h=>?_
 unfold amm at h
 split at h
 case h_2=>exact h.elim
 have hg:=Hn (n:=1) (by omega) (by omega)
 refine (aJ.of_eq (Y7 R) ?_).out
 unfold asd
 rw [Rv.fm _ hg.wu]
 exact ⟨rfl,⟨rfl,hg.ok⟩,⟨rfl,rfl⟩,h⟩
end rv
namespace rv
open bR (sT sF Ky Sp bA dY)
open ac (Pg fO)
open Go Go.Nx pk cH bm rv
theorem K0 {V:Rv} (h:V.m.bM) (x:Pg × Bool):(V.shown x).m.bM:=by
 unfold Rv.shown
 split
 ·exact HC h _
 ·exact h
end rv
namespace ke
open bR (sT sF Ky Sp bA dY aC aY)
open ac (Pg fO)
open Go Go.Nx pk cH bm rv
noncomputable abbrev aet:=f9
noncomputable def ase:Cx:={P:=prog,con:=fun _=>ay1,glob:=GL,m:=0,loops:=[]}
noncomputable def sLi (l:List Dv) (i:Int):St:={fr:=frame 50 [(0,.v (.c (.lt nQ (l.map Dv.fc)))),(5,.v (.c (.i .i64 i)))],rg:=[]}
noncomputable def eLi:St:={fr:=frame 50 [(4,.v (.c (.b false)))],rg:=[]}
noncomputable def dLi:St:={fr:=frame 50 [],rg:=[]}
noncomputable def rLi (s:St):Tr RO:=bu ase 0 [0,5] [4] (ae aet 0) s
def rwK (l:List Dv) (i:Int):Dv:=tp ((l.map Dv.fc).getD i.toNat [])
noncomputable def li1 (l:List Dv) (i:Int) (xs:List Int) (R:RO->Prop) (A:Prop):Prop:=qa i (l.map Dv.fc).length (af (decide ((xs.length:Int) > 60)) (R (.done .ret eLi)) A)
theorem aeu (l:List Dv) (i:Int) (R:RO->Prop):(rLi (sLi l i)).run R =
 af (decide (i<((l.map Dv.fc).length:Int))) (li1 l i (rwK l i).L R (li1 l i (rwK l i).T R (li1 l i (rwK l i).W R (li1 l i (rwK l i).B R (R (.next (sLi l (IntKind.i64.wrap (i+1))))))))) (R (.done .normal dLi)):=by kernel_rfl
def pC (d:Dv):Bool:=!decide ((d.L.length:Int) > 60)&&(!decide ((d.T.length:Int) > 60)&&(!decide ((d.W.length:Int) > 60)&&!decide ((d.B.length:Int) > 60)))
theorem amn {l:List Dv} {i:Nat} (h:i<l.length):rwK l (i:Int)=l[i]:=by
 unfold rwK
 have e:((i:Nat):Int).toNat=i:=by simp
 rw [e,axF,List.getElem?_map,axP h]
 exact adA _
structure ALi where
 l:List Dv
 i:Nat
noncomputable def hLi (x:ALi):St:=sLi x.l (x.i:Int)
def Y8 (x:ALi) (R:aj × St->Prop):Prop:=(x.i<=x.l.length∧x.l.length<=1000000)∧af ((x.l.drop x.i).all pC) (R (.normal,dLi)) (R (.ret,eLi))
def Y9 (x:ALi) (R:aj × St->Prop) (q:RO):Prop:=match q with
 | .next s=>∃ y,s=hLi y∧y.l.length - y.i<x.l.length - x.i∧Y8 y R
 | .done e s=>R (e,s)
theorem xd {l:List Dv} {i:Nat} {xs:List Int} {R:RO->Prop} {A E:Prop} {b:Bool} (hi:i<l.length) (h:af (!decide ((xs.length:Int) > 60)&&b) A (R (.done .ret eLi))) (hA:af b A (R (.done .ret eLi))->E):li1 l (i:Int) xs R E:=by
 unfold li1
 refine cU ⟨by omega,by rw [azq]; omega⟩ ?_
 cases hd:decide ((xs.length:Int) > 60) with
 | true=>rw [hd] at h; exact sT rfl h
 | false=>rw [hd] at h; exact sF rfl (hA h)
theorem asf (x:ALi) (R:aj × St->Prop) (h:Y8 x R):aJ ((rLi (hLi x)).run (Y9 x R)):=by
 obtain ⟨l,i⟩:=x
 obtain ⟨⟨h1,h2⟩,hR⟩:=h
 simp only at h1 h2 hR
 have hw:IntKind.i64.wrap ((i:Int)+1)=((i+1:Nat):Int):=by rw [ay']; omega
 refine aJ.of_eq (aeu l (i:Int) _) ?_
 by_cases hk:i<l.length
 ·refine sT (axv (by rw [azq]; omega)) ?_
  rw [amn hk,hw]
  rw [axO hk,List.all_cons] at hR
  have h0:af (pC l[i]&&true) (Y9 ⟨l,i⟩ R (.next (hLi ⟨l,i+1⟩))) (Y9 ⟨l,i⟩ R (.done .ret eLi)):=by
   rw [Bool.and_true]
   cases hs:pC l[i] with
   | true=>
     rw [hs,Bool.true_and] at hR
     exact ⟨⟨l,i+1⟩,rfl,by simp only; omega,⟨by simp only; omega,h2⟩,hR⟩
   | false=>
     rw [hs,Bool.false_and] at hR
     exact hR
  rw [Bool.and_true] at h0
  unfold pC at h0
  refine xd hk h0 fun h0=>xd hk h0 fun h0=>xd hk h0 fun h0=>xd (b:=true) hk (by rw [Bool.and_true]; exact h0) fun h0=>?_
  exact h0
 ·refine sF (axw (by rw [azq]; omega)) ?_
  rw [List.drop_eq_nil_iff.2 (by omega)] at hR
  exact hR
def av9 (s:St):Option (List Dv):=match s.fr[(0:Nat)]? with
 | some (.v (.c (.lt _ xs)))=>some (xs.map tp)
 | _=>none
noncomputable def lLi (s:St):Tr (aj × St):=match av9 s with
 | some l=>.aF (s=sLi l 0∧l.length<=1000000) (.br (l.all pC) (.ret (.normal,dLi)) (.ret (.ret,eLi)))
 | none=>.fail
theorem aev:jL prog GL 0 0 (ae aet 0) lLi:=by
 refine cf (X:=ase) az mixed (aM.none (by kernel_rfl)) [0,5] [4] hLi (fun x=>x.l.length - x.i) Y8 ?_ ?_
 ·intro s R h
  unfold lLi at h
  split at h
  case h_2=>exact h.elim
  rename_i l hx
  obtain ⟨⟨hs,hl⟩,hR⟩:=h
  exact ⟨⟨l,0⟩,hs,⟨azN _,hl⟩,hR⟩
 ·intro x R h
  exact Tr.aN _ (fun q hq=>hq) (asf x R h).out
noncomputable def amo:au:=fun args I=>if I.length=0 then aD prog GL (fun _=>ay1) [(0,[0,5],lLi)] aet args I else .fail
theorem av':Known prog GL 9 amo:=av 0 func9 rfl (by kernel_rfl) mixed az (aM.one (id:=0) (body:=ae aet 0) (by kernel_rfl) rfl aev)
noncomputable def wF (b:Bool):Out:=⟨.v (.c (.b b)),[]⟩
theorem aew (l:List Dv) (n:Int) (R:Out->Prop):(amo [.c (.lt nQ (l.map Dv.fc)),.c (.i .i64 n)] []).run R =
 af (decide (((l.map Dv.fc).length:Int) > n)) (R (wF false)) ((sLi l 0=sLi ((l.map Dv.fc).map tp) 0∧((l.map Dv.fc).map tp).length<=1000000)∧af (((l.map Dv.fc).map tp).all pC) (R (wF true)) (R (wF false))):=by kernel_rfl
theorem HD (l:List Dv):(l.map Dv.fc).map tp=l:=by
 rw [List.map_map]
 exact List.map_id l
def iS (l:List Dv) (n:Int):Bool:=!decide ((l.length:Int) > n)&&l.all pC
noncomputable def zA:au:=fun args I=>match args,I with
 | [.c (.lt _ xs),.c (.i _ n)],[]=>.aF (args=[.c (.lt nQ ((xs.map tp).map Dv.fc)),.c (.i .i64 n)]∧n<=1000) (.br (iS (xs.map tp) n) (.ret (wF true)) (.ret (wF false)))
 | _,_=>.fail
attribute [local irreducible] amo in
theorem Y':Known prog GL 9 zA:=by
 refine av'.less fun args I R h=>?_
 unfold zA at h
 split at h
 case h_2=>exact h.elim
 rename_i _ xs _ n
 obtain ⟨⟨h1,hn⟩,h⟩:=h
 rw [h1]
 generalize xs.map tp=l at h
 have h:af (iS l n) (R (wF true)) (R (wF false)):=h
 refine (aJ.of_eq (aew l n R) ?_).out
 rw [HD,azq]
 unfold iS at h
 cases hd:decide ((l.length:Int) > n) with
 | true=>rw [hd] at h; exact sT rfl h
 | false=>
   have hd':=of_decide_eq_false hd
   rw [hd] at h
   exact sF rfl ⟨⟨rfl,by omega⟩,h⟩
def five (e:Option Nat) (X:Prop):Prop:=af (e==none) X (af (e==some fM) X (af (e==some dX) X (af (e==some fN) X X)))
theorem aex {e:Option Nat} {X:Prop} (h:X):five e X:=by
 have two:∀ {b:Bool} {A B:Prop},A->B->af b A B:=fun {b A B} ha hb=>by
  cases b with
  | true=>exact sT rfl ha
  | false=>exact sF rfl hb
 exact two h (two h (two h (two h h)))
def uQ (V:Rv):Prop:=wC V=wC V.bk∧V.bk.m.ok
end ke
namespace ke
open bR (sT sF Ky Sp bA dY aC aY)
open ac (Pg fO)
open Go Go.Nx pk cH bm rv
open df (B8 iR u8_in D0 pA D1 Kz zp)
theorem ahV (x:Int):B8 (sv.rv (sv.Il x)):=by
 have key:∀ n<256,0<=sv.rv (azi n)∧sv.rv (azi n)<256:=by decide +kernel
 have h:=sv.za x
 unfold sv.mBy at h
 have hk:=key (sv.Il x).toNat (by omega)
 have e:azi (sv.Il x).toNat=sv.Il x:=by show (((sv.Il x).toNat:Nat):Int)=sv.Il x; omega
 rw [e] at hk
 exact hk
theorem asg (b:Bool) (o:Int):B8 (sv.ofB b o):=by
 unfold sv.ofB
 cases b with
 | true=>exact sv.ag' _ _
 | false=>exact sv.za _
theorem amp (aR pg sb n:Int):∀ b∈bh.svB aR pg sb n,B8 b:=by
 unfold bh.svB sv.LR sv.hdR sv.ari sv.Im
 refine List.forall_mem_cons.2 ⟨⟨by decide,by decide⟩,List.forall_mem_cons.2 ⟨⟨by decide,by decide⟩,pA (List.forall_mem_cons.2 ⟨iR _,pA (bh.X6 _ _ _) ?_⟩) ?_⟩⟩
 ·refine List.forall_mem_cons.2 ⟨ahV _,List.forall_mem_cons.2 ⟨ahV _,List.forall_mem_cons.2 ⟨asg _ _,?_⟩⟩⟩
  iterate 6 (refine List.forall_mem_cons.2 ⟨sv.za _,?_⟩)
  iterate 4 (refine List.forall_mem_cons.2 ⟨bh.alk,?_⟩)
  exact bh.KA
 ·intro b hb
  obtain ⟨i,-,rfl⟩:=List.mem_map.1 hb
  exact sv.Wx _
theorem Eb (d:Dv) (hW:∀ b∈d.W,B8 b):∀ b∈bh.iw d,B8 b:=by
 unfold bh.iw
 cases d.k==1 with
 | true=>exact Kz _ (D0 _ _)
 | false=>
 cases d.k==2 with
 | true=>exact D1 (D0 _ _)
 | false=>
 cases d.k==3 with
 | true=>exact zp _ _ _ _
 | false=>
 cases d.k==4 with
 | true=>exact bh.alm _ _ _
 | false=>
 cases d.k==5 with
 | true=>exact zp _ _ _ _
 | false=>
 cases d.k==6 with
 | true=>exact zp _ _ _ _
 | false=>
 cases d.k==7 with
 | true=>exact amp _ _ _ _
 | false=>exact hW
def BS (d:Dv):Prop:=d.W.length<=1000000∧∀ b∈d.W,B8 b
end ke
end Go.Proofs.YthknkidbonfbnaaGreatDoor
namespace Go.Nx
open Go Go.Proofs Go.RowKit
set_option maxHeartbeats 1000000 in
theorem K4 (b o n c:Nat) (xs:List Int) (cv:Int) (w:World) (hx:xs.length=n) (hc:∀ i,i<n->w.cell? ⟨b,o+i,none⟩=some (.int .u8 (xs.getD i 0))) :
  Calls prog 197 #[.slice (some ⟨b,o,none⟩) n c,.int .u8 cv] w fun e w'=>e=.returned (.int .i64 (Lib.indexByte (Lib.bytesOf xs) cv.toNat.toUInt8))∧w'=w:=by
 go_enter func197,ntmps197
 go_wp2
 rw [run_callFunc_extern func201 (by kernel_rfl) (by kernel_rfl) (by kernel_rfl) (e:=Extern.BytealgIndexByte.indexByte) (by kernel_rfl),Lib.run_indexByteSlice w b o n c xs hx hc cv]
 simp only [Result.andThen]
 rw [Oper.upon_value]
 go_wp2
 go_ret
 exact ⟨rfl,rfl⟩
end Go.Nx
namespace Go.Proofs.YthknkidbonfbnaaGreatDoor
namespace gr
open Go Go.Nx pk
def ixT (c:Int):List Int->Int->Tr Out
 | [],_=>.ret ⟨.v (.c (.i .i64 (-1))),[]⟩
 | x::xs,i=>.br (x==c) (.ret ⟨.v (.c (.i .i64 i)),[]⟩) (ixT c xs (i+1))
def rD (c:Int):List Int->Int->Int
 | [],_=>-1
 | x::xs,i=>bif x==c then i else rD c xs (i+1)
theorem NX {c:Int} {R:Out->Prop}:∀ {xs:List Int} {i:Int},(ixT c xs i).run R->R ⟨.v (.c (.i .i64 (rD c xs i))),[]⟩
 | [],_,h=>h
 | x::xs,i,h=>by
   have h:af (x==c) (R ⟨.v (.c (.i .i64 i)),[]⟩) ((ixT c xs (i+1)).run R):=h
   unfold rD
   cases hx:x==c with
   | true=>rw [hx] at h; exact h
   | false=>rw [hx] at h; exact NX (xs:=xs) h
def b8 (x:Int):Prop:=0<=x∧x<256
theorem ash {x c:Int} (hx:b8 x) (hc:b8 c):(UInt8.ofNat x.toNat==c.toNat.toUInt8)=(x==c):=by
 unfold b8 at hx hc
 rw [Bool.eq_iff_iff,beq_iff_eq,beq_iff_eq]
 constructor
 ·intro h
  have h:=congrArg UInt8.toNat h
  have e1:(UInt8.ofNat x.toNat).toNat=x.toNat:=by rw [UInt8.toNat_ofNat']; omega
  have e2:(c.toNat.toUInt8).toNat=c.toNat:=by
   show (UInt8.ofNat c.toNat).toNat=c.toNat
   rw [UInt8.toNat_ofNat']; omega
  rw [e1,e2] at h
  omega
 ·rintro rfl
  rfl
theorem Za (c:Int):∀ (xs:List Int) (i:Int),0<=i->rD c xs i=-1∨0<=rD c xs i
 | [],_,_=>.inl rfl
 | x::xs,i,h=>by
   unfold rD
   cases x==c with
   | true=>exact .inr h
   | false=>exact Za c xs (i+1) (by omega)
theorem ahW {c:Int} (hc:b8 c):∀ (xs:List Int),(∀ x∈xs,b8 x)->∀ i:Int,0<=i->rD c xs i=bif Lib.indexByte (Lib.bytesOf xs) c.toNat.toUInt8==-1 then -1 else Lib.indexByte (Lib.bytesOf xs) c.toNat.toUInt8+i
 | [],_,_,_=>rfl
 | x::xs,h,i,hi=>by
   have ih:=ahW hc xs (fun y hy=>h y (List.mem_cons_of_mem _ hy))
   have e:=ash (h x (List.mem_cons_self ..)) hc
   show (bif x==c then i else rD c xs (i+1))=_
   have el:Lib.indexByte (Lib.bytesOf (x::xs)) c.toNat.toUInt8=if (UInt8.ofNat x.toNat==c.toNat.toUInt8) then 0 else if Lib.indexByte (Lib.bytesOf xs) c.toNat.toUInt8==-1 then -1 else Lib.indexByte (Lib.bytesOf xs) c.toNat.toUInt8+1:=rfl
   rw [el,e]
   cases x==c with
   | true=>show i=_; simp
   | false=>
     have h0:=ih 0 (by omega)
     have h1:=ih (i+1) (by omega)
     have hg:=Za c xs 0 (by omega)
     rw [h0] at hg
     show rD c xs (i+1)=_
     rw [h1]
     cases hb:Lib.indexByte (Lib.bytesOf xs) c.toNat.toUInt8==-1 with
     | true=>simp
     | false=>
       rw [hb] at hg
       have hn:Lib.indexByte (Lib.bytesOf xs) c.toNat.toUInt8≠-1:=by simpa using hb
       have hg:Lib.indexByte (Lib.bytesOf xs) c.toNat.toUInt8+0=-1∨0<=Lib.indexByte (Lib.bytesOf xs) c.toNat.toUInt8+0:=hg
       have h2:(Lib.indexByte (Lib.bytesOf xs) c.toNat.toUInt8+1==-1)=false:=by rw [beq_eq_false_iff_ne]; omega
       simp only [cond_false,Bool.false_eq_true,if_false,h2]
       omega
noncomputable def tIx:au:=fun args I=>match args,I with
 | [.c (.l .u8 xs),.c (.i .u8 c)],[]=>.aF (xs≠[]∧(∀ x∈xs,b8 x)∧b8 c) (ixT c xs 0)
 | _,_=>.fail
noncomputable def asi:au:=fun args I=>aD prog GL (fun _=>ay1) [] f197 args I
theorem asj:Known prog GL 197 asi:=ah func197 rfl (by kernel_rfl) mixed az (by kernel_rfl)
theorem kIx:Known prog GL 197 tIx:=by
 refine ⟨asj.qV,fun args I R h Γ w vs hw hG ha IK=>?_⟩
 unfold tIx at h
 split at h
 case h_2=>exact h.elim
 rename_i xs c
 obtain ⟨⟨b9,jd,hc⟩,h⟩:=h
 have hR:=NX h
 clear h
 cases ha with
 | cons r1 r=>
   cases r with
   | cons r2 r=>
     cases r
     obtain ⟨⟨a,cap,rfl,dh,dK⟩,-⟩:=r1
     obtain ⟨rfl,-⟩:=r2
     rcases dK with rfl | ⟨ax,off,rfl,hb,cs,e,fz,hk,aiM⟩
     ·exact (b9 rfl).elim
     have sB:=hw.kp _ _ hk
     have il:∀ i,i<xs.length->w.cell? ⟨ax,off+i,none⟩=some (.int .u8 (xs.getD i 0)):=fun i hi=>by
      have:=aiM i (.int .u8 (xs.getD i 0)) (by rw [List.getElem?_map,axP hi,axF,axP hi]; rfl)
      simp [World.cell?,sB,this]
     refine (K4 ax off xs.length cap xs c w rfl il).mono ?_
     rintro e' w' ⟨rfl,rfl⟩
     have ev:Lib.indexByte (Lib.bytesOf xs) c.toNat.toUInt8=rD c xs 0:=by
      have h0:=ahW hc xs jd 0 (by omega)
      rw [h0]
      cases hb:Lib.indexByte (Lib.bytesOf xs) c.toNat.toUInt8==-1 with
      | true=>simpa using hb
      | false=>simp
     rw [ev]
     exact ⟨_,_,Γ,hR,rfl,Ext.refl Γ w',⟨rfl,rfl⟩,hw,Wd.refl w'⟩
noncomputable def K5:au:=fun args I=>aD prog GL (fun _=>ay1) [] f200 args I
theorem Zb:Known prog GL 200 K5:=ah func200 rfl (by kernel_rfl) mixed az (by kernel_rfl)
noncomputable def BT:au:=fun args I=>aD prog GL (fun _=>ay1) [] f198 args I
theorem Ra:Known prog GL 198 BT:=ah func198 rfl (by kernel_rfl) mixed az (by kernel_rfl)
noncomputable def NY:FuncId->Option au:=aE [(200,K5)]
theorem Zc:∀ f T,NY f=some T->Known prog GL f T:=(aq.cons Zb .nil).get
noncomputable def NZ:au:=fun args I=>aD prog GL NY [] f199 args I
theorem aey:Known prog GL 199 NZ:=ah func199 rfl (by kernel_rfl) mixed Zc (by kernel_rfl)
noncomputable def zB:au:=fun args I=>aD prog GL (fun _=>ay1) [] f188 args I
theorem HE:Known prog GL 188 zB:=ah func188 rfl (by kernel_rfl) mixed az (by kernel_rfl)
noncomputable def N0:au:=fun args I=>aD prog GL (fun _=>ay1) [] f179 args I
theorem aez:Known prog GL 179 N0:=ah func179 rfl (by kernel_rfl) mixed az (by kernel_rfl)
noncomputable def Zd:FuncId->Option au:=aE [(179,N0)]
theorem aeA:∀ f T,Zd f=some T->Known prog GL f T:=(aq.cons aez .nil).get
noncomputable def Ze:au:=fun args I=>aD prog GL Zd [] f167 args I
theorem amq:Known prog GL 167 Ze:=ah func167 rfl (by kernel_rfl) mixed aeA (by kernel_rfl)
noncomputable def Zf:au:=fun args I=>aD prog GL (fun _=>ay1) [] f190 args I
theorem ahX:Known prog GL 190 Zf:=ah func190 rfl (by kernel_rfl) mixed az (by kernel_rfl)
noncomputable def ahY:au:=fun args I=>aD prog GL (fun _=>ay1) [] f196 args I
theorem asl:Known prog GL 196 ahY:=ah func196 rfl (by kernel_rfl) mixed az (by kernel_rfl)
noncomputable def ahZ:au:=fun args I=>aD prog GL (fun _=>ay1) [] f191 args I
theorem asm:Known prog GL 191 ahZ:=ah func191 rfl (by kernel_rfl) mixed az (by kernel_rfl)
noncomputable def Zg:FuncId->Option au:=aE [(190,Zf),(196,ahY)]
theorem aeB:∀ f T,Zg f=some T->Known prog GL f T:=(aq.cons ahX (.cons asl .nil)).get
noncomputable def Zh:au:=fun args I=>aD prog GL Zg [] f192 args I
theorem amr:Known prog GL 192 Zh:=ah func192 rfl (by kernel_rfl) mixed aeB (by kernel_rfl)
noncomputable def K6:au:=fun args I=>aD prog GL (fun _=>ay1) [] f189 args I
theorem Zi:Known prog GL 189 K6:=ah func189 rfl (by kernel_rfl) mixed az (by kernel_rfl)
noncomputable def ah0:FuncId->Option au:=aE [(189,K6)]
theorem ams:∀ f T,ah0 f=some T->Known prog GL f T:=(aq.cons Zi .nil).get
noncomputable def Zj:au:=fun args I=>aD prog GL ah0 [] f182 args I
theorem asn:Known prog GL 182 Zj:=ah func182 rfl (by kernel_rfl) mixed ams (by kernel_rfl)
noncomputable def Zk:au:=fun args I=>aD prog GL (fun _=>ay1) [] f194 args I
theorem amt:Known prog GL 194 Zk:=ah func194 rfl (by kernel_rfl) mixed az (by kernel_rfl)
noncomputable def Zl:FuncId->Option au:=aE [(194,Zk),(189,K6)]
theorem aeC:∀ f T,Zl f=some T->Known prog GL f T:=(aq.cons amt (.cons Zi .nil)).get
noncomputable def K7:au:=fun args I=>aD prog GL Zl [] f184 args I
theorem amu:Known prog GL 184 K7:=ah func184 rfl (by kernel_rfl) mixed aeC (by kernel_rfl)
noncomputable def amv (j:Int):au:=fun args I=>match args,I with
 | [.c (.l _ xs),.c (.i _ c)],[]=>.aF (args=[.c (.l .u8 xs),.c (.i .u8 c)]∧(xs≠[]∧(∀ x∈xs,b8 x)∧b8 c)∧rD c xs 0=j) (.ret ⟨.v (.c (.i .i64 j)),[]⟩)
 | _,_=>.fail
theorem Zm {c:Int} {R:Out->Prop}:∀ {xs:List Int} {i:Int},R ⟨.v (.c (.i .i64 (rD c xs i))),[]⟩->(ixT c xs i).run R
 | [],_,h=>h
 | x::xs,i,h=>by
   show af (x==c) (R ⟨.v (.c (.i .i64 i)),[]⟩) ((ixT c xs (i+1)).run R)
   unfold rD at h
   cases hx:x==c with
   | true=>rw [hx] at h; exact h
   | false=>rw [hx] at h; exact Zm (xs:=xs) h
theorem awa (j:Int):Known prog GL 197 (amv j):=by
 refine kIx.less fun args I R h=>?_
 unfold amv at h
 split at h
 case h_2=>exact h.elim
 obtain ⟨⟨h1,h2,h3⟩,h⟩:=h
 rw [h1]
 subst h3
 exact ⟨h2,Zm h⟩
noncomputable def Zn (j:Int):FuncId->Option au:=aE [(198,BT),(197,(amv j)),(188,zB),(199,NZ),(200,K5)]
theorem aeD (j:Int):∀ f T,(Zn j) f=some T->Known prog GL f T:=(aq.cons Ra (.cons (awa j) (.cons HE (.cons aey (.cons Zb .nil))))).get
noncomputable def fq (j:Int):au:=fun args I=>aD prog GL (Zn j) [] f193 args I
theorem amw (j:Int):Known prog GL 193 (fq j):=ah func193 rfl (by kernel_rfl) mixed (aeD j) (by kernel_rfl)
end gr
section
namespace gr
open Go Go.Nx pk
theorem sT {c:Bool} {A B:Prop} (h:c=true) (hA:A):af c A B:=by rw [h]; exact hA
theorem sF {c:Bool} {A B:Prop} (h:c=false) (hB:B):af c A B:=by rw [h]; exact hB
theorem cx {α:Type} {R:α->Prop} {c:Bool} {a b:α} {A B:Prop} (h:R (bif c then a else b)) (ha:R a->A) (hb:R b->B):af c A B:=by
 cases c
 ·exact hb h
 ·exact ha h
theorem gQ {P:Program} {gl:List Nat} {f:FuncId} {ι:Type} {T:ι->au} {T' : au} (i0:ι) (hk:∀ i,Known P gl f (T i)) (h:∀ args I R,(T' args I).run R->∃ i,(T i args I).run R):Known P gl f T':=
 ⟨(hk i0).qV,fun args I R hr=>by obtain ⟨i,hi⟩:=h args I R hr; exact (hk i).sound args I R hi⟩
def gO (n:Int):Out:=⟨.v (.c (.i .i64 n)),[]⟩
abbrev fu (n:Int):Int:=IntKind.i64.wrap n
abbrev b7 (c:Int):Int:=bits .and .u8 c 127
def plV (c:Int):Int:=bif decide (b7 c<32) then 32 else bif b7 c==127 then 9632 else fu (b7 c)
theorem K8 (c:Int) (R:Out->Prop):(zB [.c (.i .u8 c)] []).run R=af (decide (b7 c<32)) (R (gO 32)) (af (b7 c==127) (R (gO 9632)) (R (gO (fu (b7 c))))):=by kernel_rfl
noncomputable def tPl:au:=fun args I=>match args,I with
 | [.c (.i _ c)],[]=>.aF (args=[.c (.i .u8 c)]) (.ret (gO (plV c)))
 | _,_=>.fail
theorem kPl:Known prog GL 188 tPl:=by
 refine HE.less fun args I R h=>?_
 unfold tPl at h
 split at h
 case h_2=>exact h.elim
 rename_i _ c
 obtain ⟨h1,h⟩:=h
 rw [h1]
 have h:(fun n=>R (gO n)) (plV c):=h
 unfold plV at h
 exact (aJ.of_eq (K8 c R) (cx (R:=fun n=>R (gO n)) h id fun h=>cx (R:=fun n=>R (gO n)) h id id)).out
def places:List Int:=[35,36,64,91,92,93,94,95,96,123,124,125,126]
def tbl:List (List FC):=[
 [.s ⟨#[69,110,103,108,105,115,104]⟩,.i 163,.i 36,.i 64,.i 8592,.i 189,.i 8594,.i 8593,.i 35,.i 8213,.i 188,.i 8214,.i 190,.i 247],
 [.s ⟨#[71,101,114,109,97,110]⟩,.i 35,.i 36,.i 167,.i 196,.i 214,.i 220,.i 94,.i 95,.i 176,.i 228,.i 246,.i 252,.i 223],
 [.s ⟨#[83,119,101,100,105,115,104]⟩,.i 35,.i 164,.i 201,.i 196,.i 214,.i 197,.i 220,.i 95,.i 233,.i 228,.i 246,.i 229,.i 252],
 [.s ⟨#[73,116,97,108,105,97,110]⟩,.i 163,.i 36,.i 233,.i 176,.i 231,.i 8594,.i 8593,.i 35,.i 249,.i 224,.i 242,.i 232,.i 236],
 [.s ⟨#[70,114,101,110,99,104]⟩,.i 233,.i 239,.i 224,.i 235,.i 234,.i 249,.i 238,.i 35,.i 232,.i 226,.i 244,.i 251,.i 231],
 [.s ⟨#[80,111,114,116,117,103,117,101,115,101]⟩,.i 231,.i 36,.i 161,.i 225,.i 233,.i 237,.i 243,.i 250,.i 191,.i 252,.i 241,.i 232,.i 224],
 [.s ⟨#[67,122,101,99,104]⟩,.i 35,.i 367,.i 269,.i 357,.i 382,.i 253,.i 237,.i 345,.i 233,.i 225,.i 283,.i 250,.i 353],
 [.s ⟨#[80,111,108,105,115,104]⟩,.i 35,.i 324,.i 261,.i 437,.i 346,.i 321,.i 263,.i 243,.i 281,.i 380,.i 347,.i 322,.i 378],
 [.s ⟨#[84,117,114,107,105,115,104]⟩,.i 8356,.i 287,.i 304,.i 350,.i 214,.i 199,.i 220,.i 286,.i 305,.i 351,.i 246,.i 231,.i 252],
 [.s ⟨#[83,101,114,98,105,97,110]⟩,.i 35,.i 203,.i 268,.i 262,.i 381,.i 272,.i 352,.i 235,.i 269,.i 263,.i 382,.i 273,.i 353],
 [.s ⟨#[82,117,109,97,110,105,97,110]⟩,.i 35,.i 164,.i 354,.i 194,.i 350,.i 258,.i 206,.i 305,.i 355,.i 226,.i 351,.i 259,.i 238],
 [.s ⟨#[69,115,116,111,110,105,97,110]⟩,.i 35,.i 245,.i 352,.i 196,.i 214,.i 381,.i 220,.i 213,.i 353,.i 228,.i 246,.i 382,.i 252],
 [.s ⟨#[76,101,116,116,105,115,104]⟩,.i 35,.i 36,.i 352,.i 279,.i 281,.i 381,.i 269,.i 363,.i 353,.i 261,.i 371,.i 382,.i 303]]
def Rb (o:Nat) (j:Nat):Int:=((tbl.getD o []).getD (1+j) (.i 0)).n
def lvV (o:Int) (j:Nat):Int:=bif decide (o<0) then Rb 0 j else bif decide (o >= 13) then Rb 0 j else Rb (0+o.toNat) j
def K9 (o c:Int) (j:Int):Prop:=[NV.c (.l .u8 places),.c (.i .u8 (b7 c))]=[NV.c (.l .u8 places),.c (.i .u8 (b7 c))]∧(places≠[]∧(∀ x∈places,b8 x)∧b8 (b7 c))∧rD (b7 c) places 0=j
def La (o:Int) (j:Nat) (R:Out->Prop):Prop:=af (decide (o<0)) (R (gO (Rb 0 j))) (af (decide (o >= 13)) (R (gO (Rb 0 j))) (af (decide (0<=o)) (af (decide (o<13)) (af (decide (0+o.toNat<tbl.length)) (R (gO (Rb (0+o.toNat) j))) False) False) False))
theorem awb (o c:Int) (R:Out->Prop):(fq (-1) [.c (.i .i64 o),.c (.i .u8 c)] []).run R=(K9 o c (-1)∧af (decide (b7 c<32)) (R (gO 32)) (af (b7 c==127) (R (gO 9632)) (R (gO (fu (b7 c)))))):=by kernel_rfl
theorem awc (o c:Int) (R:Out->Prop):(fq 0 [.c (.i .i64 o),.c (.i .u8 c)] []).run R=(K9 o c 0∧La o 0 R):=by kernel_rfl
theorem awd (o c:Int) (R:Out->Prop):(fq 1 [.c (.i .i64 o),.c (.i .u8 c)] []).run R=(K9 o c 1∧La o 1 R):=by kernel_rfl
theorem awe (o c:Int) (R:Out->Prop):(fq 2 [.c (.i .i64 o),.c (.i .u8 c)] []).run R=(K9 o c 2∧La o 2 R):=by kernel_rfl
theorem awf (o c:Int) (R:Out->Prop):(fq 3 [.c (.i .i64 o),.c (.i .u8 c)] []).run R=(K9 o c 3∧La o 3 R):=by kernel_rfl
theorem awg (o c:Int) (R:Out->Prop):(fq 4 [.c (.i .i64 o),.c (.i .u8 c)] []).run R=(K9 o c 4∧La o 4 R):=by kernel_rfl
theorem awh (o c:Int) (R:Out->Prop):(fq 5 [.c (.i .i64 o),.c (.i .u8 c)] []).run R=(K9 o c 5∧La o 5 R):=by kernel_rfl
theorem awi (o c:Int) (R:Out->Prop):(fq 6 [.c (.i .i64 o),.c (.i .u8 c)] []).run R=(K9 o c 6∧La o 6 R):=by kernel_rfl
theorem awj (o c:Int) (R:Out->Prop):(fq 7 [.c (.i .i64 o),.c (.i .u8 c)] []).run R=(K9 o c 7∧La o 7 R):=by kernel_rfl
theorem awk (o c:Int) (R:Out->Prop):(fq 8 [.c (.i .i64 o),.c (.i .u8 c)] []).run R=(K9 o c 8∧La o 8 R):=by kernel_rfl
theorem awl (o c:Int) (R:Out->Prop):(fq 9 [.c (.i .i64 o),.c (.i .u8 c)] []).run R=(K9 o c 9∧La o 9 R):=by kernel_rfl
theorem aso (o c:Int) (R:Out->Prop):(fq 10 [.c (.i .i64 o),.c (.i .u8 c)] []).run R=(K9 o c 10∧La o 10 R):=by kernel_rfl
theorem asp (o c:Int) (R:Out->Prop):(fq 11 [.c (.i .i64 o),.c (.i .u8 c)] []).run R=(K9 o c 11∧La o 11 R):=by kernel_rfl
theorem asq (o c:Int) (R:Out->Prop):(fq 12 [.c (.i .i64 o),.c (.i .u8 c)] []).run R=(K9 o c 12∧La o 12 R):=by kernel_rfl
def chL (o c:Int):Int:=bif decide (rD (b7 c) places 0<0) then plV c else lvV o (rD (b7 c) places 0).toNat
theorem asr (c:Int):b8 (b7 c):=by
 unfold b8
 have e:=wT .and c 127
 have:=(BitVec.isLt (F' .and (ay7 8 c) (ay7 8 127)))
 rw [show b7 c=_ from e]
 unfold u8
 omega
theorem pl8:∀ x∈places,b8 x:=by
 have:∀ x∈places,0<=x∧x<256:=by decide
 exact this
theorem amx {o c j:Int} (h:rD (b7 c) places 0=j):K9 o c j:=⟨rfl,⟨by decide,pl8,asr c⟩,h⟩
theorem iT {o:Int} {j:Nat} {R:Out->Prop} (h:R (gO (lvV o j))):La o j R:=by
 unfold lvV at h
 unfold La
 cases h0:decide (o<0) with
 | true=>rw [h0] at h; exact h
 | false=>
   rw [h0] at h
   cases h13:decide (o >= 13) with
   | true=>rw [h13] at h; exact h
   | false=>
     rw [h13] at h
     have h13:=of_decide_eq_false h13
     have h0:=of_decide_eq_false h0
     exact sF rfl (sF rfl (sT (axv (by omega)) (sT (axv (by omega)) (sT (axv (by show 0+o.toNat<13; omega)) h))))
theorem Zo (c:Int):∀ (xs:List Int) (i:Int),rD c xs i=-1∨(i<=rD c xs i∧rD c xs i<i+xs.length)
 | [],_=>.inl rfl
 | x::xs,i=>by
   unfold rD
   cases x==c with
   | true=>exact .inr ⟨Int.le_refl _,by simp only [cond_true,List.length_cons]; omega⟩
   | false=>
     rcases Zo c xs (i+1) with h | h
     ·exact .inl h
     ·exact .inr ⟨by simp only [cond_false]; omega,by simp only [cond_false,List.length_cons]; omega⟩
noncomputable def amy:au:=fun args I=>match args,I with
 | [.c (.i _ o),.c (.i _ c)],[]=>.aF (args=[.c (.i .i64 o),.c (.i .u8 c)]) (.ret (gO (chL o c)))
 | _,_=>.fail
attribute [local irreducible] fq in
theorem awm:Known prog GL 193 amy:=by
 refine gQ (T:=fq) 0 amw fun args I R h=>?_
 unfold amy at h
 split at h
 case h_2=>exact h.elim
 rename_i _ o _ c
 obtain ⟨h1,h⟩:=h
 rw [h1]
 have h:R (gO (chL o c)):=h
 have hr:=Zo (b7 c) places 0
 unfold chL at h
 refine ⟨rD (b7 c) places 0,?_⟩
 generalize hj:rD (b7 c) places 0=j at h hr ⊢
 have hr:j=-1∨j=0∨j=1∨j=2∨j=3∨j=4∨j=5∨j=6∨j=7∨j=8∨j=9∨j=10∨j=11∨j=12:=by
  have:(places.length:Int)=13:=rfl
  omega
 have hi:=amx (o:=o) hj
 rcases hr with rfl | rfl | rfl | rfl | rfl | rfl | rfl | rfl | rfl | rfl | rfl | rfl | rfl | rfl
 ·have h:(fun n=>R (gO n)) (plV c):=h
  unfold plV at h
  exact (aJ.of_eq (awb o c R) ⟨hi,cx (R:=fun n=>R (gO n)) h id fun h=>cx (R:=fun n=>R (gO n)) h id id⟩).out
 ·exact (aJ.of_eq (awc o c R) ⟨hi,iT h⟩).out
 ·exact (aJ.of_eq (awd o c R) ⟨hi,iT h⟩).out
 ·exact (aJ.of_eq (awe o c R) ⟨hi,iT h⟩).out
 ·exact (aJ.of_eq (awf o c R) ⟨hi,iT h⟩).out
 ·exact (aJ.of_eq (awg o c R) ⟨hi,iT h⟩).out
 ·exact (aJ.of_eq (awh o c R) ⟨hi,iT h⟩).out
 ·exact (aJ.of_eq (awi o c R) ⟨hi,iT h⟩).out
 ·exact (aJ.of_eq (awj o c R) ⟨hi,iT h⟩).out
 ·exact (aJ.of_eq (awk o c R) ⟨hi,iT h⟩).out
 ·exact (aJ.of_eq (awl o c R) ⟨hi,iT h⟩).out
 ·exact (aJ.of_eq (aso o c R) ⟨hi,iT h⟩).out
 ·exact (aJ.of_eq (asp o c R) ⟨hi,iT h⟩).out
 ·exact (aJ.of_eq (asq o c R) ⟨hi,iT h⟩).out
def frV (c:Int):Int:=bif decide (b7 c<32) then 0 else bif bits .and .u8 (b7 c) 64 !=0 then bits .or .i64 (fu (bits .and .u8 (b7 c) 31)) 32 else fu (bits .and .u8 (b7 c) 31)
def isM (c:Int):Bool:=bits .and .u8 c 32 !=0
def ptV (c:Int):Int:=bif !isM c then 0 else frV c
def WV (p:Int) (b:Bool):Int:=bif b then bits .or .i64 (bits .or .i64 1048576 (bits .and .i64 p 63)) 64 else bits .or .i64 1048576 (bits .and .i64 p 63)
theorem Zp (c:Int) (R:Out->Prop):(Zh [.c (.i .u8 c)] []).run R=af (!isM c) (R (gO 0)) (af (decide (b7 c<32)) (R (gO 0)) (af (bits .and .u8 (b7 c) 64 !=0) (R (gO (bits .or .i64 (fu (bits .and .u8 (b7 c) 31)) 32))) (R (gO (fu (bits .and .u8 (b7 c) 31)))))):=by kernel_rfl
theorem aeE (p:Int) (b:Bool) (R:Out->Prop):(ahZ [.c (.i .i64 p),.c (.b b)] []).run R=af b (R (gO (bits .or .i64 (bits .or .i64 1048576 (bits .and .i64 p 63)) 64))) (R (gO (bits .or .i64 1048576 (bits .and .i64 p 63)))):=by kernel_rfl
noncomputable def amz:au:=fun args I=>match args,I with
 | [.c (.i _ c)],[]=>.aF (args=[.c (.i .u8 c)]) (.ret (gO (ptV c)))
 | _,_=>.fail
noncomputable def tGl:au:=fun args I=>match args,I with
 | [.c (.i _ p),.c (.b b)],[]=>.aF (args=[.c (.i .i64 p),.c (.b b)]) (.ret (gO (WV p b)))
 | _,_=>.fail
theorem awn:Known prog GL 192 amz:=by
 refine amr.less fun args I R h=>?_
 unfold amz at h
 split at h
 case h_2=>exact h.elim
 rename_i _ c
 obtain ⟨h1,h⟩:=h
 rw [h1]
 have h:(fun n=>R (gO n)) (ptV c):=h
 unfold ptV at h
 refine (aJ.of_eq (Zp c R) (cx (R:=fun n=>R (gO n)) h id fun h=>?_)).out
 unfold frV at h
 exact cx (R:=fun n=>R (gO n)) h id fun h=>cx (R:=fun n=>R (gO n)) h id id
theorem kGl:Known prog GL 191 tGl:=by
 refine asm.less fun args I R h=>?_
 unfold tGl at h
 split at h
 case h_2=>exact h.elim
 rename_i _ p b
 obtain ⟨h1,h⟩:=h
 rw [h1]
 have h:(fun n=>R (gO n)) (WV p b):=h
 unfold WV at h
 exact (aJ.of_eq (aeE p b R) (cx (R:=fun n=>R (gO n)) h id id)).out
structure Sx where
 fg:Int
 bg:Int
 mo:Bool
 pa:Bool
 ho:Bool
 fl:Bool
 co:Bool
 bx:Bool
 db:Bool
 he:Int
 la:Int
def Sx.nc (s:Sx):List NC:=[.i .i64 s.fg,.i .i64 s.bg,.b s.mo,.b s.pa,.b s.ho,.b s.fl,.b s.co,.b s.bx,.b s.db,.i .i64 s.he,.i .u8 s.la]
def sO (s:Sx):Out:=⟨.v (.ag s.nc),[]⟩
def Sx.dbl (s:Sx) (on:Bool):Sx:=bif s.db !=on then {s with he:=32,db:=on} else {s with db:=on}
def Sx.at' (s:Sx) (c:Int):Sx:=
 bif c==9 then {s with fl:=false} else bif c==12 then s.dbl false else bif c==24 then {s with co:=true} else bif c==25 then {s with pa:=c==26} else bif c==26 then {s with pa:=c==26} else
 bif c==28 then {s with bg:=0} else bif c==29 then {s with bg:=s.fg} else bif c==30 then {s with ho:=true} else
 bif c==11 then (bif s.la==c then {s with bx:=c==11} else s) else bif c==10 then (bif s.la==c then {s with bx:=c==11} else s) else s
def amA (s:Sx) (on:Bool) (R:Out->Prop):Prop:=af (s.db !=on) (R (sO {s with he:=32,db:=on})) (R (sO {s with db:=on}))
def atT (s:Sx) (c:Int) (R:Out->Prop):Prop:=
 af (c==9) (R (sO {s with fl:=false})) (af (c==12) (amA s false R) (af (c==24) (R (sO {s with co:=true})) (af (c==25) (R (sO {s with pa:=c==26})) (af (c==26) (R (sO {s with pa:=c==26})) (
 af (c==28) (R (sO {s with bg:=0})) (af (c==29) (R (sO {s with bg:=s.fg})) (af (c==30) (R (sO {s with ho:=true})) (
 af (c==11) (af (s.la==c) (R (sO {s with bx:=c==11})) (R (sO s))) (af (c==10) (af (s.la==c) (R (sO {s with bx:=c==11})) (R (sO s))) (R (sO s)))))))))))
theorem Dq (s:Sx) (c:Int) (R:Out->Prop):(Zj [.ag s.nc,.c (.i .u8 c)] []).run R=atT s c R:=by kernel_rfl
theorem N1 {s:Sx} {on:Bool} {R:Out->Prop} (h:R (sO (s.dbl on))):amA s on R:=by
 have h:(fun x=>R (sO x)) (s.dbl on):=h
 unfold Sx.dbl at h
 exact cx (R:=fun x=>R (sO x)) h id id
theorem amB {s:Sx} {c:Int} {R:Out->Prop} (h:R (sO (s.at' c))):atT s c R:=by
 have h:(fun x=>R (sO x)) (s.at' c):=h
 unfold Sx.at' at h
 have q:=fun {c:Bool} {a b:Sx} {A B:Prop}=>@cx Sx (fun x=>R (sO x)) c a b A B
 exact q h id fun h=>q h N1 fun h=>q h id fun h=>q h id fun h=>q h id fun h=>q h id fun h=>q h id fun h=>q h id fun h=>q h (fun h=>q h id id) fun h=>q h (fun h=>q h id id) id
def Zq:List NC->Option Sx
 | [.i _ a,.i _ b,.b m,.b p,.b h,.b f,.b c,.b x,.b d,.i _ e,.i _ l]=>some ⟨a,b,m,p,h,f,c,x,d,e,l⟩
 | _=>none
noncomputable def tAt:au:=fun args I=>match args,I with
 | [.ag l,.c (.i _ c)],[]=>(match Zq l with
   | some s=>.aF (args=[.ag s.nc,.c (.i .u8 c)]) (.ret (sO (s.at' c)))
   | none=>.fail)
 | _,_=>.fail
attribute [local irreducible] Zj in
theorem kAt:Known prog GL 182 tAt:=by
 refine asn.less fun args I R h=>?_
 unfold tAt at h
 split at h
 case h_2=>exact h.elim
 split at h
 case h_2=>exact h.elim
 obtain ⟨h1,h⟩:=h
 rw [h1]
 exact (aJ.of_eq (Dq _ _ R) (amB h)).out
def Sx.col (s:Sx) (fg:Int) (m:Bool):Sx:=bif s.mo !=m then {s with fg:=fu fg,mo:=m,co:=false,he:=32} else {s with fg:=fu fg,mo:=m,co:=false}
def amC (s:Sx) (fg:Int) (m:Bool) (R:Out->Prop):Prop:=af (s.mo !=m) (R (sO {s with fg:=fu fg,mo:=m,co:=false,he:=32})) (R (sO {s with fg:=fu fg,mo:=m,co:=false}))
def Sx.be3 (s:Sx) (c:Int):Sx:=bif c==8 then {s with fl:=true} else bif c==13 then s.dbl true else bif c==31 then {s with ho:=false} else s
def amD (s:Sx) (c:Int) (R:Out->Prop):Prop:=af (c==8) (R (sO {s with fl:=true})) (af (c==13) (amA s true R) (af (c==31) (R (sO {s with ho:=false})) (R (sO s))))
def Sx.beh (s:Sx) (c:Int):Sx:=bif decide (c<8) then s.col c false else bif decide (c >= 16) then (bif decide (c<24) then s.col (IntKind.u8.wrap (c - 16)) true else s.be3 c) else s.be3 c
def ass (s:Sx) (c:Int) (R:Out->Prop):Prop:=af (decide (c<8)) (amC s c false R) (af (decide (c >= 16)) (af (decide (c<24)) (amC s (IntKind.u8.wrap (c - 16)) true R) (amD s c R)) (amD s c R))
theorem Zr (s:Sx) (c:Int) (R:Out->Prop):(K7 [.ag s.nc,.c (.i .u8 c)] []).run R=ass s c R:=by kernel_rfl
theorem N2 {s:Sx} {fg:Int} {m:Bool} {R:Out->Prop} (h:R (sO (s.col fg m))):amC s fg m R:=by
 have h:(fun x=>R (sO x)) (s.col fg m):=h
 unfold Sx.col at h
 exact cx (R:=fun x=>R (sO x)) h id id
theorem N3 {s:Sx} {c:Int} {R:Out->Prop} (h:R (sO (s.be3 c))):amD s c R:=by
 have h:(fun x=>R (sO x)) (s.be3 c):=h
 unfold Sx.be3 at h
 have q:=fun {c:Bool} {a b:Sx} {A B:Prop}=>@cx Sx (fun x=>R (sO x)) c a b A B
 exact q h id fun h=>q h N1 fun h=>q h id id
theorem aeF {s:Sx} {c:Int} {R:Out->Prop} (h:R (sO (s.beh c))):ass s c R:=by
 have h:(fun x=>R (sO x)) (s.beh c):=h
 unfold Sx.beh at h
 have q:=fun {c:Bool} {a b:Sx} {A B:Prop}=>@cx Sx (fun x=>R (sO x)) c a b A B
 exact q h N2 fun h=>q h (fun h=>q h N2 N3) N3
noncomputable def amE:au:=fun args I=>match args,I with
 | [.ag l,.c (.i _ c)],[]=>(match Zq l with
   | some s=>.aF (args=[.ag s.nc,.c (.i .u8 c)]) (.ret (sO (s.beh c)))
   | none=>.fail)
 | _,_=>.fail
attribute [local irreducible] K7 in
theorem awo:Known prog GL 184 amE:=by
 refine amu.less fun args I R h=>?_
 unfold amE at h
 split at h
 case h_2=>exact h.elim
 split at h
 case h_2=>exact h.elim
 obtain ⟨h1,h⟩:=h
 rw [h1]
 exact (aJ.of_eq (Zr _ _ R) (aeF h)).out
end gr
end
section
namespace gr
open Go Go.Nx pk
noncomputable def ah1:FuncId->Option au:=aE [(190,Zf),(192,amz),(191,tGl),(193,amy)]
theorem amF:∀ f T,ah1 f=some T->Known prog GL f T:=(aq.cons ahX (.cons awn (.cons kGl (.cons awm .nil)))).get
noncomputable def Zs:au:=fun args I=>aD prog GL ah1 [] f183 args I
theorem ast:Known prog GL 183 Zs:=ah func183 rfl (by kernel_rfl) mixed amF (by kernel_rfl)
def gTu (a b:Int):Out:=⟨.tu [.c (.i .i64 a),.c (.i .i64 b)],[]⟩
def Sx.gp (s:Sx) (c o:Int):Int × Int:=bif decide (c<32) then (bif s.ho then (bif s.mo then (s.he,s.he) else (32,s.he)) else (32,s.he)) else bif s.mo then (bif isM c then (WV (ptV c) s.pa,WV (ptV c) s.pa) else (chL o c,s.he)) else (chL o c,s.he)
def chM (s:Sx) (c o:Int) (R:Out->Prop):Prop:=[NV.c (.i .i64 o),.c (.i .u8 c)]=[NV.c (.i .i64 o),.c (.i .u8 c)]∧R (gTu (chL o c) s.he)
def gL (s:Sx) (c o:Int) (R:Out->Prop):Prop:=af (decide (c<32)) (R (gTu 32 s.he)) (af s.mo (af (isM c) ([NV.c (.i .u8 c)]=[NV.c (.i .u8 c)]∧([NV.c (.i .i64 (ptV c)),.c (.b s.pa)]=[NV.c (.i .i64 (ptV c)),.c (.b s.pa)]∧R (gTu (WV (ptV c) s.pa) (WV (ptV c) s.pa)))) (chM s c o R)) (chM s c o R))
theorem awp (s:Sx) (c o:Int) (R:Out->Prop):(Zs [.ag s.nc,.c (.i .u8 c),.c (.i .i64 o)] []).run R=af (decide (c<32)) (af s.ho (af s.mo (R (gTu s.he s.he)) (gL s c o R)) (gL s c o R)) (gL s c o R):=by kernel_rfl
noncomputable def tGp:au:=fun args I=>match args,I with
 | [.ag l,.c (.i _ c),.c (.i _ o)],[]=>(match Zq l with
   | some s=>.aF (args=[.ag s.nc,.c (.i .u8 c),.c (.i .i64 o)]) (.ret (gTu (s.gp c o).1 (s.gp c o).2))
   | none=>.fail)
 | _,_=>.fail
theorem asu {s:Sx} {c o:Int} {R:Out->Prop} (h:R (gTu (s.gp c o).1 (s.gp c o).2)):af (decide (c<32)) (af s.ho (af s.mo (R (gTu s.he s.he)) (gL s c o R)) (gL s c o R)) (gL s c o R):=by
 unfold Sx.gp at h
 unfold gL chM
 cases h1:decide (c<32) with
 | true=>
   rw [h1] at h
   refine sT rfl ?_
   cases h2:s.ho with
   | true=>
     rw [h2] at h
     refine sT rfl ?_
     cases h3:s.mo with
     | true=>rw [h3] at h; exact h
     | false=>rw [h3] at h; exact h
   | false=>rw [h2] at h; exact h
 | false=>
   rw [h1] at h
   refine sF rfl (sF rfl ?_)
   cases h3:s.mo with
   | true=>
     rw [h3] at h
     refine sT rfl ?_
     cases h4:isM c with
     | true=>rw [h4] at h; exact ⟨rfl,rfl,h⟩
     | false=>rw [h4] at h; exact ⟨rfl,h⟩
   | false=>rw [h3] at h; exact ⟨rfl,h⟩
attribute [local irreducible] Zs in
theorem kGp:Known prog GL 183 tGp:=by
 refine ast.less fun args I R h=>?_
 unfold tGp at h
 split at h
 case h_2=>exact h.elim
 split at h
 case h_2=>exact h.elim
 obtain ⟨h1,h⟩:=h
 rw [h1]
 exact (aJ.of_eq (awp _ _ _ R) (asu h)).out
noncomputable def N4:FuncId->Option au:=aE [(182,tAt),(183,tGp),(184,amE)]
theorem Zt:∀ f T,N4 f=some T->Known prog GL f T:=(aq.cons kAt (.cons kGp (.cons awo .nil))).get
noncomputable def Ec:au:=fun args I=>aD prog GL N4 [] f171 args I
theorem aeG:Known prog GL 171 Ec:=ah func171 rfl (by kernel_rfl) mixed Zt (by kernel_rfl)
def awq (s:Sx) (g:Int) (hi:Int):List Sc:=[.i g,.i s.fg,.i s.bg,.b s.fl,.b s.co,.b s.bx,.b false,.b false,.i hi,.i 0]
def awr (s:Sx) (g:Int) (hi:Int):List NC:=[.i .i64 g,.i .i64 s.fg,.i .i64 s.bg,.b s.fl,.b s.co,.b s.bx,.b false,.b false,.i .i64 hi,.i .i64 0]
def Sx.hi (s:Sx):Int:=bif s.db then 1 else 0
def Sx.with (s:Sx) (h:Int):Sx:={s with he:=h}
def Sx.last (s:Sx) (c:Int):Sx:={s with la:=c}
def Rc (s:Sx) (c o:Int):Sx:=(((s.at' (b7 c)).with ((s.at' (b7 c)).gp (b7 c) o).2).beh (b7 c)).last (b7 c)
def zD (s:Sx) (c o:Int):List Sc:=awq (s.at' (b7 c)) ((s.at' (b7 c)).gp (b7 c) o).1 (s.at' (b7 c)).hi
def amG (s:Sx) (c o:Int) (hi:Int):Out:=⟨.tu [.ag (Rc s c o).nc,.ag (awr (s.at' (b7 c)) ((s.at' (b7 c)).gp (b7 c) o).1 hi)],[]⟩
def iU (s:Sx) (c o:Int) (hi:Int) (R:Out->Prop):Prop:=[NV.ag (s.at' (b7 c)).nc,.c (.i .u8 (b7 c)),.c (.i .i64 o)]=[NV.ag (s.at' (b7 c)).nc,.c (.i .u8 (b7 c)),.c (.i .i64 o)]∧
 ([NV.ag ((s.at' (b7 c)).with ((s.at' (b7 c)).gp (b7 c) o).2).nc,.c (.i .u8 (b7 c))]=[NV.ag ((s.at' (b7 c)).with ((s.at' (b7 c)).gp (b7 c) o).2).nc,.c (.i .u8 (b7 c))]∧R (amG s c o hi))
theorem Rd (s:Sx) (c o:Int) (R:Out->Prop):(Ec [.ag s.nc,.c (.i .u8 c),.c (.i .i64 o)] []).run R =
 ([NV.ag s.nc,.c (.i .u8 (b7 c))]=[NV.ag s.nc,.c (.i .u8 (b7 c))]∧af (s.at' (b7 c)).db (iU s c o 1 R) (iU s c o 0 R)):=by kernel_rfl
noncomputable def amH:au:=fun args I=>match args,I with
 | [.ag l,.c (.i _ c),.c (.i _ o)],[]=>(match Zq l with
   | some s=>.aF (args=[.ag s.nc,.c (.i .u8 c),.c (.i .i64 o)]) (.ret (amG s c o (s.at' (b7 c)).hi))
   | none=>.fail)
 | _,_=>.fail
theorem amI {s:Sx} {c o:Int} {R:Out->Prop} (h:R (amG s c o (s.at' (b7 c)).hi)):af (s.at' (b7 c)).db (iU s c o 1 R) (iU s c o 0 R):=by
 unfold Sx.hi at h
 cases hd:(s.at' (b7 c)).db with
 | true=>rw [hd] at h; exact sT rfl ⟨rfl,rfl,h⟩
 | false=>rw [hd] at h; exact sF rfl ⟨rfl,rfl,h⟩
attribute [local irreducible] Ec in
theorem aws:Known prog GL 171 amH:=by
 refine aeG.less fun args I R h=>?_
 unfold amH at h
 split at h
 case h_2=>exact h.elim
 split at h
 case h_2=>exact h.elim
 obtain ⟨h1,h⟩:=h
 rw [h1]
 exact (aJ.of_eq (Rd _ _ _ R) ⟨rfl,amI h⟩).out
end gr
end
section
namespace gr
open Go Go.Nx pk
open bm (qa cU)
noncomputable def HF:au:=fun args I=>aD prog GL (fun _=>ay1) [] f170 args I
theorem Zu:Known prog GL 170 HF:=ah func170 rfl (by kernel_rfl) mixed az (by kernel_rfl)
noncomputable def Zv:FuncId->Option au:=aE [(170,HF),(171,amH)]
theorem Zw:∀ f T,Zv f=some T->Known prog GL f T:=(aq.cons Zu (.cons aws .nil)).get
noncomputable abbrev N5:=f150
noncomputable def ah2:Cx:={P:=prog,con:=Zv,glob:=GL,m:=0,loops:=[]}
def KC:List CK:=[.i .i64,.i .i64,.i .i64,.b,.b,.b,.b,.b,.i .i64,.i .i64]
def EE (xs:List (List Sc)):aG:=⟨400,71,.sg [.aA KC 40 xs]⟩
def sxR (s:Sx):aG:=⟨11,246,.cells s.nc⟩
def Re (b:List Int) (o:Int) (res out:List (List Sc)) (s:Sx) (t:Bool) (k:Int):St:={fr:=frame 43 [(0,.v (.c (.l .u8 b))),(1,.v (.c (.i .i64 o))),(4,.v (.c (.p 0 0 0))),(6,.v (.c (.p 1 0 0))),(7,.v (.c (.p 2 0 0))),(8,.v (.c (.b t))),(12,.v (.c (.i .i64 k)))],rg:=[some (EE res),some (EE out),some (sxR s)]}
def Zx (res out:List (List Sc)) (t:Bool):St:={fr:=frame 43 [(4,.v (.c (.p 0 0 0))),(6,.v (.c (.p 1 0 0))),(8,.v (.c (.b t)))],rg:=[some (EE res),some (EE out)]}
noncomputable def asv (s:St):Tr RO:=bu ah2 0 [0,1,4,6,7,8,12] [4,6,8] (ae N5 0) s
def Ed (b:List Int) (k:Nat):Int:=bif decide ((k:Int)<(b.length:Int)) then b.getD k 0 else 32
def xI (x:List Sc) (j:Nat):Int:=(x.getD j (.i 0)).n
def xB (x:List Sc) (j:Nat):Bool:=(x.getD j (.i 0)).t
def stC (k:Int) (A:Prop):Prop:=af (decide (0<=k)) (af (decide (k<40)) (af (decide (k.toNat+1<=40)) A False) False) False
def Zy (k:Int) (A:Prop):Prop:=af (decide (0<=k)) (af (decide (k<40)) (af (decide (k.toNat<40)) A False) False) False
theorem Zz {k:Int} {A:Prop} (h:0<=k∧k<40) (hA:A):stC k A:=sT (axv h.1) (sT (axv h.2) (sT (axv (by omega)) hA))
theorem lu {k:Int} {A:Prop} (h:0<=k∧k<40) (hA:A):Zy k A:=sT (axv h.1) (sT (axv h.2) (sT (axv (by omega)) hA))
def N6 (b:List Int) (o:Int) (res out:List (List Sc)) (s:Sx) (c:Int) (t:Bool) (k:Int) (R:RO->Prop):Prop:=R (.next (Re b o res (qk out k.toNat 1 [zD s c o]) (Rc s c o) t (fu (k+1))))
def amJ (b:List Int) (o:Int) (res out:List (List Sc)) (s:Sx) (c:Int) (t:Bool) (k:Int) (R:RO->Prop):Prop:=
 [NV.ag s.nc,.c (.i .u8 c),.c (.i .i64 o)]=[NV.ag s.nc,.c (.i .u8 c),.c (.i .i64 o)]∧stC k (af t (N6 b o res out s c true k R) (Zy k (N6 b o res out s c (xI ((qk out k.toNat 1 [zD s c o]).getD k.toNat []) 8==1) k R)))
theorem ZA (b:List Int) (o:Int) (res out:List (List Sc)) (s:Sx) (t:Bool) (k:Int) (R:RO->Prop):(asv (Re b o res out s t k)).run R =
 af (decide (k<40)) (af (decide (k<(b.length:Int))) (qa k b.length (amJ b o res out s (b.getD k.toNat 0) t k R)) (amJ b o res out s 32 t k R)) (R (.done .normal (Zx res out t))):=by kernel_rfl
def uR (b:List Int) (o:Int):Nat->Nat->Sx->List (List Sc)
 | 0,_,_=>[]
 | n+1,k,s=>zD s (Ed b k) o::uR b o n (k+1) (Rc s (Ed b k) o)
def tal (l:List (List Sc)):Bool:=l.any fun x=>xI x 8==1
theorem HG (b:List Int) (o:Int):∀ n k s,(uR b o n k s).length=n
 | 0,_,_=>rfl
 | n+1,k,s=>by
   show (uR b o n (k+1) _).length+1=_
   rw [HG b o n]
theorem Rf {α:Type} {xs:List α} {k:Nat} {y:α} (h:k<xs.length):(qk xs k 1 [y]).take (k+1)=xs.take k++[y]∧(qk xs k 1 [y]).length=xs.length∧(qk xs k 1 [y])[k]? = some y:=by
 have e:qk xs k 1 [y]=xs.take k++([y]++xs.drop (k+1)):=by
  show xs.set k y=_
  rw [List.set_eq_take_append_cons_drop,if_pos h]
  rfl
 rw [e]
 have hl:(xs.take k).length=k:=by rw [ax7]; omega
 refine ⟨?_,?_,?_⟩
 ·rw [List.take_append,hl,axN (by omega)]
  simp
 ·simp; omega
 ·rw [List.getElem?_append_right (by omega),hl]
  simp
structure aeH where
 b:List Int
 o:Int
 res:List (List Sc)
 out:List (List Sc)
 s:Sx
 t:Bool
 k:Nat
def amK (x:aeH):St:=Re x.b x.o x.res x.out x.s x.t (x.k:Int)
def Lb (x:aeH) (R:aj × St->Prop):Prop:=(x.k<=40∧x.out.length=40)∧R (.normal,Zx x.res (x.out.take x.k++uR x.b x.o (40 - x.k) x.k x.s) (x.t||tal (uR x.b x.o (40 - x.k) x.k x.s)))
def Lc (x:aeH) (R:aj × St->Prop) (q:RO):Prop:=match q with
 | .next s=>∃ y,s=amK y∧40 - y.k<40 - x.k∧Lb y R
 | .done e s=>R (e,s)
theorem amL (x:aeH) (R:aj × St->Prop) (h:Lb x R):aJ ((asv (amK x)).run (Lc x R)):=by
 obtain ⟨b,o,res,out,s,t,k⟩:=x
 obtain ⟨⟨h1,h2⟩,hR⟩:=h
 simp only at h1 h2 hR
 have hw:fu ((k:Int)+1)=((k+1:Nat):Int):=by show IntKind.i64.wrap _=_; rw [ay']; omega
 have ek:((k:Nat):Int).toNat=k:=by simp
 refine aJ.of_eq (ZA b o res out s t (k:Int) _) ?_
 by_cases hk:k<40
 ·obtain ⟨e1,e2,e3⟩:=Rf (xs:=out) (k:=k) (y:=zD s (Ed b k) o) (by omega)
  obtain ⟨n,hn⟩:∃ n,40 - k=n+1:=⟨39 - k,by omega⟩
  have xQ : 40 - (k+1)=n:=by omega
  have eg:(qk out k 1 [zD s (Ed b k) o]).getD k []=zD s (Ed b k) o:=by rw [axF,e3]; rfl
  rw [hn] at hR
  have key:∀ t',t'=(t||xI (zD s (Ed b k) o) 8==1)->N6 b o res out s (Ed b k) t' (k:Int) (Lc ⟨b,o,res,out,s,t,k⟩ R):=by
   intro t' ht
   subst ht
   unfold N6
   rw [ek,hw]
   refine ⟨⟨b,o,res,qk out k 1 [zD s (Ed b k) o],Rc s (Ed b k) o,(t||xI (zD s (Ed b k) o) 8==1),k+1⟩,rfl,by simp only; omega,⟨by simp only; omega,by simp only; omega⟩,?_⟩
   simp only [xQ]
   rw [e1,axC]
   have ea:((t||xI (zD s (Ed b k) o) 8==1)||tal (uR b o n (k+1) (Rc s (Ed b k) o)))=(t||tal (uR b o (n+1) k s)):=by
    show _=(t||((xI (zD s (Ed b k) o) 8==1)||tal (uR b o n (k+1) (Rc s (Ed b k) o))))
    rw [Bool.or_assoc]
   rw [ea]
   exact hR
  have go:amJ b o res out s (Ed b k) t (k:Int) (Lc ⟨b,o,res,out,s,t,k⟩ R):=by
   refine ⟨rfl,Zz ⟨by omega,by omega⟩ ?_⟩
   cases ht:t with
   | true=>subst ht; exact sT rfl (key _ (by rw [Bool.true_or]))
   | false=>
     subst ht
     refine sF rfl (lu ⟨by omega,by omega⟩ (key _ ?_))
     rw [ek,eg,Bool.false_or]
  refine sT (axv (by omega)) ?_
  by_cases hb:(k:Int)<(b.length:Int)
  ·have eb:Ed b k=b.getD k 0:=by unfold Ed; rw [axv hb]; rfl
   refine sT (axv hb) (cU ⟨by omega,hb⟩ ?_)
   rw [ek,<- eb]
   exact go
  ·have eb:Ed b k=32:=by unfold Ed; rw [axw hb]; rfl
   refine sF (axw hb) ?_
   rw [eb] at go
   exact go
 ·refine sF (axw (by omega)) ?_
  have e40:k=40:=by omega
  subst e40
  rw [axN (by omega)] at hR
  have hR:R (.normal,Zx res (out++[]) (t||false)):=hR
  rw [ayw,Bool.or_false] at hR
  exact hR
def asw (s:St):Option (List Int × Int × List (List Sc) × List (List Sc) × Sx):=match s.fr[(0:Nat)]?,s.fr[(1:Nat)]?,s.rg with
 | some (.v (.c (.l _ b))),some (.v (.c (.i _ o))),[some ⟨_,_,.sg [.aA _ _ res]⟩,some ⟨_,_,.sg [.aA _ _ out]⟩,some ⟨_,_,.cells l⟩]=>(match Zq l with
   | some s=>some (b,o,res,out,s)
   | none=>none)
 | _,_,_=>none
def amM (s:St):Tr (aj × St):=match asw s with
 | some (b,o,res,out,x)=>.aF (s=Re b o res out x false 0∧out.length=40) (.ret (.normal,Zx res (uR b o 40 0 x) (tal (uR b o 40 0 x))))
 | none=>.fail
theorem ZB:jL prog GL 0 0 (ae N5 0) amM:=by
 refine cf (X:=ah2) Zw mixed (aM.none (by kernel_rfl)) [0,1,4,6,7,8,12] [4,6,8] amK (fun x=>40 - x.k) Lb ?_ ?_
 ·intro s R h
  unfold amM at h
  split at h
  case h_2=>exact h.elim
  rename_i b o res out x hx
  obtain ⟨⟨hs,hl⟩,hR⟩:=h
  refine ⟨⟨b,o,res,out,x,false,0⟩,hs,⟨azN _,hl⟩,?_⟩
  show R (.normal,Zx res ([]++uR b o 40 0 x) (false||tal (uR b o 40 0 x)))
  rw [List.nil_append,Bool.false_or]
  exact hR
 ·intro x R h
  exact Tr.aN _ (fun q hq=>hq) (amL x R h).out
noncomputable def ZC:au:=fun args I=>if I.length=0 then aD prog GL Zv [(0,[0,1,4,6,7,8,12],amM)] N5 args I else .fail
theorem asx:Known prog GL 150 ZC:=av 0 func150 rfl (by kernel_rfl) mixed Zw (aM.one (id:=0) (body:=ae N5 0) (by kernel_rfl) rfl ZB)
def sx0:Sx:=⟨7,0,false,false,false,false,false,false,false,32,0⟩
def zc:List Sc:=[.i 0,.i 0,.i 0,.b false,.b false,.b false,.b false,.b false,.i 0,.i 0]
def oRw (l:List (List Sc)) (t:Bool):Out:=⟨.tu [.sg [.aA KC 40 l],.c (.b t)],[]⟩
def ur (b:List Int) (o:Int):List (List Sc):=uR b o 40 0 sx0
theorem Rg (b:List Int) (o:Int) (R:Out->Prop):(ZC [.c (.l .u8 b),.c (.i .i64 o)] []).run R=((Re b o (axx 40 zc) (axx 40 zc) sx0 false 0=Re b o (axx 40 zc) (axx 40 zc) sx0 false 0∧(axx 40 zc).length=40)∧R (oRw (ur b o) (tal (ur b o)))):=by kernel_rfl
noncomputable def amN:au:=fun args I=>match args,I with
 | [.c (.l _ b),.c (.i _ o)],[]=>.aF (args=[.c (.l .u8 b),.c (.i .i64 o)]) (.ret (oRw (ur b o) (tal (ur b o))))
 | _,_=>.fail
attribute [local irreducible] ZC in
theorem awt:Known prog GL 150 amN:=by
 refine asx.less fun args I R h=>?_
 unfold amN at h
 split at h
 case h_2=>exact h.elim
 obtain ⟨h1,h⟩:=h
 rw [h1]
 exact (aJ.of_eq (Rg _ _ R) ⟨⟨rfl,rfl⟩,h⟩).out
end gr
end
section
namespace gr
open Go Go.Nx pk
open bm (qa cU)
noncomputable def HH:au:=fun args I=>aD prog GL (fun _=>ay1) [] f186 args I
theorem ZD:Known prog GL 186 HH:=ah func186 rfl (by kernel_rfl) mixed az (by kernel_rfl)
noncomputable def N7:FuncId->Option au:=aE [(186,HH)]
theorem ZE:∀ f T,N7 f=some T->Known prog GL f T:=(aq.cons ZD .nil).get
noncomputable def N8:au:=fun args I=>aD prog GL N7 [] f180 args I
theorem aeI:Known prog GL 180 N8:=ah func180 rfl (by kernel_rfl) mixed ZE (by kernel_rfl)
noncomputable def N9:au:=fun args I=>aD prog GL (fun _=>ay1) [] f195 args I
theorem aeJ:Known prog GL 195 N9:=ah func195 rfl (by kernel_rfl) mixed az (by kernel_rfl)
noncomputable def HI:FuncId->Option au:=aE [(195,N9)]
theorem Rh:∀ f T,HI f=some T->Known prog GL f T:=(aq.cons aeJ .nil).get
noncomputable def HJ:au:=fun args I=>aD prog GL HI [] f187 args I
theorem ZF:Known prog GL 187 HJ:=ah func187 rfl (by kernel_rfl) mixed Rh (by kernel_rfl)
noncomputable def Ee:FuncId->Option au:=aE [(187,HJ),(188,tPl)]
theorem HK:∀ f T,Ee f=some T->Known prog GL f T:=(aq.cons ZF (.cons kPl .nil)).get
noncomputable def N':Cx:={P:=prog,con:=Ee,glob:=GL,m:=0,loops:=[]}
noncomputable def Ef:au:=fun args I=>if I.length=0 then aD prog GL Ee [(0,[0,1,16,17,18],cF N' 0 [0,1,16,17,18] [0,1,4] (ae f181 0) 22)] f181 args I else .fail
theorem aeK:Known prog GL 181 Ef:=av 0 func181 rfl (by kernel_rfl) mixed HK (aM.one (id:=0) (body:=ae f181 0) (by kernel_rfl) rfl (bL (X:=N') HK mixed (aM.none (by kernel_rfl)) [0,1,16,17,18] [0,1,4] 22))
noncomputable def ZG:au:=fun args I=>aD prog GL (fun _=>ay1) [] f168 args I
theorem amO:Known prog GL 168 ZG:=ah func168 rfl (by kernel_rfl) mixed az (by kernel_rfl)
def tA:List Int:=[32,161,162,163,36,165,35,167,164,8216,8220,171,8592,8593,8594,8595,176,177,178,179,215,181,182,183,247,8217,8221,187,188,189,190,191,32,96,180,710,732,175,728,729,168,803,730,184,95,733,731,711,8213,185,174,169,8482,9834,8352,8240,8733,32,32,32,8539,8540,8541,8542,8486,198,272,170,294,32,306,319,321,216,338,186,222,358,330,329,312,230,273,240,295,305,307,320,322,248,339,223,254,359,331,9632]
def ixA (c:Int):Int:=IntKind.u8.wrap (b7 c - 32)
def acV (c:Int):Int:=bif decide (b7 c >= 32) then tA.getD (ixA c).toNat 0 else 32
def ps1:List (Int × Int):=[(65,192),(69,200),(73,204),(79,210),(85,217),(97,224),(101,232),(105,236),(111,242),(117,249)]
def ps2:List (Int × Int):=[(65,193),(69,201),(73,205),(79,211),(85,218),(89,221),(67,262),(78,323),(83,346),(90,377),(97,225),(101,233),(105,237),(111,243),(117,250),(121,253),(99,263),(110,324),(115,347),(122,378)]
def ps3:List (Int × Int):=[(65,194),(69,202),(73,206),(79,212),(85,219),(97,226),(101,234),(105,238),(111,244),(117,251)]
def ps4:List (Int × Int):=[(65,195),(78,209),(79,213),(97,227),(110,241),(111,245)]
def ps6:List (Int × Int):=[(65,258),(71,286),(97,259),(103,287)]
def ps7:List (Int × Int):=[(73,304),(90,379),(122,380)]
def ps8:List (Int × Int):=[(65,196),(69,203),(73,207),(79,214),(85,220),(97,228),(101,235),(105,239),(111,246),(117,252),(121,255)]
def asy:List (Int × Int):=[(65,197),(85,366),(97,229),(117,367)]
def asz:List (Int × Int):=[(67,199),(83,350),(84,354),(99,231),(115,351),(116,355)]
def asA:List (Int × Int):=[(79,336),(85,368),(111,337),(117,369)]
def asB:List (Int × Int):=[(65,260),(69,280),(97,261),(101,281)]
def asC:List (Int × Int):=[(67,268),(69,282),(82,344),(83,352),(90,381),(99,269),(101,283),(114,345),(115,353),(122,382)]
def rJ (ps:List (Int × Int)) (c:Int) (d:Int):Int:=ps.foldr (fun p r=>bif p.1==c then p.2 else r) d
def asD (ps:List (Int × Int)) (c:Int) (R:Int->Prop) (E:Prop):Prop:=ps.foldr (fun p r=>af (p.1==c) (R p.2) r) E
theorem Oa {R:Int->Prop} {c:Int} {d:Int} {E:Prop} (hE:R d->E):∀ {ps:List (Int × Int)},R (rJ ps c d)->asD ps c R E
 | [],h=>hE h
 | p::ps,h=>cx (R:=R) (c:=p.1==c) (a:=p.2) (b:=rJ ps c d) h id (fun h=>Oa hE h)
def plA (c:Int) (R:Out->Prop):Prop:=[NV.c (.i .u8 (b7 c))]=[NV.c (.i .u8 (b7 c))]∧R (gO (plV (b7 c)))
def tlJ (m c:Int) (R:Out->Prop):Prop:=af (b7 c==42) (af (m==0) (R (gO 64)) (plA c R)) (plA c R)
def pR (ps:List (Int × Int)) (m c:Int) (R:Out->Prop):Prop:=asD ps (b7 c) (fun g=>R (gO g)) (tlJ m c R)
def jnT (m c:Int) (R:Out->Prop):Prop:=af (decide (m<0)) (R (gO 0)) (af (decide (m >= 16)) (R (gO 0)) (
 af (m==1) (pR ps1 m c R) (af (m==2) (pR ps2 m c R) (af (m==3) (pR ps3 m c R) (af (m==4) (pR ps4 m c R) (af (m==6) (pR ps6 m c R) (af (m==7) (pR ps7 m c R) (af (m==8) (pR ps8 m c R) (af (m==10) (pR asy m c R) (af (m==11) (pR asz m c R) (af (m==13) (pR asA m c R) (af (m==14) (pR asB m c R) (af (m==15) (pR asC m c R) (tlJ m c R))))))))))))))
def HL (m c:Int):Int:=bif b7 c==42 then (bif m==0 then 64 else plV (b7 c)) else plV (b7 c)
def jnV (m c:Int):Int:=bif decide (m<0) then 0 else bif decide (m >= 16) then 0 else
 bif m==1 then rJ ps1 (b7 c) (HL m c) else bif m==2 then rJ ps2 (b7 c) (HL m c) else bif m==3 then rJ ps3 (b7 c) (HL m c) else bif m==4 then rJ ps4 (b7 c) (HL m c) else bif m==6 then rJ ps6 (b7 c) (HL m c) else bif m==7 then rJ ps7 (b7 c) (HL m c) else bif m==8 then rJ ps8 (b7 c) (HL m c) else bif m==10 then rJ asy (b7 c) (HL m c) else bif m==11 then rJ asz (b7 c) (HL m c) else bif m==13 then rJ asA (b7 c) (HL m c) else bif m==14 then rJ asB (b7 c) (HL m c) else bif m==15 then rJ asC (b7 c) (HL m c) else HL m c
theorem aeL (m c:Int) (R:Out->Prop):(Ef [.c (.i .i64 m),.c (.i .u8 c)] []).run R=jnT m c R:=by kernel_rfl
theorem aeM (c:Int) (R:Out->Prop):(N8 [.c (.i .u8 c)] []).run R=af (decide (b7 c >= 32)) (af (decide (0<=ixA c)) (af (decide (ixA c<96)) (af (decide ((ixA c).toNat<96)) (R (gO (tA.getD (ixA c).toNat 0))) False) False) False) (R (gO 32)):=by kernel_rfl
noncomputable def tAc:au:=fun args I=>match args,I with
 | [.c (.i _ c)],[]=>.aF (args=[.c (.i .u8 c)]) (.ret (gO (acV c)))
 | _,_=>.fail
theorem asE (c:Int):0<=b7 c∧b7 c<128:=by
 have e:=wT .and c 127
 have hb:(F' .and (ay7 8 c) (ay7 8 127)).toNat<128:=by
  show (ay7 8 c &&& ay7 8 127).toNat<128
  rw [BitVec.toNat_and]
  exact Nat.lt_of_le_of_lt Nat.and_le_right (by decide)
 rw [show b7 c=_ from e]
 unfold u8
 omega
theorem kAc:Known prog GL 180 tAc:=by
 refine aeI.less fun args I R h=>?_
 unfold tAc at h
 split at h
 case h_2=>exact h.elim
 rename_i _ c
 obtain ⟨h1,h⟩:=h
 rw [h1]
 have h:(fun n=>R (gO n)) (acV c):=h
 unfold acV at h
 have hb:=asE c
 refine (aJ.of_eq (aeM c R) ?_).out
 cases h32:decide (b7 c >= 32) with
 | true=>
   rw [h32] at h
   have h32:=of_decide_eq_true h32
   have hx:ixA c=b7 c - 32:=by unfold ixA; rw [IntKind.wrap_u8]; omega
   refine sT rfl ?_
   rw [hx] at h ⊢
   exact sT (axv (by omega)) (sT (axv (by omega)) (sT (axv (by omega)) h))
 | false=>rw [h32] at h; exact sF rfl h
noncomputable def tJn:au:=fun args I=>match args,I with
 | [.c (.i _ m),.c (.i _ c)],[]=>.aF (args=[.c (.i .i64 m),.c (.i .u8 c)]) (.ret (gO (jnV m c)))
 | _,_=>.fail
theorem ZH {m c:Int} {R:Out->Prop} (h:R (gO (HL m c))):tlJ m c R:=by
 have h:(fun n=>R (gO n)) (HL m c):=h
 unfold HL at h
 exact cx (R:=fun n=>R (gO n)) h (fun h=>cx (R:=fun n=>R (gO n)) h id fun h=>⟨rfl,h⟩) fun h=>⟨rfl,h⟩
theorem nS {ps:List (Int × Int)} {m c:Int} {R:Out->Prop} (h:R (gO (rJ ps (b7 c) (HL m c)))):pR ps m c R:=Oa (R:=fun n=>R (gO n)) ZH h
theorem amP {m c:Int} {R:Out->Prop} (h:R (gO (jnV m c))):jnT m c R:=by
 have h:(fun n=>R (gO n)) (jnV m c):=h
 unfold jnV at h
 have q:=fun {c:Bool} {a b:Int} {A B:Prop}=>@cx Int (fun n=>R (gO n)) c a b A B
 exact q h id fun h=>q h id fun h=>q h nS fun h=>q h nS fun h=>q h nS fun h=>q h nS fun h=>q h nS fun h=>q h nS fun h=>q h nS fun h=>q h nS fun h=>q h nS fun h=>q h nS fun h=>q h nS fun h=>q h nS fun h=>ZH h
attribute [local irreducible] Ef in
theorem kJn:Known prog GL 181 tJn:=by
 refine aeK.less fun args I R h=>?_
 unfold tJn at h
 split at h
 case h_2=>exact h.elim
 obtain ⟨h1,h⟩:=h
 rw [h1]
 exact (aJ.of_eq (aeL _ _ R) (amP h)).out
def roV (a m o:Int):Int:=bif m==4 then (bif a==40 then 24 else fu (a - 40)) else bif m==7 then (bif a==63 then 0 else o) else o
def ro7 (a m o:Int) (R:Out->Prop):Prop:=af (m==7) (af (a==63) (R (gO 0)) (R (gO o))) (R (gO o))
theorem Ri (a m d o:Int) (R:Out->Prop):(ZG [.ag [.i .i64 a,.i .i64 m,.i .i64 d],.c (.i .i64 o)] []).run R =
 af (m==4) (af (a==40) (R (gO 24)) (af (m==4) (R (gO (fu (a - 40)))) (ro7 a m o R))) (af (m==4) (R (gO (fu (a - 40)))) (ro7 a m o R)):=by kernel_rfl
noncomputable def tOr:au:=fun args I=>match args,I with
 | [.ag [.i _ a,.i _ m,.i _ d],.c (.i _ o)],[]=>.aF (args=[.ag [.i .i64 a,.i .i64 m,.i .i64 d],.c (.i .i64 o)]) (.ret (gO (roV a m o)))
 | _,_=>.fail
theorem asG {a m o:Int} {R:Out->Prop} (h:R (gO (roV a m o))):af (m==4) (af (a==40) (R (gO 24)) (af (m==4) (R (gO (fu (a - 40)))) (ro7 a m o R))) (af (m==4) (R (gO (fu (a - 40)))) (ro7 a m o R)):=by
 have h:(fun n=>R (gO n)) (roV a m o):=h
 unfold roV at h
 have q:=fun {c:Bool} {a b:Int} {A B:Prop}=>@cx Int (fun n=>R (gO n)) c a b A B
 cases h4:m==4 with
 | true=>rw [h4] at h; exact sT rfl (q h id fun h=>sT rfl h)
 | false=>rw [h4] at h; exact sF rfl (sF rfl (q h (fun h=>q h id id) id))
theorem kOr:Known prog GL 168 tOr:=by
 refine amO.less fun args I R h=>?_
 unfold tOr at h
 split at h
 case h_2=>exact h.elim
 obtain ⟨h1,h⟩:=h
 rw [h1]
 exact (aJ.of_eq (Ri _ _ _ _ R) (asG h)).out
noncomputable def ah3:FuncId->Option au:=aE [(180,tAc),(181,tJn)]
theorem amQ:∀ f T,ah3 f=some T->Known prog GL f T:=(aq.cons kAc (.cons kJn .nil)).get
noncomputable def ah4:au:=fun args I=>aD prog GL ah3 [] f169 args I
theorem asH:Known prog GL 169 ah4:=ah func169 rfl (by kernel_rfl) mixed amQ (by kernel_rfl)
def glU (d:Int):Int:=IntKind.u8.wrap d
def gP (n:Int) (b:Bool):Out:=⟨.tu [.c (.i .i64 n),.c (.b b)],[]⟩
def glT (a m d:Int):Int × Bool:=bif decide (d<32) then (0,false) else bif decide (a<0) then (0,false) else bif m==15 then (acV (glU d),true) else bif decide (m >= 16) then (bif decide (m<=31) then (jnV (fu (m - 16)) (glU d),true) else (0,false)) else (0,false)
theorem ZI (a m d:Int) (R:Out->Prop):(ah4 [.ag [.i .i64 a,.i .i64 m,.i .i64 d]] []).run R =
 af (decide (d<32)) (R (gP 0 false)) (af (decide (a<0)) (R (gP 0 false)) (af (m==15) ([NV.c (.i .u8 (glU d))]=[NV.c (.i .u8 (glU d))]∧R (gP (acV (glU d)) true))
  (af (decide (m >= 16)) (af (decide (m<=31)) ([NV.c (.i .i64 (fu (m - 16))),.c (.i .u8 (glU d))]=[NV.c (.i .i64 (fu (m - 16))),.c (.i .u8 (glU d))]∧R (gP (jnV (fu (m - 16)) (glU d)) true)) (R (gP 0 false))) (R (gP 0 false))))):=by kernel_rfl
noncomputable def tOg:au:=fun args I=>match args,I with
 | [.ag [.i _ a,.i _ m,.i _ d]],[]=>.aF (args=[.ag [.i .i64 a,.i .i64 m,.i .i64 d]]) (.ret (gP (glT a m d).1 (glT a m d).2))
 | _,_=>.fail
theorem kOg:Known prog GL 169 tOg:=by
 refine asH.less fun args I R h=>?_
 unfold tOg at h
 split at h
 case h_2=>exact h.elim
 rename_i _ a _ m _ d
 obtain ⟨h1,h⟩:=h
 rw [h1]
 have h:(fun x:Int × Bool=>R (gP x.1 x.2)) (glT a m d):=h
 unfold glT at h
 have q:=fun {c:Bool} {a b:Int × Bool} {A B:Prop}=>@cx (Int × Bool) (fun x:Int × Bool=>R (gP x.1 x.2)) c a b A B
 exact (aJ.of_eq (ZI _ _ _ R) (q h id fun h=>q h id fun h=>q h (fun h=>⟨rfl,h⟩) fun h=>q h (fun h=>q h (fun h=>⟨rfl,h⟩) id) id)).out
end gr
end
section
namespace gr
open Go Go.Nx pk
open bm (qa cU)
noncomputable abbrev aeN:=f148
noncomputable def amR:FuncId->Option au:=aE [(168,tOr),(169,tOg)]
theorem ah5:∀ f T,amR f=some T->Known prog GL f T:=(aq.cons kOr (.cons kOg .nil)).get
noncomputable def asI:Cx:={P:=prog,con:=amR,glob:=GL,m:=0,loops:=[]}
def K3:List CK:=[.i .i64,.i .i64,.i .i64]
def spR (xs:List (List Sc)):aG:=⟨3,244,.aA K3 xs⟩
def slS (r:Nat):Option (List (List Sc) × Nat)->NC
 | none=>.sn
 | some x=>.h r 0 x.2
def slG:Option (List (List Sc) × Nat)->List (Option aG)
 | none=>[]
 | some x=>[some (spR x.1)]
def sSp (L:List (List Sc)) (S:Option (List (List Sc) × Nat)) (at' : Int) (n:Int) (i:Int):St:={fr:=frame 44 [(3,.v (.c (slS 0 S))),(4,.v (.c (.i .i64 at'))),(9,.v (.c (.lr K3 L))),(10,.v (.c (.i .i64 n))),(11,.v (.c (.i .i64 i)))],rg:=slG S}
def Ob (S:Option (List (List Sc) × Nat)):St:={fr:=frame 44 [(3,.v (.c (slS 0 S)))],rg:=slG S}
noncomputable def rSp (s:St):Tr RO:=bu asI 0 [3,4,9,10,11] [3] (ae aeN 0) s
def trN (x:List Sc):NV:=.ag [.i .i64 (xI x 0),.i .i64 (xI x 1),.i .i64 (xI x 2)]
def apS (m n:Nat) (N:Prop):Prop:=af (decide (0+m<=n)) (af (decide ((m+1) * bf prog 244<=140737488355328)) (af (decide (m+1<=9223372036854775807)) N False) False) False
def gT (x:List Sc):Int × Bool:=glT (xI x 0) (xI x 1) (xI x 2)
def qL (x:List Sc) (at' : Int):List Sc:=[.i at',.i (xI x 0),.i (gT x).1]
def nxS (L:List (List Sc)) (n i:Int) (R:RO->Prop) (S:Option (List (List Sc) × Nat)) (at' : Int):Prop:=R (.next (sSp L S at' n (fu (i+1))))
def spT (L:List (List Sc)) (S:Option (List (List Sc) × Nat)) (x:List Sc) (at' n i:Int) (R:RO->Prop) (A:Prop):Prop:=
 af (decide (xI x 0 >= 40)) (af (xI x 1==31) (R (.done .normal (Ob S))) ([trN x,.c (.i .i64 at')]=[trN x,.c (.i .i64 at')]∧nxS L n i R S (roV (xI x 0) (xI x 1) at')))
  ([trN x]=[trN x]∧af (gT x).2 (af (at' !=-1) A (nxS L n i R S at')) (nxS L n i R S at'))
theorem Oc (L:List (List Sc)) (at' n i:Int) (R:RO->Prop):(rSp (sSp L none at' n i)).run R =
 af (decide (i<n)) (qa i L.length (spT L none (L.getD i.toNat []) at' n i R (nxS L n i R (some ([qL (L.getD i.toNat []) at'],1)) at'))) (R (.done .normal (Ob none))):=by kernel_rfl
theorem Od (L:List (List Sc)) (ys:List (List Sc)) (q:Nat) (at' n i:Int) (R:RO->Prop):(rSp (sSp L (some (ys,q)) at' n i)).run R =
 af (decide (i<n)) (qa i L.length (spT L (some (ys,q)) (L.getD i.toNat []) at' n i R (apS q ys.length (nxS L n i R (some (azo q ys++[qL (L.getD i.toNat []) at'],q+1)) at')))) (R (.done .normal (Ob (some (ys,q))))):=by kernel_rfl
def qj:List (List Sc)->Int->List (List Sc)
 | [],_=>[]
 | x::L,at'=>bif decide (xI x 0 >= 40) then (bif xI x 1==31 then [] else qj L (roV (xI x 0) (xI x 1) at')) else bif (gT x).2 then (bif at' !=-1 then qL x at'::qj L at' else qj L at') else qj L at'
def RX (E:List (List Sc)):Option (List (List Sc) × Nat):=match E with
 | []=>none
 | x::E=>some (x::E,E.length+1)
structure ASp where
 L:List (List Sc)
 E:List (List Sc)
 at' : Int
 i:Nat
def hSp (x:ASp):St:=sSp x.L (RX x.E) x.at' (x.L.length:Int) (x.i:Int)
def ZJ (x:ASp) (R:aj × St->Prop):Prop:=(x.i<=x.L.length∧x.L.length<=1000000∧x.E.length<=x.i)∧R (.normal,Ob (RX (x.E++qj (x.L.drop x.i) x.at')))
def Oe (x:ASp) (R:aj × St->Prop) (q:RO):Prop:=match q with
 | .next s=>∃ y,s=hSp y∧y.L.length - y.i<x.L.length - x.i∧ZJ y R
 | .done e s=>R (e,s)
theorem aeO:bf prog 244=24:=by kernel_rfl
theorem asJ {L:List (List Sc)} {S:Option (List (List Sc) × Nat)} {x:List Sc} {at' n i:Int} {R:RO->Prop} {A:Prop}
  (h1:decide (xI x 0 >= 40)=true->(xI x 1==31)=true->R (.done .normal (Ob S))) (h2:decide (xI x 0 >= 40)=true->(xI x 1==31)=false->nxS L n i R S (roV (xI x 0) (xI x 1) at'))
  (h3:decide (xI x 0 >= 40)=false->(gT x).2=true->(at' !=-1)=true->A) (h4:decide (xI x 0 >= 40)=false->((gT x).2=false∨(at' !=-1)=false)->nxS L n i R S at'):spT L S x at' n i R A:=by
 unfold spT
 cases c1:decide (xI x 0 >= 40) with
 | true=>
   refine sT rfl ?_
   cases c2:xI x 1==31 with
   | true=>exact sT rfl (h1 c1 c2)
   | false=>exact sF rfl ⟨rfl,h2 c1 c2⟩
 | false=>
   refine sF rfl ⟨rfl,?_⟩
   cases c3:(gT x).2 with
   | true=>
     refine sT rfl ?_
     cases c4:at' !=-1 with
     | true=>exact sT rfl (h3 c1 c3 c4)
     | false=>exact sF rfl (h4 c1 (.inr c4))
   | false=>exact sF rfl (h4 c1 (.inl c3))
theorem asK (x:ASp) (R:aj × St->Prop) (h:ZJ x R):aJ ((rSp (hSp x)).run (Oe x R)):=by
 obtain ⟨L,E,at',i⟩:=x
 obtain ⟨⟨h1,h2,h3⟩,hR⟩:=h
 simp only at h1 h2 h3 hR
 have hw:fu ((i:Int)+1)=((i+1:Nat):Int):=by show IntKind.i64.wrap _=_; rw [ay']; omega
 have ek:((i:Nat):Int).toNat=i:=by simp
 by_cases hk:i<L.length
 ·have eg:L.getD i []=L[i]:=by rw [axF,axP hk]; rfl
  have ed:qj (L.drop i) at'=qj (L[i]::L.drop (i+1)) at':=by rw [<- axO hk]
  rw [ed] at hR
  have nx:∀ E' a',E'.length<=i+1->R (.normal,Ob (RX (E'++qj (L.drop (i+1)) a')))->nxS L (L.length:Int) (i:Int) (Oe ⟨L,E,at',i⟩ R) (RX E') a':=fun E' a' hl hr=>by
   unfold nxS
   rw [hw]
   exact ⟨⟨L,E',a',i+1⟩,rfl,by simp only; omega,⟨by simp only; omega,h2,hl⟩,hr⟩
  have body:∀ A:Prop,(nxS L (L.length:Int) (i:Int) (Oe ⟨L,E,at',i⟩ R) (RX (E++[qL L[i] at'])) at'->A)->spT L (RX E) L[i] at' (L.length:Int) (i:Int) (Oe ⟨L,E,at',i⟩ R) A:=fun A hA=>by
   refine asJ (fun c1 c2=>?_) (fun c1 c2=>nx E _ (by omega) ?_) (fun c1 c3 c4=>hA (nx _ _ (by simp; omega) ?_)) (fun c1 c3=>nx E _ (by omega) ?_)
   ·unfold qj at hR
    rw [c1,c2] at hR
    have hR:R (.normal,Ob (RX (E++[]))):=hR
    rw [ayw] at hR
    exact hR
   ·unfold qj at hR
    rw [c1,c2] at hR
    exact hR
   ·unfold qj at hR
    rw [c1,c3,c4] at hR
    rw [axC]
    exact hR
   ·unfold qj at hR
    rw [c1] at hR
    rcases c3 with c3 | c3
    ·rw [c3] at hR; exact hR
    ·cases hg:(gT L[i]).2 with
     | true=>rw [hg,c3] at hR; exact hR
     | false=>rw [hg] at hR; exact hR
  cases E with
  | nil=>
    refine aJ.of_eq (Oc L at' (L.length:Int) (i:Int) _) (sT (axv (by omega)) (cU ⟨by omega,by omega⟩ ?_))
    rw [ek,eg]
    exact body _ fun h=>h
  | cons e E=>
    refine aJ.of_eq (Od L (e::E) (E.length+1) at' (L.length:Int) (i:Int) _) (sT (axv (by omega)) (cU ⟨by omega,by omega⟩ ?_))
    rw [ek,eg]
    refine body _ fun h=>?_
    have et:azo (E.length+1) (e::E)=e::E:=axN (by simp)
    have h3:E.length+1<=i:=h3
    unfold apS
    rw [et,aeO]
    have hl:(e::E++[qL L[i] at'])=e::(E++[qL L[i] at']):=rfl
    refine sT (axv (by simp)) (sT (axv (by omega)) (sT (axv (by omega)) ?_))
    have hs:RX (e::E++[qL L[i] at'])=some (e::E++[qL L[i] at'],E.length+1+1):=by
     show some (e::(E++[qL L[i] at']),(E++[qL L[i] at']).length+1)=_
     rw [axG]
     rfl
    rw [hs] at h
    exact h
 ·have hR' : R (.normal,Ob (RX E)):=by
   rw [axX (by omega)] at hR
   have hR:R (.normal,Ob (RX (E++[]))):=hR
   rw [ayw] at hR
   exact hR
  cases E with
  | nil=>exact aJ.of_eq (Oc L at' (L.length:Int) (i:Int) _) (sF (axw (by omega)) hR')
  | cons e E=>exact aJ.of_eq (Od L (e::E) (E.length+1) at' (L.length:Int) (i:Int) _) (sF (axw (by omega)) hR')
def lSp (s:St):Tr (aj × St):=match s.fr[(9:Nat)]? with
 | some (.v (.c (.lr _ L)))=>.aF (s=sSp L none (-1) (L.length:Int) 0∧L.length<=1000000) (.br (qj L (-1)).isEmpty (.ret (.normal,Ob none)) (.ret (.normal,Ob (some (qj L (-1),(qj L (-1)).length)))))
 | _=>.fail
theorem amS (E:List (List Sc)):RX E=if E.isEmpty then none else some (E,E.length):=by
 cases E with
 | nil=>rfl
 | cons x E=>rfl
theorem aeP:jL prog GL 0 0 (ae aeN 0) lSp:=by
 refine cf (X:=asI) ah5 mixed (aM.none (by kernel_rfl)) [3,4,9,10,11] [3] hSp (fun x=>x.L.length - x.i) ZJ ?_ ?_
 ·intro s R h
  unfold lSp at h
  split at h
  case h_2=>exact h.elim
  rename_i L hx
  obtain ⟨⟨hs,hl⟩,hR⟩:=h
  refine ⟨⟨L,[],-1,0⟩,hs,⟨azN _,hl,azN _⟩,?_⟩
  show R (.normal,Ob (RX (qj L (-1))))
  rw [amS]
  have hR:af (qj L (-1)).isEmpty (R (.normal,Ob none)) (R (.normal,Ob (some (qj L (-1),(qj L (-1)).length)))):=hR
  cases hc:(qj L (-1)).isEmpty with
  | true=>rw [hc] at hR; exact hR
  | false=>rw [hc] at hR; exact hR
 ·intro x R h
  exact Tr.aN _ (fun q hq=>hq) (asK x R h).out
noncomputable def ah6:au:=fun args I=>if I.length=0 then aD prog GL amR [(0,[3,4,9,10,11],lSp)] aeN args I else .fail
theorem asL:Known prog GL 148 ah6:=av 0 func148 rfl (by kernel_rfl) mixed ah5 (aM.one (id:=0) (body:=ae aeN 0) (by kernel_rfl) rfl aeP)
noncomputable def ZK:au:=da [] [0] [(0,0,0,.lr K3 [])] [] 0 ah6
theorem asM:Known prog GL 148 ZK:=asL.soft [] [0] [(0,0,0,.lr K3 [])] [] 0
def oLr (E:List (List Sc)):Out:=⟨.v (.c (.lr K3 E)),[]⟩
theorem ZL (L:List (List Sc)) (R:Out->Prop):(ZK [.c (.lr K3 L)] []).run R=((sSp L none (-1) (L.length:Int) 0=sSp L none (-1) (L.length:Int) 0∧L.length<=1000000)∧af (qj L (-1)).isEmpty (R (oLr [])) ((qj L (-1)).length=(qj L (-1)).length∧R (oLr (qj L (-1))))):=by kernel_rfl
noncomputable def amT:au:=fun args I=>match args,I with
 | [.c (.lr _ L)],[]=>.aF (args=[.c (.lr K3 L)]∧L.length<=1000000) (.ret (oLr (qj L (-1))))
 | _,_=>.fail
attribute [local irreducible] ZK in
theorem awu:Known prog GL 148 amT:=by
 refine asM.less fun args I R h=>?_
 unfold amT at h
 split at h
 case h_2=>exact h.elim
 rename_i _ L
 obtain ⟨⟨h1,h2⟩,h⟩:=h
 rw [h1]
 have h:R (oLr (qj L (-1))):=h
 refine (aJ.of_eq (ZL L R) ⟨⟨rfl,h2⟩,?_⟩).out
 cases hc:(qj L (-1)).isEmpty with
 | true=>
   rw [List.isEmpty_iff.1 hc] at h
   exact sT rfl h
 | false=>exact sF rfl ⟨rfl,h⟩
noncomputable abbrev aeQ:=f152
noncomputable def asN:Cx:={P:=prog,con:=fun _=>ay1,glob:=GL,m:=0,loops:=[]}
def sLa (r:Int) (L:List (List Sc)) (xs res:List (List Sc)) (n i:Int):St:={fr:=frame 37 [(1,.v (.c (.i .i64 r))),(3,.v (.c (.p 0 0 0))),(6,.v (.c (.p 1 0 0))),(9,.v (.c (.lr K3 L))),(10,.v (.c (.i .i64 n))),(11,.v (.c (.i .i64 i)))],rg:=[some (EE xs),some (EE res)]}
def dLa (xs res:List (List Sc)):St:={fr:=frame 37 [(3,.v (.c (.p 0 0 0))),(6,.v (.c (.p 1 0 0)))],rg:=[some (EE xs),some (EE res)]}
noncomputable def rLa (s:St):Tr RO:=bu asN 0 [1,3,6,9,10,11] [3,6] (ae aeQ 0) s
end gr
end
section
namespace gr
open Go Go.Nx pk
open bm (qa cU)
noncomputable def pD:au:=fun args I=>aD prog GL (fun _=>ay1) [] f115 args I
theorem tt:Known prog GL 115 pD:=ah func115 rfl (by kernel_rfl) mixed az (by kernel_rfl)
noncomputable def Eg:FuncId->Option au:=aE [(115,pD)]
theorem HM:∀ f T,Eg f=some T->Known prog GL f T:=(aq.cons tt .nil).get
noncomputable def Og:Cx:={P:=prog,con:=Eg,glob:=GL,m:=0,loops:=[]}
noncomputable def Oh:au:=fun args I=>if I.length=0 then aD prog GL Eg [(0,[0,1,3],cF Og 0 [0,1,3] [0,1] (ae f116 0) 41)] f116 args I else .fail
theorem aeR:Known prog GL 116 Oh:=av 0 func116 rfl (by kernel_rfl) mixed HM (aM.one (id:=0) (body:=ae f116 0) (by kernel_rfl) rfl (bL (X:=Og) HM mixed (aM.none (by kernel_rfl)) [0,1,3] [0,1] 41))
noncomputable abbrev aeS:=f153
noncomputable def asO:Cx:={P:=prog,con:=fun _=>ay1,glob:=GL,m:=0,loops:=[]}
def sFl (xs res:List (List Sc)) (k:Int):St:={fr:=frame 12 [(1,.v (.c (.p 0 0 0))),(2,.v (.c (.p 1 0 0))),(4,.v (.c (.i .i64 k)))],rg:=[some (EE xs),some (EE res)]}
def dFl (xs res:List (List Sc)):St:={fr:=frame 12 [(1,.v (.c (.p 0 0 0))),(2,.v (.c (.p 1 0 0)))],rg:=[some (EE xs),some (EE res)]}
noncomputable def rFl (s:St):Tr RO:=bu asO 0 [1,2,4] [1,2] (ae aeS 0) s
noncomputable abbrev aeT:=f149
noncomputable def amU:FuncId->Option au:=aE [(115,pD)]
theorem ah7:∀ f T,amU f=some T->Known prog GL f T:=(aq.cons tt .nil).get
noncomputable def asP:Cx:={P:=prog,con:=amU,glob:=GL,m:=0,loops:=[]}
def sLo (ys xs res:List (List Sc)) (k:Int):St:={fr:=frame 31 [(1,.v (.c (.p 0 0 0))),(2,.v (.c (.p 1 0 0))),(5,.v (.sg [.aA KC 40 ys])),(6,.v (.c (.i .i64 k)))],rg:=[some (EE xs),some (EE res)]}
def dLo (xs res:List (List Sc)):St:={fr:=frame 31 [(1,.v (.c (.p 0 0 0))),(2,.v (.c (.p 1 0 0)))],rg:=[some (EE xs),some (EE res)]}
noncomputable def rLo (s:St):Tr RO:=bu asP 0 [1,2,5,6] [1,2] (ae aeT 0) s
def la1 (r:Int) (xs:List (List Sc)) (y:List Sc):List (List Sc):=bif xI y 0==r then (bif decide (xI y 1 >= 0) then (bif decide (xI y 1<40) then xs.set (xI y 1).toNat (setRow KC (xs.getD (xI y 1).toNat []) 0 (.i (xI y 2))) else xs) else xs) else xs
def HN (r:Int) (L xs:List (List Sc)):List (List Sc):=L.foldl (la1 r) xs
theorem aeU (r:Int) (xs:List (List Sc)) (y:List Sc):(la1 r xs y).length=xs.length:=by
 unfold la1
 cases xI y 0==r with
 | true=>
   cases decide (xI y 1 >= 0) with
   | true=>
     cases decide (xI y 1<40) with
     | true=>exact List.length_set
     | false=>rfl
   | false=>rfl
 | false=>rfl
theorem Oi (r:Int):∀ (L xs:List (List Sc)),(HN r L xs).length=xs.length
 | [],_=>rfl
 | y::L,xs=>(Oi r L (la1 r xs y)).trans (aeU r xs y)
def Rj (r:Int) (L res:List (List Sc)) (n i:Int) (R:RO->Prop) (xs:List (List Sc)):Prop:=R (.next (sLa r L xs res n (fu (i+1))))
theorem aeV (r:Int) (L xs res:List (List Sc)) (n i:Int) (R:RO->Prop):(rLa (sLa r L xs res n i)).run R =
 af (decide (i<n)) (qa i L.length (af (xI (L.getD i.toNat []) 0==r) (af (decide (xI (L.getD i.toNat []) 1 >= 0)) (af (decide (xI (L.getD i.toNat []) 1<40))
  (Zy (xI (L.getD i.toNat []) 1) (Rj r L res n i R (xs.set (xI (L.getD i.toNat []) 1).toNat (setRow KC (xs.getD (xI (L.getD i.toNat []) 1).toNat []) 0 (.i (xI (L.getD i.toNat []) 2)))))) (Rj r L res n i R xs)) (Rj r L res n i R xs)) (Rj r L res n i R xs)))
  (R (.done .normal (dLa xs res))):=by kernel_rfl
structure ALa where
 r:Int
 L:List (List Sc)
 xs:List (List Sc)
 res:List (List Sc)
 i:Nat
def hLa (x:ALa):St:=sLa x.r x.L x.xs x.res (x.L.length:Int) (x.i:Int)
def ZM (x:ALa) (R:aj × St->Prop):Prop:=(x.i<=x.L.length∧x.L.length<=1000000)∧R (.normal,dLa (HN x.r (x.L.drop x.i) x.xs) x.res)
def ah8 (x:ALa) (R:aj × St->Prop) (q:RO):Prop:=match q with
 | .next s=>∃ y,s=hLa y∧y.L.length - y.i<x.L.length - x.i∧ZM y R
 | .done e s=>R (e,s)
theorem asQ (x:ALa) (R:aj × St->Prop) (h:ZM x R):aJ ((rLa (hLa x)).run (ah8 x R)):=by
 obtain ⟨r,L,xs,res,i⟩:=x
 obtain ⟨⟨h1,h2⟩,hR⟩:=h
 simp only at h1 h2 hR
 have hw:fu ((i:Int)+1)=((i+1:Nat):Int):=by show IntKind.i64.wrap _=_; rw [ay']; omega
 have ek:((i:Nat):Int).toNat=i:=by simp
 refine aJ.of_eq (aeV r L xs res (L.length:Int) (i:Int) _) ?_
 by_cases hk:i<L.length
 ·have eg:L.getD i []=L[i]:=by rw [axF,axP hk]; rfl
  have ed:HN r (L.drop i) xs=HN r (L.drop (i+1)) (la1 r xs L[i]):=by rw [axO hk]; rfl
  rw [ed] at hR
  have nx:∀ ys,ys=la1 r xs L[i]->Rj r L res (L.length:Int) (i:Int) (ah8 ⟨r,L,xs,res,i⟩ R) ys:=fun ys hy=>by
   unfold Rj
   rw [hw,hy]
   exact ⟨⟨r,L,la1 r xs L[i],res,i+1⟩,rfl,by simp only; omega,⟨by simp only; omega,h2⟩,hR⟩
  refine sT (axv (by omega)) (cU ⟨by omega,by omega⟩ ?_)
  rw [ek,eg]
  unfold la1 at nx
  cases c0:xI L[i] 0==r with
  | true=>
    rw [c0] at nx
    refine sT rfl ?_
    cases c1:decide (xI L[i] 1 >= 0) with
    | true=>
      rw [c1] at nx
      refine sT rfl ?_
      cases c2:decide (xI L[i] 1<40) with
      | true=>
        rw [c2] at nx
        exact sT rfl (lu ⟨of_decide_eq_true c1,of_decide_eq_true c2⟩ (nx _ rfl))
      | false=>rw [c2] at nx; exact sF rfl (nx _ rfl)
    | false=>rw [c1] at nx; exact sF rfl (nx _ rfl)
  | false=>rw [c0] at nx; exact sF rfl (nx _ rfl)
 ·refine sF (axw (by omega)) ?_
  rw [axX (by omega)] at hR
  exact hR
def lLa (s:St):Tr (aj × St):=match s.fr[(1:Nat)]?,s.fr[(9:Nat)]?,s.rg with
 | some (.v (.c (.i _ r))),some (.v (.c (.lr _ L))),[some ⟨_,_,.sg [.aA _ _ xs]⟩,some ⟨_,_,.sg [.aA _ _ res]⟩]=>.aF (s=sLa r L xs res (L.length:Int) 0∧L.length<=1000000) (.ret (.normal,dLa (HN r L xs) res))
 | _,_,_=>.fail
theorem aeW:jL prog GL 0 0 (ae aeQ 0) lLa:=by
 refine cf (X:=asN) az mixed (aM.none (by kernel_rfl)) [1,3,6,9,10,11] [3,6] hLa (fun x=>x.L.length - x.i) ZM ?_ ?_
 ·intro s R h
  unfold lLa at h
  split at h
  case h_2=>exact h.elim
  rename_i _ r _ L _ _ _ _ xs _ _ _ _ res h1 h2 h3
  obtain ⟨⟨hs,hl⟩,hR⟩:=h
  exact ⟨⟨r,L,xs,res,0⟩,hs,⟨azN _,hl⟩,hR⟩
 ·intro x R h
  exact Tr.aN _ (fun q hq=>hq) (asQ x R h).out
noncomputable def amV:au:=fun args I=>if I.length=0 then aD prog GL (fun _=>ay1) [(0,[1,3,6,9,10,11],lLa)] aeQ args I else .fail
theorem awv:Known prog GL 152 amV:=av 0 func152 rfl (by kernel_rfl) mixed az (aM.one (id:=0) (body:=ae aeQ 0) (by kernel_rfl) rfl aeW)
def oR1 (xs:List (List Sc)):Out:=⟨.v (.sg [.aA KC 40 xs]),[]⟩
theorem ZN (r:Int) (L xs:List (List Sc)) (R:Out->Prop):(amV [.sg [.aA KC 40 xs],.c (.i .i64 r),.c (.lr K3 L)] []).run R=((sLa r L xs (axx 40 zc) (L.length:Int) 0=sLa r L xs (axx 40 zc) (L.length:Int) 0∧L.length<=1000000)∧R (oR1 (HN r L xs))):=by kernel_rfl
noncomputable def amW:au:=fun args I=>match args,I with
 | [.sg [.aA _ _ xs],.c (.i _ r),.c (.lr _ L)],[]=>.aF (args=[.sg [.aA KC 40 xs],.c (.i .i64 r),.c (.lr K3 L)]∧L.length<=1000000) (.ret (oR1 (HN r L xs)))
 | _,_=>.fail
attribute [local irreducible] amV in
theorem aww:Known prog GL 152 amW:=by
 refine awv.less fun args I R h=>?_
 unfold amW at h
 split at h
 case h_2=>exact h.elim
 obtain ⟨⟨h1,h2⟩,h⟩:=h
 rw [h1]
 exact (aJ.of_eq (ZN _ _ _ R) ⟨⟨rfl,h2⟩,h⟩).out
def tL (g:List Sc->List Sc) (k:Nat) (xs:List (List Sc)):List (List Sc):=(xs.take k).map g++xs.drop k
theorem Oj (g:List Sc->List Sc) (k:Nat) (xs:List (List Sc)):(tL g k xs).length=xs.length:=by
 unfold tL
 rw [axG,azq,ax7,List.length_drop]
 omega
theorem Eh {g:List Sc->List Sc} {k:Nat} {xs:List (List Sc)} (h:xs.length=k):tL g k xs=xs.map g:=by
 unfold tL
 rw [axN (by omega),axX (by omega),ayw]
theorem Ok {g:List Sc->List Sc} {k:Nat} {xs:List (List Sc)} (h:k<xs.length):(tL g k xs).getD k []=xs.getD k []:=by
 have hl:((xs.take k).map g).length=k:=by rw [azq,ax7]; omega
 unfold tL
 rw [axF,axF,List.getElem?_append_right (by omega),hl,Nat.sub_self,List.getElem?_drop]
 rfl
theorem Ei {g:List Sc->List Sc} {k:Nat} {xs:List (List Sc)} (h:k<xs.length):(tL g k xs).set k (g (xs.getD k []))=tL g (k+1) xs:=by
 have hl:((xs.take k).map g).length=k:=by rw [azq,ax7]; omega
 have eg:xs.getD k []=xs[k]:=by rw [axF,axP h]; rfl
 unfold tL
 rw [List.set_append_right _ _ (by omega),hl,Nat.sub_self,axO h,List.set_cons_zero,eg,List.take_add_one,axP h,List.map_append,axC]
 rfl
def ZO (x:List Sc):List Sc:=setRow KC x 8 (.i 0)
def asR (res:List (List Sc)) (k:Int) (R:RO->Prop) (xs:List (List Sc)):Prop:=R (.next (sFl xs res (fu (k+1))))
theorem aeX (xs res:List (List Sc)) (k:Int) (R:RO->Prop):(rFl (sFl xs res k)).run R=af (decide (k<40)) (Zy k (asR res k R (xs.set k.toNat (ZO (xs.getD k.toNat []))))) (R (.done .normal (dFl xs res))):=by kernel_rfl
structure AFl where
 xs:List (List Sc)
 res:List (List Sc)
 k:Nat
def hFl (x:AFl):St:=sFl (tL ZO x.k x.xs) x.res (x.k:Int)
def ZP (x:AFl) (R:aj × St->Prop):Prop:=(x.k<=40∧x.xs.length=40)∧R (.normal,dFl (x.xs.map ZO) x.res)
def asS (x:AFl) (R:aj × St->Prop) (q:RO):Prop:=match q with
 | .next s=>∃ y,s=hFl y∧40 - y.k<40 - x.k∧ZP y R
 | .done e s=>R (e,s)
theorem asT (x:AFl) (R:aj × St->Prop) (h:ZP x R):aJ ((rFl (hFl x)).run (asS x R)):=by
 obtain ⟨xs,res,k⟩:=x
 obtain ⟨⟨h1,h2⟩,hR⟩:=h
 simp only at h1 h2 hR
 have hw:fu ((k:Int)+1)=((k+1:Nat):Int):=by show IntKind.i64.wrap _=_; rw [ay']; omega
 have ek:((k:Nat):Int).toNat=k:=by simp
 refine aJ.of_eq (aeX (tL ZO k xs) res (k:Int) _) ?_
 by_cases hk:k<40
 ·refine sT (axv (by omega)) (lu ⟨by omega,by omega⟩ ?_)
  unfold asR
  rw [ek,hw,Ok (by omega),Ei (by omega)]
  exact ⟨⟨xs,res,k+1⟩,rfl,by simp only; omega,⟨by simp only; omega,h2⟩,hR⟩
 ·have e40:k=40:=by omega
  subst e40
  rw [Eh h2]
  exact sF (axw (by omega)) hR
def lFl (s:St):Tr (aj × St):=match s.rg with
 | [some ⟨_,_,.sg [.aA _ _ xs]⟩,some ⟨_,_,.sg [.aA _ _ res]⟩]=>.aF (s=sFl xs res 0∧xs.length=40) (.ret (.normal,dFl (xs.map ZO) res))
 | _=>.fail
theorem aeY:jL prog GL 0 0 (ae aeS 0) lFl:=by
 refine cf (X:=asO) az mixed (aM.none (by kernel_rfl)) [1,2,4] [1,2] hFl (fun x=>40 - x.k) ZP ?_ ?_
 ·intro s R h
  unfold lFl at h
  split at h
  case h_2=>exact h.elim
  rename_i _ _ _ _ xs _ _ _ _ res h1
  obtain ⟨⟨hs,hl⟩,hR⟩:=h
  exact ⟨⟨xs,res,0⟩,hs,⟨azN _,hl⟩,hR⟩
 ·intro x R h
  exact Tr.aN _ (fun q hq=>hq) (asT x R h).out
noncomputable def amX:au:=fun args I=>if I.length=0 then aD prog GL (fun _=>ay1) [(0,[1,2,4],lFl)] aeS args I else .fail
theorem awx:Known prog GL 153 amX:=av 0 func153 rfl (by kernel_rfl) mixed az (aM.one (id:=0) (body:=ae aeS 0) (by kernel_rfl) rfl aeY)
theorem Rk (xs:List (List Sc)) (R:Out->Prop):(amX [.sg [.aA KC 40 xs]] []).run R=((sFl xs (axx 40 zc) 0=sFl xs (axx 40 zc) 0∧xs.length=40)∧R (oR1 (xs.map ZO))):=by kernel_rfl
noncomputable def tFl:au:=fun args I=>match args,I with
 | [.sg [.aA _ _ xs]],[]=>.aF (args=[.sg [.aA KC 40 xs]]∧xs.length=40) (.ret (oR1 (xs.map ZO)))
 | _,_=>.fail
attribute [local irreducible] amX in
theorem kFl:Known prog GL 153 tFl:=by
 refine awx.less fun args I R h=>?_
 unfold tFl at h
 split at h
 case h_2=>exact h.elim
 obtain ⟨⟨h1,h2⟩,h⟩:=h
 rw [h1]
 exact (aJ.of_eq (Rk _ R) ⟨⟨rfl,h2⟩,h⟩).out
def zQ:List Sc:=[.i 32,.i 7,.i 0,.b false,.b false,.b false,.b false,.b false,.i 0,.i 0]
def BU (x:List Sc):List Sc:=bif xI x 8==1 then setRow KC x 8 (.i 2) else setRow KC (setRow KC zQ 2 (.i (xI x 2))) 5 (.b (xB x 5))
def aeZ (ys res:List (List Sc)) (k:Int) (R:RO->Prop) (xs:List (List Sc)):Prop:=R (.next (sLo ys xs res (fu (k+1))))
def lo2 (xs:List (List Sc)) (k:Nat) (y:List Sc):List (List Sc):=(qk xs k 1 [zQ]).set k (setRow KC ((qk xs k 1 [zQ]).getD k []) 2 (.i (xI y 2)))
theorem ae0 (ys xs res:List (List Sc)) (k:Int) (R:RO->Prop):(rLo (sLo ys xs res k)).run R=af (decide (k<40)) (Zy k (af (xI (ys.getD k.toNat []) 8==1) (Zy k (aeZ ys res k R (xs.set k.toNat (setRow KC (xs.getD k.toNat []) 8 (.i 2)))))
 (stC k (Zy k (Zy k (aeZ ys res k R ((lo2 xs k.toNat (ys.getD k.toNat [])).set k.toNat (setRow KC ((lo2 xs k.toNat (ys.getD k.toNat [])).getD k.toNat []) 5 (.b (xB (ys.getD k.toNat []) 5)))))))))) (R (.done .normal (dLo xs res))):=by kernel_rfl
structure ALo where
 ys:List (List Sc)
 res:List (List Sc)
 k:Nat
def hLo (x:ALo):St:=sLo x.ys (tL BU x.k x.ys) x.res (x.k:Int)
def ZQ (x:ALo) (R:aj × St->Prop):Prop:=(x.k<=40∧x.ys.length=40)∧R (.normal,dLo (x.ys.map BU) x.res)
def ah9 (x:ALo) (R:aj × St->Prop) (q:RO):Prop:=match q with
 | .next s=>∃ y,s=hLo y∧40 - y.k<40 - x.k∧ZQ y R
 | .done e s=>R (e,s)
theorem HO {α:Type} {xs:List α} {k:Nat} {y d:α} (h:k<xs.length):(xs.set k y).getD k d=y:=by
 rw [axF,List.getElem?_set_self h]
 rfl
theorem asU (x:ALo) (R:aj × St->Prop) (h:ZQ x R):aJ ((rLo (hLo x)).run (ah9 x R)):=by
 obtain ⟨ys,res,k⟩:=x
 obtain ⟨⟨h1,h2⟩,hR⟩:=h
 simp only at h1 h2 hR
 have hw:fu ((k:Int)+1)=((k+1:Nat):Int):=by show IntKind.i64.wrap _=_; rw [ay']; omega
 have ek:((k:Nat):Int).toNat=k:=by simp
 refine aJ.of_eq (ae0 ys (tL BU k ys) res (k:Int) _) ?_
 by_cases hk:k<40
 ·have hp:k<(tL BU k ys).length:=by rw [Oj]; omega
  have nx:aeZ ys res (k:Int) (ah9 ⟨ys,res,k⟩ R) ((tL BU k ys).set k (BU (ys.getD k []))):=by
   unfold aeZ
   rw [hw,Ei (by omega)]
   exact ⟨⟨ys,res,k+1⟩,rfl,by simp only; omega,⟨by simp only; omega,h2⟩,hR⟩
  refine sT (axv (by omega)) (lu ⟨by omega,by omega⟩ ?_)
  rw [ek,Ok (by omega)]
  unfold BU at nx
  cases c:xI (ys.getD k []) 8==1 with
  | true=>rw [c] at nx; exact sT rfl (lu ⟨by omega,by omega⟩ nx)
  | false=>
    rw [c] at nx
    refine sF rfl (Zz ⟨by omega,by omega⟩ (lu ⟨by omega,by omega⟩ (lu ⟨by omega,by omega⟩ ?_)))
    have e1:lo2 (tL BU k ys) k (ys.getD k [])=(tL BU k ys).set k (setRow KC zQ 2 (.i (xI (ys.getD k []) 2))):=by
     show ((tL BU k ys).set k zQ).set k (setRow KC (((tL BU k ys).set k zQ).getD k []) 2 _)=_
     rw [HO hp,List.set_set]
    rw [e1,HO hp,List.set_set]
    exact nx
 ·have e40:k=40:=by omega
  subst e40
  rw [Eh h2]
  exact sF (axw (by omega)) hR
def lLo (s:St):Tr (aj × St):=match s.rg with
 | [some ⟨_,_,.sg [.aA _ _ xs]⟩,some ⟨_,_,.sg [.aA _ _ res]⟩]=>.aF (s=sLo xs xs res 0∧xs.length=40) (.ret (.normal,dLo (xs.map BU) res))
 | _=>.fail
theorem ae1:jL prog GL 0 0 (ae aeT 0) lLo:=by
 refine cf (X:=asP) ah7 mixed (aM.none (by kernel_rfl)) [1,2,5,6] [1,2] hLo (fun x=>40 - x.k) ZQ ?_ ?_
 ·intro s R h
  unfold lLo at h
  split at h
  case h_2=>exact h.elim
  rename_i _ _ _ _ xs _ _ _ _ res h1
  obtain ⟨⟨hs,hl⟩,hR⟩:=h
  exact ⟨⟨xs,res,0⟩,hs,⟨azN _,hl⟩,hR⟩
 ·intro x R h
  exact Tr.aN _ (fun q hq=>hq) (asU x R h).out
noncomputable def amY:au:=fun args I=>if I.length=0 then aD prog GL amU [(0,[1,2,5,6],lLo)] aeT args I else .fail
theorem awy:Known prog GL 149 amY:=av 0 func149 rfl (by kernel_rfl) mixed ah7 (aM.one (id:=0) (body:=ae aeT 0) (by kernel_rfl) rfl ae1)
theorem ZR (xs:List (List Sc)) (R:Out->Prop):(amY [.sg [.aA KC 40 xs]] []).run R=((sLo xs xs (axx 40 zc) 0=sLo xs xs (axx 40 zc) 0∧xs.length=40)∧R (oR1 (xs.map BU))):=by kernel_rfl
noncomputable def tLo:au:=fun args I=>match args,I with
 | [.sg [.aA _ _ xs]],[]=>.aF (args=[.sg [.aA KC 40 xs]]∧xs.length=40) (.ret (oR1 (xs.map BU)))
 | _,_=>.fail
attribute [local irreducible] amY in
theorem kLo:Known prog GL 149 tLo:=by
 refine awy.less fun args I R h=>?_
 unfold tLo at h
 split at h
 case h_2=>exact h.elim
 obtain ⟨⟨h1,h2⟩,h⟩:=h
 rw [h1]
 exact (aJ.of_eq (ZR _ R) ⟨⟨rfl,h2⟩,h⟩).out
theorem Rl (R:Out->Prop):(Oh [] []).run R=R (oR1 (axx 40 zQ)):=by kernel_rfl
noncomputable def Ol:au:=fun args I=>match args,I with
 | [],[]=>.ret (oR1 (axx 40 zQ))
 | _,_=>.fail
theorem ah':Known prog GL 116 Ol:=by
 refine aeR.less fun args I R h=>?_
 unfold Ol at h
 split at h
 case h_2=>exact h.elim
 exact (aJ.of_eq (Rl R) h).out
end gr
end
end Go.Proofs.YthknkidbonfbnaaGreatDoor
