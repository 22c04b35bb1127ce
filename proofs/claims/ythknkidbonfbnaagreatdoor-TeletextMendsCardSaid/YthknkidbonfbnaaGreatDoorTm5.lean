/-
  Joined: AqJ, PkF, PkG, PkH, PkI, PkJ, LnA, HdA, HdB, HdC, HdN, HdD, AqK, AqL, AqM, AqN, AqO, AqP, AqQ, AqQa, AqQb, AqR, AqW, HmA, HmB, HmC, TsX, HdQ, TrX, TsY, LbA, LbC, AqS, AqT, AqTa, SvA, SvR, AqU, AqV, AqVa, AqVb, AqX, AqY, AqZ, AqZa, AqN1, AqN2, BmA.
-/
import Derived.Test.YthknkidbonfbnaaGreatDoorTm4
import Derived.Test.YthknkidbonfbnaaGreatDoorRows
set_option maxRecDepth 100000
set_option linter.unusedVariables false
open BitVec renaming eq_of_getLsbD_eq->azD,eq_of_toNat_eq->azg,getLsbD_and->azz,getLsbD_or->azG,getLsbD_setWidth->azL,getLsbD_twoPow->azH,getLsbD_ushiftRight->azy,getLsbD_xor->azw,ofInt->ay7,ofInt_natCast->ay9,ofNat->azA,setWidth->azB,setWidth_eq->azC,testBit_toNat->azx,toNat_ofNat->azI,twoPow->azF,xor_assoc->azE
open Bool renaming not_eq_true->azu
open Int renaming natCast_nonneg->azK,ofNat->azi,tmod_eq_emod_of_nonneg->azJ,toNat_natCast->azd
open Go.IntKind renaming wrap_i64->ay',wrap_u8->azf
open List renaming drop->azs,getD_eq_getElem?_getD->axF,getElem?_eq_getElem->axP,length_drop->ax1,length_map->azq,mem_of_find?_eq_some->azv,mem_of_getElem?->ayB,mem_of_mem_drop->azM,range->axy,replicate->axx,take->azo
open Nat renaming blt->azr,blt_eq->azt
open Option renaming none->ay1
namespace Go.Proofs.YthknkidbonfbnaaGreatDoor
open Go.Proofs.Tryz
namespace wX
open Go Go.Nx pk ac bR hd
noncomputable def agJ:FuncId->Option au:=aE [(146,tOd)]
theorem ajD:∀ f T,agJ f=some T->Known prog GL f T:=(aq.cons kOd .nil).get
noncomputable def agK:au:=fun args I=>aD prog GL agJ [] f126 args I
theorem apW:Known prog GL 126 agK:=ah func126 rfl (by kernel_rfl) mixed ajD (by kernel_rfl)
noncomputable def UC:au:=fun args I=>aD prog GL (fun _=>ay1) [] f175 args I
theorem ajE:Known prog GL 175 UC:=ah func175 rfl (by kernel_rfl) mixed az (by kernel_rfl)
noncomputable def apX:FuncId->Option au:=aE [(175,UC)]
theorem apY:∀ f T,apX f=some T->Known prog GL f T:=(aq.cons ajE .nil).get
noncomputable def ajF:au:=fun args I=>aD prog GL apX [] f159 args I
theorem apZ:Known prog GL 159 ajF:=ah func159 rfl (by kernel_rfl) mixed apY (by kernel_rfl)
noncomputable def UD:FuncId->Option au:=aE [(159,ajF)]
theorem UE:∀ f T,UD f=some T->Known prog GL f T:=(aq.cons apZ .nil).get
noncomputable def agL:Cx:={P:=prog,con:=UD,glob:=GL,m:=0,loops:=[]}
noncomputable def agM:au:=fun args I=>if I.length=0 then aD prog GL UD [(0,[7,8],cF agL 0 [7,8] [7] (ae f125 0) 5)] f125 args I else .fail
theorem ap0:Known prog GL 125 agM:=av 0 func125 rfl (by kernel_rfl) mixed UE (aM.one (id:=0) (body:=ae f125 0) (by kernel_rfl) rfl (bL (X:=agL) UE mixed (aM.none (by kernel_rfl)) [7,8] [7] 5))
structure Hx where
 mg:Int
 pn:Int
 sb:Int
 c0:Bool
 c1:Bool
 c2:Bool
 c3:Bool
 c4:Bool
 c5:Bool
 c6:Bool
 c7:Bool
 c8:Bool
 c9:Bool
 sY:Bool
 op:Int
def Hx.nc (h:Hx):List NC:=[.i .i64 h.mg,.i .i64 h.pn,.i .i64 h.sb,.b h.c0,.b h.c1,.b h.c2,.b h.c3,.b h.c4,.b h.c5,.b h.c6,.b h.c7,.b h.c8,.b h.c9,.b h.sY,.i .i64 h.op]
def Hx.rows (h:Hx):List (List Sc):=[[.b h.c0],[.b h.c1],[.b h.c2],[.b h.c3],[.b h.c4],[.b h.c5],[.b h.c6],[.b h.c7],[.b h.c8],[.b h.c9],[.b h.sY]]
noncomputable def agN:FuncId->Option au:=aE [(103,Bp),(126,agK),(125,agM),(127,tMg)]
theorem ajG:∀ f T,agN f=some T->Known prog GL f T:=(aq.cons Up (.cons apW (.cons ap0 (.cons kMg .nil)))).get
noncomputable def agO:au:=fun args I=>aD prog GL agN [] f80 args I
theorem ap1:Known prog GL 80 agO:=ah func80 rfl (by kernel_rfl) mixed ajG (by kernel_rfl)
noncomputable def Mt:au:=da [] [] [(0,5,0,.lr K3 [])] [] 0 agO
theorem ap2:Known prog GL 80 Mt:=ap1.soft [] [] [(0,5,0,.lr K3 [])] [] 0
def Gx (t:List Int):List Int:=32::32::32::32::32::32::32::32::t
def Ig (t:List Int):List Int:=azo (8+t.length) (azs 0 (Gx t))
noncomputable def aca (h:Hx) (q:Pg) (t:List Int):Pg:={Pg.ab6 q 0 (Ig t) with mg:=h.mg,pn:=h.pn,sb:=h.sb,c:=h.rows,op:=h.op}
noncomputable def Gy (h:Hx) (q:Pg) (t:List Int) (R:Out->Prop):Prop:=
 ([NV.c (.i .u8 32)]=[NV.c (.i .u8 32)]∧(0:Int)<=32∧(32:Int)<256)∧af (decide ((8+t.length) * bf prog 5<=140737488355328)) (af (decide (8+t.length<=9223372036854775807)) (af (decide (0+(8+t.length)<=(Gx t).length))
   (([NV.sg [.ints .u8 40 (r40 q 0)],.c (.l .u8 (Ig t)),.c (.b (thB q 0))]=[NV.sg [.ints .u8 40 (r40 q 0)],.c (.l .u8 (Ig t)),.c (.b (thB q 0))]∧∀ b∈Ig t,0<=b∧b<256)∧R (EC (aca h q t))) False) False) False
theorem Dm (h:Hx) (t:List Int) (p:Pg) (eL:Bool) (R:Out->Prop):(Mt [.ag h.nc,.c (.l .u8 t),fa p,.c (.b eL)] []).run R =
 af eL (af (!h.c0) (([NV.c (.lr K3 p.ex)]=[NV.c (.lr K3 p.ex)]∧p.ex.length<=1000000)∧Gy h p t R) (Gy h fO t R)) (Gy h fO t R):=by kernel_rfl
noncomputable def P9 (h:Hx) (t:List Int) (p:Pg) (eL:Bool):Pg:=aca h (match eL&&!h.c0 with | true=>p | false=>fO) t
theorem ajH (t:List Int):Ig t=Gx t:=by
 unfold Ig
 rw [List.drop_zero,List.take_of_length_le]
 simp [Gx]
 omega
def ap3:List NC->Option Hx
 | [.i _ mg,.i _ pn,.i _ sb,.b c0,.b c1,.b c2,.b c3,.b c4,.b c5,.b c6,.b c7,.b c8,.b c9,.b sY,.i _ op]=>some ⟨mg,pn,sb,c0,c1,c2,c3,c4,c5,c6,c7,c8,c9,sY,op⟩
 | _=>none
noncomputable def tNw:au:=fun args I=>match args,I with
 | [.ag hs,.c (.l _ t),v,.c (.b eL)],[]=>(match nX v,ap3 hs with
   | some p,some h=>.aF (args=[.ag h.nc,.c (.l .u8 t),fa p,.c (.b eL)]∧p.ex.length<=1000000∧t.length<=1000000∧∀ b∈t,0<=b∧b<256) (.ret (EC (P9 h t p eL)))
   | _,_=>.fail)
 | _,_=>.fail
theorem ap4 {h:Hx} {t:List Int} {p:Pg} {eL:Bool} {R:Out->Prop} (h1:p.ex.length<=1000000) (h2:t.length<=1000000) (h3:∀ b∈t,0<=b∧b<256) (hR:R (EC (P9 h t p eL))):aJ ((Mt [.ag h.nc,.c (.l .u8 t),fa p,.c (.b eL)] []).run R):=by
 refine aJ.of_eq (Dm h t p eL R) ?_
 have hb:=Uo
 have hl:(Gx t).length=8+t.length:=by simp [Gx]; omega
 have hd:∀ b∈Gx t,0<=b∧b<256:=by
  intro b hm
  simp only [Gx,List.mem_cons] at hm
  rcases hm with rfl | rfl | rfl | rfl | rfl | rfl | rfl | rfl | hm
  all_goals first | exact h3 b hm | omega
 have key:∀ q,R (EC (aca h q t))->Gy h q t R:=fun q hq=>by
  unfold Gy
  rw [ajH]
  refine ⟨⟨rfl,by omega,by omega⟩,sT (axv (by rw [hb]; omega)) (sT (axv (by omega)) (sT (axv (by omega)) ⟨⟨rfl,hd⟩,hq⟩))⟩
 unfold P9 at hR
 cases eL with
 | false=>exact sF rfl (key _ hR)
 | true=>
   refine sT rfl ?_
   cases hc:h.c0 with
   | true=>rw [hc] at hR; exact sF rfl (key _ hR)
   | false=>rw [hc] at hR; exact sT rfl ⟨⟨rfl,h1⟩,key _ hR⟩
attribute [local irreducible] Mt in
theorem kNw:Known prog GL 80 tNw:=by
 refine ap2.less fun args I R h=>aJ.out ?_
 unfold tNw at h
 split at h
 case h_2=>exact h.elim
 split at h
 case h_2=>exact h.elim
 obtain ⟨⟨h1,h2,h3,h4⟩,h⟩:=h
 rw [h1]
 exact ap4 h2 h3 h4 h
end wX
end Go.Proofs.YthknkidbonfbnaaGreatDoor
namespace Go.Nx
open Go
end Go.Nx
namespace Go.Proofs.YthknkidbonfbnaaGreatDoor
open Go.Proofs.Tryz
namespace pk
open Go Go.Nx
def oB (x:Bool):Out:=⟨.v (.c (.b x)),[]⟩
theorem JG:bf prog 5=1:=by kernel_rfl
def oL (ds:List Int):Out:=⟨.v (.c (.h 0 0 ds.length)),[some ⟨1,5,.ints .u8 ds⟩]⟩
noncomputable def clo (ds:List Int) (R:Out->Prop):Prop:=af (decide ((0+ds.length) * bf prog 5<=140737488355328)) (af (decide (0+ds.length<=9223372036854775807)) (R ⟨.v (.c (.h 0 0 (0+ds.length))),[some ⟨1,5,.ints .u8 ds⟩]⟩) False) False
theorem JH (ds:List Int) (R:Out->Prop):(Gd [.c (.l .u8 ds)] []).run R=af ds.isEmpty (∀ y:Bool,True->af y (R ⟨.v (.c .sn),[]⟩) (clo ds R)) (clo ds R):=by kernel_rfl
noncomputable def Dn:au:=fun args I=>match args,I with
 | [.c (.l .u8 ds)],[]=>.aF (0<ds.length∧ds.length<=1000000) (.ret (oL ds))
 | _,_=>.fail
theorem ajI:Known prog [] 75 Dn:=by
 refine TP.less fun args I R h=>aJ.out ?_
 unfold Dn at h
 split at h
 case h_2=>exact h.elim
 rename_i ds
 have h1:=h.1
 have h2:R (oL ds):=h.2
 clear h
 refine aJ.of_eq (JH ds R) ?_
 refine cm ?_ ?_
 ·cases ds with
  | nil=>simp at h1
  | cons _ _=>rfl
 ·unfold clo
  rw [Nat.zero_add,JG]
  exact bz (dT (by omega)) (bz (dT (by omega)) h2)
theorem UF:Known prog GL 75 Dn:=bX ajI
theorem acb:Known prog GL 73 L':=bX apj
theorem UG:Known prog GL 76 C9:=bX abG
def dZ (row:Int):Int:=bif decide (row=0) then 1 else bif decide (row >= 1)&&decide (row<=24) then 2 else bif decide (row >= 26)&&decide (row<=30) then row - 23 else 0
theorem P' (row:Int) (R:Out->Prop):(Jr [.c (.i .i64 row)] []).run R =
 af (row==0) (R ⟨.v (.c (.i .i64 1)),[]⟩) (af (decide (row >= 1)) (af (decide (row<=24)) (R ⟨.v (.c (.i .i64 2)),[]⟩) (af (decide (row >= 26)) (af (decide (row<=30)) (af (decide (0<=IntKind.i64.wrap (row - 26))) (af (decide (IntKind.i64.wrap (row - 26)<((5:Nat):Int))) (af (decide (0+(IntKind.i64.wrap (row - 26)).toNat<5)) (R ⟨.v (.c (.i .i64 ([3,4,5,6,7].getD (0+(IntKind.i64.wrap (row - 26)).toNat) 0))),[]⟩) False) False) False) (R ⟨.v (.c (.i .i64 0)),[]⟩)) (R ⟨.v (.c (.i .i64 0)),[]⟩)))
  (af (decide (row >= 26)) (af (decide (row<=30)) (af (decide (0<=IntKind.i64.wrap (row - 26))) (af (decide (IntKind.i64.wrap (row - 26)<((5:Nat):Int))) (af (decide (0+(IntKind.i64.wrap (row - 26)).toNat<5)) (R ⟨.v (.c (.i .i64 ([3,4,5,6,7].getD (0+(IntKind.i64.wrap (row - 26)).toNat) 0))),[]⟩) False) False) False) (R ⟨.v (.c (.i .i64 0)),[]⟩)) (R ⟨.v (.c (.i .i64 0)),[]⟩))):=by kernel_rfl
noncomputable def An (aR row:Int):Int:=put (bits .or .i64 (aR.tmod 8) (IntKind.i64.wrap (bits .and .i64 row 1 * 8)))
noncomputable def Gz (row:Int):Int:=put (aX .i64 row 1)
noncomputable def Mu:au:=fun args I=>match args,I with
 | [.c (.i .i64 row)],[]=>.ret ⟨.v (.c (.i .i64 (dZ row))),[]⟩
 | _,_=>.fail
theorem acd {row:Int} {R:Out->Prop} (h:R ⟨.v (.c (.i .i64 (dZ row))),[]⟩):aJ ((Jr [.c (.i .i64 row)] []).run R):=by
 refine aJ.of_eq (P' row R) ?_
 unfold dZ at h
 have key:R ⟨.v (.c (.i .i64 (bif decide (row >= 26)&&decide (row<=30) then row - 23 else 0))),[]⟩->af (decide (row >= 26)) (af (decide (row<=30)) (af (decide (0<=IntKind.i64.wrap (row - 26))) (af (decide (IntKind.i64.wrap (row - 26)<((5:Nat):Int))) (af (decide (0+(IntKind.i64.wrap (row - 26)).toNat<5)) (R ⟨.v (.c (.i .i64 ([3,4,5,6,7].getD (0+(IntKind.i64.wrap (row - 26)).toNat) 0))),[]⟩) False) False) False) (R ⟨.v (.c (.i .i64 0)),[]⟩)) (R ⟨.v (.c (.i .i64 0)),[]⟩):=by
  intro h
  refine dW (fun h1=>dW (fun h2=>?_) fun h2=>?_) fun h1=>?_
  ·have:row=26∨row=27∨row=28∨row=29∨row=30:=by omega
   rcases this with rfl | rfl | rfl | rfl | rfl <;> exact h
  ·rw [dT h1,dF h2] at h; exact h
  ·rw [dF h1] at h; exact h
 by_cases h0:row=0
 ·subst h0; exact h
 ·rw [dF h0] at h
  refine cm (by simpa using h0) (dW (fun h1=>dW (fun h2=>?_) fun h2=>?_) fun h1=>?_)
  ·rw [dT h1,dT h2] at h; exact h
  ·rw [dT h1,dF h2] at h; exact key h
  ·rw [dF h1] at h; exact key h
theorem ap5:Known prog [] 74 Mu:=by
 refine ajb.less fun args I R h=>aJ.out ?_
 unfold Mu at h
 split at h
 case h_2=>exact h.elim
 exact acd h
theorem ace:Known prog GL 74 Mu:=bX ap5
noncomputable def UH:FuncId->Option au:=aE [(73,L'),(74,Mu),(75,Dn),(76,C9)]
theorem acf:∀ f T,UH f=some T->Known prog GL f T:=(aq.cons acb (.cons ace (.cons UF (.cons UG .nil)))).get
noncomputable def Dp:au:=fun args I=>aD prog GL UH [] f35 args I
theorem ajJ:Known prog GL 35 Dp:=ah func35 rfl (by kernel_rfl) mixed acf (by kernel_rfl)
def Ih (k:Nat):Out:=⟨.tu [.ag [.i .i64 0,.i .i64 0,.i .i64 0,.i .i64 0,.sn],.c (.e k)],[]⟩
def oPk (aR row kind code:Int) (ds:List Int):Out:=⟨.tu [.ag [.i .i64 aR,.i .i64 row,.i .i64 kind,.i .i64 code,.h 0 0 ds.length],.c .en],[some ⟨1,5,.ints .u8 ds⟩]⟩
noncomputable def rowOf (x y:Int):Int:=bits .or .i64 (bH .i64 y 1) (IntKind.i64.wrap (x.tdiv 8))
def nN (x:Int):Int:=bif x.tmod 8==0 then 8 else x.tmod 8
def Hd (bs:List Int):List Int:=azs 0 (azo (2:Int).toNat bs)
def Tl (bs:List Int):List Int:=azs (2:Int).toNat (azo bs.length bs)
def Ut (l:List Int):List Int:=azo (l.length - (1:Int).toNat) (azs (0+(1:Int).toNat) l)
noncomputable def Bs (bs:List Int) (m r:Int) (R:Out->Prop):Prop:=
 af (decide (2<=(bs.length:Int))) ((0<(Tl bs).length∧(Tl bs).length<=1000000)∧af (dZ r==0) (R (Ih fN)) (af (decide (r >= 26))
  (af (decide (0<((Tl bs).length:Int))) (af (decide (0+(0:Int).toNat<(Tl bs).length)) (af (!cz ((Tl bs).getD 0 0)) (R (Ih dX))
    (af (decide (1<=((Tl bs).length:Int))) (af (decide (0+(1:Int).toNat+((Tl bs).length - (1:Int).toNat)<=(Tl bs).length)) ((0<(Ut (Tl bs)).length∧(Ut (Tl bs)).length<=1000000)∧R (oPk m r (dZ r) (bw ((Tl bs).getD 0 0)) (Ut (Tl bs)))) False) False)) False) False)
  (R (oPk m r (dZ r) 0 (Tl bs))))) False
theorem Qa (bs:List Int) (R:Out->Prop):(Dp [.c (.l .u8 bs)] []).run R =
 af ((bs.length:Int) !=42) (R (Ih fM)) (af (decide (2<=(bs.length:Int))) ((Hd bs).length=2∧af (cz ((Hd bs).getD 0 0)&&cz ((Hd bs).getD 1 0))
  (af ((bw ((Hd bs).getD 0 0)).tmod 8==0) (Bs bs 8 (rowOf (bw ((Hd bs).getD 0 0)) (bw ((Hd bs).getD 1 0))) R) (Bs bs ((bw ((Hd bs).getD 0 0)).tmod 8) (rowOf (bw ((Hd bs).getD 0 0)) (bw ((Hd bs).getD 1 0))) R))
  (R (Ih dX))) False):=by kernel_rfl
noncomputable def GA (a b:Int) (ds:List Int):Tr Out:=
 .br (cz a&&cz b)
  (.br (decide (dZ (rowOf (bw a) (bw b))=0)) (.ret (Ih fN))
    (.br (decide (rowOf (bw a) (bw b) >= 26))
      (.br (cz (ds.getD 0 0)) (.ret (oPk (nN (bw a)) (rowOf (bw a) (bw b)) (dZ (rowOf (bw a) (bw b))) (bw (ds.getD 0 0)) (ds.drop 1))) (.ret (Ih dX)))
      (.ret (oPk (nN (bw a)) (rowOf (bw a) (bw b)) (dZ (rowOf (bw a) (bw b))) 0 ds))))
  (.ret (Ih dX))
noncomputable def UI:au:=fun args I=>match args,I with
 | [.c (.l .u8 bs)],[]=>.br (decide (bs.length=42)) (GA (bs.getD 0 0) (bs.getD 1 0) (bs.drop 2)) (.ret (Ih fM))
 | [.c .sn],[]=>.ret (Ih fM)
 | _,_=>.fail
theorem UJ (R:Out->Prop):(Dp [.c .sn] []).run R=R (Ih fM):=by kernel_rfl
theorem Mw {a b:Int} {ds:List Int} {m r:Int} {R:Out->Prop} (h40:ds.length=40)
  (h:af (decide (dZ r=0)) (R (Ih fN)) (af (decide (r >= 26)) (af (cz (ds.getD 0 0)) (R (oPk m r (dZ r) (bw (ds.getD 0 0)) (ds.drop 1))) (R (Ih dX))) (R (oPk m r (dZ r) 0 ds)))):Bs (a::b::ds) m r R:=by
 have eT:Tl (a::b::ds)=ds:=by
  show azs 2 (azo (a::b::ds).length (a::b::ds))=ds
  rw [List.take_length]
  rfl
 have eU:Ut ds=ds.drop 1:=by
  show azo (ds.length - 1) (azs 1 ds)=_
  rw [List.take_of_length_le (by rw [ax1]; exact Nat.le_refl _)]
 have e1:(0:Int).toNat=0:=rfl
 have e2:(1:Int).toNat=1:=rfl
 unfold Bs
 rw [eT,eU,e1,e2]
 refine bz (dT (by simp; omega)) ⟨⟨by omega,by omega⟩,?_⟩
 rcases aW.1 h with ⟨c,h⟩ | ⟨c,h⟩
 ·exact bz (by rw [beq_iff_eq]; exact of_decide_eq_true c) h
 ·refine cm (by rw [beq_eq_false_iff_ne]; exact of_decide_eq_false c) ?_
  rcases aW.1 h with ⟨c,h⟩ | ⟨c,h⟩
  ·refine bz c (bz (dT (by omega)) (bz (dT (by omega)) ?_))
   rcases aW.1 h with ⟨c,h⟩ | ⟨c,h⟩
   ·refine cm (by rw [c]; rfl) (bz (dT (by omega)) (bz (dT (by omega)) ⟨⟨?_,?_⟩,h⟩))
    ·rw [ax1]; omega
    ·rw [ax1]; omega
   ·exact bz (by rw [c]; rfl) h
  ·exact cm c h
theorem acg {bs:List Int} {R:Out->Prop} (h:af (decide (bs.length=42)) ((GA (bs.getD 0 0) (bs.getD 1 0) (bs.drop 2)).run R) (R (Ih fM))):aJ ((Dp [.c (.l .u8 bs)] []).run R):=by
 refine aJ.of_eq (Qa bs R) ?_
 rcases aW.1 h with ⟨c,h⟩ | ⟨c,h⟩
 ·have c:=of_decide_eq_true c
  match bs,c with
  | a::b::ds,c=>
    have h40:ds.length=40:=by simpa using c
    have eH:Hd (a::b::ds)=[a,b]:=rfl
    have h:(GA a b ds).run R:=h
    rw [eH]
    refine cm (by simp [bne]; omega) (bz (dT (by simp; omega)) ⟨rfl,?_⟩)
    show af (cz a&&cz b) _ _
    rcases aW.1 h with ⟨c,h⟩ | ⟨c,h⟩
    ·refine bz c ?_
     show af ((bw a).tmod 8==0) (Bs (a::b::ds) 8 (rowOf (bw a) (bw b)) R) (Bs (a::b::ds) ((bw a).tmod 8) (rowOf (bw a) (bw b)) R)
     unfold nN at h
     cases hm:((bw a).tmod 8==0) with
     | true=>rw [hm] at h; exact Mw h40 h
     | false=>rw [hm] at h; exact Mw h40 h
    ·exact cm c h
 ·have c:=of_decide_eq_false c
  exact bz (by rw [bne_iff_ne]; omega) h
theorem ap6:Known prog GL 35 UI:=by
 refine ajJ.less fun args I R h=>aJ.out ?_
 unfold UI at h
 split at h
 case h_3=>exact h.elim
 case h_1 bs=>exact acg h
 case h_2=>exact aJ.of_eq (UJ R) h
end pk
namespace ln
end ln
namespace hd
open Go Go.Nx pk ln
noncomputable def JI:au:=fun args I=>aD prog GL (fun _=>ay1) [] f86 args I
theorem ajK:Known prog GL 86 JI:=ah func86 rfl (by kernel_rfl) mixed az (by kernel_rfl)
noncomputable def UK:FuncId->Option au:=aE [(76,C9)]
theorem UL:∀ f T,UK f=some T->Known prog GL f T:=(aq.cons UG .nil).get
noncomputable def agP:Cx:={P:=prog,con:=UK,glob:=GL,m:=0,loops:=[]}
noncomputable def UM:au:=fun args I=>if I.length=0 then aD prog GL UK [(0,[4,9,10,11],cF agP 0 [4,9,10,11] [2,3,4] (ae f73 0) 9)] f73 args I else .fail
theorem ap7:Known prog GL 73 UM:=av 0 func73 rfl (by kernel_rfl) mixed UL (aM.one (id:=0) (body:=ae f73 0) (by kernel_rfl) rfl (bL (X:=agP) UL mixed (aM.none (by kernel_rfl)) [4,9,10,11] [2,3,4] 9))
noncomputable def ach:au:=fun args I=>aD prog GL (fun _=>ay1) [] f83 args I
theorem ajL:Known prog GL 83 ach:=ah func83 rfl (by kernel_rfl) mixed az (by kernel_rfl)
noncomputable def UN:au:=fun args I=>aD prog GL (fun _=>ay1) [] f156 args I
theorem ajM:Known prog GL 156 UN:=ah func156 rfl (by kernel_rfl) mixed az (by kernel_rfl)
theorem Dq (m r k c i:Int) (ds:List Int) (R:Out->Prop):(JI [.ag [.i .i64 m,.i .i64 r,.i .i64 k,.i .i64 c,.l .u8 ds],.c (.i .i64 i)] []).run R =
 af (decide (i<0)) (R ⟨.v (.c (.i .u8 0)),[]⟩) (af (decide (i >= (ds.length:Int))) (R ⟨.v (.c (.i .u8 0)),[]⟩) (af (decide (0<=i)) (af (decide (i<(ds.length:Int))) (af (decide (i.toNat<ds.length)) (R ⟨.v (.c (.i .u8 (ds.getD i.toNat 0))),[]⟩) False) False) False)):=by kernel_rfl
noncomputable def tAt:au:=fun args I=>match args,I with
 | [.ag [.i .i64 _,.i .i64 _,.i .i64 _,.i .i64 _,.l .u8 ds],.c (.i .i64 i)],[]=>.aF (0<=i∧i<(ds.length:Int)) (.ret ⟨.v (.c (.i .u8 (ds.getD i.toNat 0))),[]⟩)
 | _,_=>.fail
theorem kAt:Known prog GL 86 tAt:=by
 refine ajK.less fun args I R h=>aJ.out ?_
 unfold tAt at h
 split at h
 case h_2=>exact h.elim
 rename_i m r k c ds i
 have h1:=h.1
 have h2:R ⟨.v (.c (.i .u8 (ds.getD i.toNat 0))),[]⟩:=h.2
 clear h
 exact aJ.of_eq (Dq m r k c i ds R) (cm (dF (by omega)) (cm (dF (by omega)) (bz (dT h1.1) (bz (dT h1.2) (bz (dT (by omega)) h2)))))
theorem Qb (b:Bool) (R:Out->Prop):(UN [.c (.b b)] []).run R=af b (R ⟨.v (.c (.i .i64 1)),[]⟩) (R ⟨.v (.c (.i .i64 0)),[]⟩):=by kernel_rfl
def bI (c:Bool):Int:=bif c then 1 else 0
noncomputable def UO:au:=fun args I=>match args,I with
 | [.c (.b b)],[]=>.ret ⟨.v (.c (.i .i64 (bI b))),[]⟩
 | _,_=>.fail
theorem ap9:Known prog GL 156 UO:=by
 refine ajM.less fun args I R h=>aJ.out ?_
 unfold UO at h
 split at h
 case h_2=>exact h.elim
 rename_i b
 have h2:R ⟨.v (.c (.i .i64 (bI b))),[]⟩:=h
 clear h
 refine aJ.of_eq (Qb b R) ?_
 cases b with
 | true=>exact bz rfl h2
 | false=>exact cm rfl h2
theorem sZ {a b:Bool} {R:Bool->Prop} (h:R (a&&b)):af a (R b) (R false):=by
 cases a with
 | true=>exact bz rfl h
 | false=>exact cm rfl h
theorem wY {a:Bool} {A B C:Prop} (h:af a A B) (hh:A->C):af a C B:=by
 rcases aW.1 h with ⟨c,h⟩ | ⟨c,h⟩
 ·exact bz c (hh h)
 ·exact cm c h
def oOn (xs:List Int):Out:=⟨.tu [.c (.h 0 0 xs.length),.c (.b true)],[some ⟨1,3,.ints .i64 xs⟩]⟩
def GB (R:Out->Prop) (A:Prop):List Int->Prop
 | []=>A
 | b::bs=>af (!cz b) (R oN) (GB R A bs)
theorem yV {R:Out->Prop} {A:Prop}:∀ {l:List Int},af (l.all cz) A (R oN)->GB R A l
 | [],h=>by
   rcases aW.1 h with ⟨_,h⟩ | ⟨c,_⟩
   ·exact h
   ·cases c
 | b::bs,h=>by
   show af (!cz b) (R oN) (GB R A bs)
   have e:(b::bs).all cz=(cz b&&bs.all cz):=rfl
   rw [e] at h
   cases hb:cz b with
   | true=>rw [hb] at h; exact cm rfl (yV h)
   | false=>rw [hb] at h; exact bz rfl (by rcases aW.1 h with ⟨c,_⟩ | ⟨_,h⟩; cases c; exact h)
theorem ajN (a b c d e f:Int) (R:Out->Prop):(UM [.c (.l .u8 [a,b,c,d,e,f])] []).run R=GB R (R (oOn ([a,b,c,d,e,f].map bw))) [a,b,c,d,e,f]:=by kernel_rfl
theorem ajO (a b c d e f g h:Int) (R:Out->Prop):(UM [.c (.l .u8 [a,b,c,d,e,f,g,h])] []).run R=GB R (R (oOn ([a,b,c,d,e,f,g,h].map bw))) [a,b,c,d,e,f,g,h]:=by kernel_rfl
noncomputable def UP:au:=fun args I=>match args,I with
 | [.c (.l .u8 [a,b,c,d,e,f])],[]=>.br ([a,b,c,d,e,f].all cz) (.ret (oOn ([a,b,c,d,e,f].map bw))) (.ret oN)
 | [.c (.l .u8 [a,b,c,d,e,f,g,h])],[]=>.br ([a,b,c,d,e,f,g,h].all cz) (.ret (oOn ([a,b,c,d,e,f,g,h].map bw))) (.ret oN)
 | _,_=>.fail
theorem ajP:Known prog GL 73 UP:=by
 refine ap7.less fun args I R h=>aJ.out ?_
 unfold UP at h
 split at h
 case h_3=>exact h.elim
 case h_1 a b c d e f=>exact aJ.of_eq (ajN a b c d e f R) (yV h)
 case h_2 a b c d e f g i=>exact aJ.of_eq (ajO a b c d e f g i R) (yV h)
noncomputable abbrev GC:=f82
noncomputable def UQ:FuncId->Option au:=aE [(86,tAt)]
theorem UR:∀ f T,UQ f=some T->Known prog GL f T:=(aq.cons kAt .nil).get
noncomputable def US:Cx:={P:=prog,con:=UQ,glob:=GL,m:=0,loops:=[]}
noncomputable def UT (fr m r k c:Int) (ds xs:List Int) (q:Nat) (n i:Int):St:={fr:=frame 26 [(1,.v (.c (.i .i64 fr))),(3,.v (.c (.p 0 0 0))),(7,.v (.c (.h 1 0 q))),(12,.v (.c (.i .i64 n))),(13,.v (.c (.i .i64 i)))],rg:=[some ⟨5,99,.cells [.i .i64 m,.i .i64 r,.i .i64 k,.i .i64 c,.l .u8 ds]⟩,some ⟨1,5,.ints .u8 xs⟩]}
noncomputable def Mx (xs:List Int) (q:Nat):St:={fr:=frame 26 [(7,.v (.c (.h 0 0 q)))],rg:=[some ⟨1,5,.ints .u8 xs⟩]}
theorem JJ (fr m r k c:Int) (ds xs:List Int) (q:Nat) (n i:Int) (R:RO->Prop):(bu US 0 [1,3,7,12,13] [7] (ae GC 0) (UT fr m r k c ds xs q n i)).run R =
 af (decide (i<n)) ((0<=IntKind.i64.wrap (fr+i)∧IntKind.i64.wrap (fr+i)<(ds.length:Int))∧af (decide (0<=i)) (af (decide (i<(q:Int))) (af (decide (0+i.toNat<xs.length)) (R (.next (UT fr m r k c ds (mB xs (0+i.toNat) (ds.getD (IntKind.i64.wrap (fr+i)).toNat 0) 0) q n (IntKind.i64.wrap (i+1))))) False) False) False)
 (R (.done .normal (Mx xs q))):=by kernel_rfl
noncomputable def agQ:List gw:=FY 26 [(1,.i .i64),(3,.p 0 0 0),(7,.h 1 0),(12,.i .i64),(13,.i .i64)]
def agR:List lU:=[.cells 5 99 [.i .i64,.i .i64,.i .i64,.i .i64,.l .u8],.ints 1 5 .u8]
def iu (ds:List Int) (f i:Nat):Nat->List Int->List Int
 | _,[]=>[]
 | k,x::xs=>(match azr k i with | true=>x | false=>ds.getD (f+k) 0)::iu ds f i (k+1) xs
theorem GD (ds:List Int) (f i:Nat):∀ (k:Nat) (xs:List Int) (j:Nat),k+j=i->j<xs.length->iu ds f (i+1) k (xs.set j (ds.getD (f+i) 0))=iu ds f i k xs
 | _,[],_,_,h=>by simp at h
 | k,x::xs,0,h,_=>by
   have e:k=i:=by omega
   subst e
   show (match azr k (k+1) with | true=>_ | false=>_)::_=(match azr k k with | true=>_ | false=>_)::_
   rw [show azr k (k+1)=true by simp [azt],show azr k k=false by rw [<- azu,azt]; omega]
   congr 1
   exact Bt ds f (k+1) k (k+1) xs (by omega) (by omega)
 | k,x::xs,j+1,h,hl=>by
   have h1:=GD ds f i (k+1) xs j (by omega) (by simpa using hl)
   show (match azr k (i+1) with | true=>x | false=>_)::iu ds f (i+1) (k+1) (xs.set j (ds.getD (f+i) 0))=(match azr k i with | true=>x | false=>_)::_
   rw [h1,show azr k (i+1)=true by rw [azt]; omega,show azr k i=true by rw [azt]; omega]
where
 Bt (ds:List Int) (f i i2:Nat):∀ (k:Nat) (xs:List Int),i<=k->i2<=k->iu ds f i k xs=iu ds f i2 k xs
 | _,[],_,_=>rfl
 | k,x::xs,h,h2=>by
   show (match azr k i with | true=>_ | false=>_)::_=(match azr k i2 with | true=>_ | false=>_)::_
   rw [Bt ds f i i2 (k+1) xs (by omega) (by omega),show azr k i=false by rw [<- azu,azt]; omega,show azr k i2=false by rw [<- azu,azt]; omega]
theorem GF (ds:List Int) (f i:Nat):∀ (k:Nat) (xs:List Int),k+xs.length<=i->iu ds f i k xs=xs
 | _,[],_=>rfl
 | k,x::xs,h=>by
   have h:k+(xs.length+1)<=i:=h
   show (match azr k i with | true=>_ | false=>_)::_=_
   rw [GF ds f i (k+1) xs (by omega),show azr k i=true by rw [azt]; omega]
theorem vL (ds:List Int) (f i:Nat):∀ (k:Nat) (xs:List Int),(iu ds f i k xs).length=xs.length
 | _,[]=>rfl
 | k,x::xs=>by show (iu ds f i (k+1) xs).length+1=_; rw [vL ds f i (k+1) xs]; rfl
noncomputable def UU:List cE × List (List cE)->Tr (aj × St):=fun x=>match x with
 | ([.i fr,.n q,.i n,.i i],[[.i _,.i _,.i _,.i _,.l ds],[.l xs]])=>.aF (n=(q:Int)∧q=xs.length∧0<=i∧i<=n∧0<=fr∧fr+n<=(ds.length:Int)∧fr+n<1000000) (.ret (.normal,Mx (iu ds fr.toNat i.toNat 0 xs) q))
 | _=>.fail
def ajQ:List cE × List (List cE)->Nat:=fun x=>match x with
 | ([.i _,.n _,.i n,.i i],_)=>(n - i).toNat
 | _=>0
theorem Qc:jL prog GL 0 0 (ae GC 0) (nW agQ agR UU):=by
 refine kP (X:=US) UR mixed (aM.none (by kernel_rfl)) [1,3,7,12,13] [7] _ _ _ ajQ ?_
 rintro ⟨a,b⟩ R h
 unfold UU at h
 split at h
 case h_2=>exact h.elim
 rename_i fr q n i m r k c ds xs he
 cases he
 have h1:=h.1
 have h2:R (.normal,Mx (iu ds fr.toNat i.toNat 0 xs) q):=h.2
 clear h
 obtain ⟨rfl,hq,Sv,hin,hf,hd,hs⟩:=h1
 show (bu US 0 [1,3,7,12,13] [7] (ae GC 0) (UT fr m r k c ds xs q q i)).run _
 rw [JJ]
 refine dW (fun ff=>?_) fun tI=>?_
 ·have w1:IntKind.i64.wrap (fr+i)=fr+i:=by rw [ay']; omega
  have w2:IntKind.i64.wrap (i+1)=i+1:=by rw [ay']; omega
  rw [w1,w2]
  refine ⟨by omega,bz (dT Sv) (bz (dT ff) (bz (dT (by omega)) ?_))⟩
  refine ⟨([.i fr,.n q,.i q,.i (i+1)],[[.i m,.i r,.i k,.i c,.l ds],[.l (mB xs (0+i.toNat) (ds.getD (fr+i).toNat 0) 0)]]),rfl,by show ((q:Int) - (i+1)).toNat<((q:Int) - i).toNat; omega,?_⟩
  rw [gZ,Nat.zero_add]
  refine ⟨⟨rfl,by rw [List.length_set]; exact hq,by omega,by omega,hf,hd,hs⟩,?_⟩
  show R (.normal,Mx (iu ds fr.toNat (i+1).toNat 0 (xs.set i.toNat (ds.getD (fr+i).toNat 0))) q)
  rw [show (i+1).toNat=i.toNat+1 by omega,show (fr+i).toNat=fr.toNat+i.toNat by omega,GD ds fr.toNat i.toNat 0 xs i.toNat (by omega) (by omega)]
  exact h2
 ·rw [GF ds fr.toNat i.toNat 0 xs (by omega)] at h2
  exact h2
noncomputable def Dr:au:=fun args I=>if I.length=0 then aD prog GL UQ [(0,[1,3,7,12,13],nW agQ agR UU)] GC args I else .fail
theorem JK:Known prog GL 82 Dr:=av 0 func82 rfl (by kernel_rfl) mixed UR (aM.one (id:=0) (body:=ae GC 0) (by kernel_rfl) rfl Qc)
end hd
namespace hd
open Go Go.Nx pk
def oI (a b:Int):Int:=bits .or .i64 a b
def aI (a b:Int):Int:=bits .and .i64 a b
noncomputable def nb3 (s o:Int):Int:=oI (aI (aX .i64 s 4) 7) (bH .i64 o 3)
noncomputable def nb4 (s:Int):Int:=aI (aX .i64 s 8) 15
noncomputable def nb5 (s t:Int):Int:=oI (aI (aX .i64 s 12) 3) (bH .i64 t 2)
theorem GG (n:Int):aI n 15=n % 16:=cB n 4 (by decide)
theorem au8 (n:Int):aI n 7=n % 8:=cB n 3 (by decide)
theorem au9 (n:Int):aI n 3=n % 4:=cB n 2 (by decide)
theorem ap' (n:Int):aI n 1=n % 2:=cB n 1 (by decide)
theorem ajR (n:Int):aX .i64 n 4=n / 16:=yD n 4 (by decide)
theorem au' (n:Int):aX .i64 n 8=n / 256:=yD n 8 (by decide)
theorem aqa (n:Int):aX .i64 n 12=n / 4096:=yD n 12 (by decide)
theorem aci (n:Int):aX .i64 n 1=n / 2:=yD n 1 (by decide)
theorem aqb (x:Int) (j:Nat) (hj:j<20) (h0:0<=x) (h1:x<65536):bH .i64 x j=x * 2 ^ j:=by
 refine ai3 x j (by omega) h0 ?_
 have:(2:Int) ^ j<=2 ^ 20:=by
  have h2:((2:Int) ^ j)=((2 ^ j:Nat):Int):=by simp
  rw [h2]; exact Int.ofNat_le.2 (Nat.le_trans (Nat.pow_le_pow_right (n:=2) (by decide) (show j<=20 by omega)) (by decide))
 calc x * 2 ^ j<=x * 2 ^ 20:=Int.mul_le_mul_of_nonneg_left this h0
  _<2 ^ 63:=by omega
theorem GH (y x:Int) (i:Nat) (hi:i<20) (Fc:0<=y) (hy:y<2 ^ i) (Fe:0<=x) (hx:x<65536):oI y (bH .i64 x i)=y+x * 2 ^ i:=by
 rw [aqb x i hi Fe hx]
 have hp:(0:Int)<2 ^ i:=Int.pow_pos (by decide)
 refine PI (x * 2 ^ i) y i (by omega) (Int.mul_emod_left _ _) (Int.mul_nonneg Fe (Int.le_of_lt hp)) ?_ Fc hy
 have:(2:Int) ^ i<=2 ^ 20:=by
  have h2:((2:Int) ^ i)=((2 ^ i:Nat):Int):=by simp
  rw [h2]; exact Int.ofNat_le.2 (Nat.le_trans (Nat.pow_le_pow_right (n:=2) (by decide) (show i<=20 by omega)) (by decide))
 calc x * 2 ^ i<=x * 2 ^ 20:=Int.mul_le_mul_of_nonneg_left this Fe
  _<2 ^ 63:=by omega
theorem or2 (y x:Int) (Fc:0<=y) (hy:y<4) (Fe:0<=x) (hx:x<65536):oI y (bH .i64 x 2)=y+x * 4:=GH y x 2 (by decide) Fc hy Fe hx
theorem or3 (y x:Int) (Fc:0<=y) (hy:y<8) (Fe:0<=x) (hx:x<65536):oI y (bH .i64 x 3)=y+x * 8:=GH y x 3 (by decide) Fc hy Fe hx
theorem UW (s o:Int) (h:0<=o∧o<2):nb3 s o=s / 16 % 8+o * 8:=by
 unfold nb3
 rw [ajR,au8]
 exact or3 _ _ (by omega) (by omega) h.1 (by omega)
theorem UX (s t:Int) (h:0<=t∧t<4):nb5 s t=s / 4096 % 4+t * 4:=by
 unfold nb5
 rw [aqa,au9]
 exact or2 _ _ (by omega) (by omega) h.1 (by omega)
theorem UY (s:Int):nb4 s=s / 256 % 16:=by unfold nb4; rw [au',GG]
noncomputable def ajS (x y:Int):Int:=oI x (bH .i64 y 4)
noncomputable def aqc (a b c d:Int):Int:=oI (oI (oI a (bH .i64 (aI b 7) 4)) (bH .i64 c 8)) (bH .i64 (aI d 3) 12)
theorem Qd:∀ n<16,get (put (azi n))=some n:=by decide +kernel
theorem acj:∀ n<16,∀ j<8,get (x8 (put (azi n)) (bH .u8 1 (azi j)))=some n:=by decide +kernel
theorem My (n:Int):∃ m:Nat,m<16∧put n=put (azi m)∧n % 16=(m:Int):=by
 refine ⟨(n % 16).toNat,by omega,?_,by omega⟩
 have e:azi (n % 16).toNat=n % 16:=by show (((n % 16).toNat:Nat):Int)=n % 16; omega
 rw [e,TK]
theorem ack (n:Int):get (put n)=some (n % 16).toNat:=by
 obtain ⟨m,hm,e,e2⟩:=My n
 rw [e,Qd m hm,e2,azd]
theorem UZ (n j:Int) (h:0<=j∧j<8):get (x8 (put n) (bH .u8 1 j))=some (n % 16).toNat:=by
 obtain ⟨m,hm,e,e2⟩:=My n
 obtain ⟨i,rfl⟩:∃ i:Nat,j=azi i:=⟨j.toNat,by show j=((j.toNat:Nat):Int); omega⟩
 have hi:i<8:=by have:=h.2; simp at this; omega
 rw [e,acj m hm i hi,e2,azd]
end hd
namespace hd
open Go Go.Nx pk ln
noncomputable def GI:FuncId->Option au:=aE [(156,UO)]
theorem Qe:∀ f T,GI f=some T->Known prog GL f T:=(aq.cons ap9 .nil).get
noncomputable def GJ:au:=fun args I=>aD prog GL GI [] f123 args I
theorem U0:Known prog GL 123 GJ:=ah func123 rfl (by kernel_rfl) mixed Qe (by kernel_rfl)
noncomputable def Ds:FuncId->Option au:=aE [(82,Dr),(73,UP),(83,ach),(123,GJ)]
theorem GK:∀ f T,Ds f=some T->Known prog GL f T:=(aq.cons JK (.cons ajP (.cons ajL (.cons U0 .nil)))).get
noncomputable def Mz:Cx:={P:=prog,con:=Ds,glob:=GL,m:=0,loops:=[]}
noncomputable def MA:au:=fun args I=>if I.length=0 then aD prog GL Ds [(0,[1,2,7,10,52],cF Mz 0 [1,2,7,10,52] [1,2,7] (ae f77 0) 12)] f77 args I else .fail
theorem acm:Known prog GL 77 MA:=av 0 func77 rfl (by kernel_rfl) mixed GK (aM.one (id:=0) (body:=ae f77 0) (by kernel_rfl) rfl (bL (X:=Mz) GK mixed (aM.none (by kernel_rfl)) [1,2,7,10,52] [1,2,7] 12))
noncomputable def MB:au:=fun args I=>aD prog GL (fun _=>ay1) [] f27 args I
theorem acn:Known prog GL 27 MB:=ah func27 rfl (by kernel_rfl) mixed az (by kernel_rfl)
noncomputable def Dt:au:=fun args I=>match args,I with
 | [.ag [.i .i64 a,.i .i64 b,.i .i64 c],.ag [.i .i64 x,.i .i64 y,.i .i64 z]],[]=>.aF (a=x∧b=y∧c=z) (.ret (oB true))
 | _,_=>.fail
theorem JL (a b c x y z:Int) (R:Out->Prop):(MB [.ag [.i .i64 a,.i .i64 b,.i .i64 c],.ag [.i .i64 x,.i .i64 y,.i .i64 z]] []).run R=af (a==x) (af (b==y) (R (oB (c==z))) (R (oB false))) (R (oB false)):=by kernel_rfl
theorem aco:Known prog GL 27 Dt:=by
 refine acn.less fun args I R h=>aJ.out ?_
 unfold Dt at h
 split at h
 case h_2=>exact h.elim
 rename_i a b c x y z
 have h1:=h.1
 have h2:R (oB true):=h.2
 clear h
 obtain ⟨rfl,rfl,rfl⟩:=h1
 refine aJ.of_eq (JL a b c a b c R) (bz (beq_self_eq_true _) (bz (beq_self_eq_true _) ?_))
 rw [beq_self_eq_true]
 exact h2
noncomputable def G (ds:List Int) (j:Nat):Int:=bw (ds.getD j 0)
def jy (ds:List Int) (f n:Nat):Prop:=((n:Int)=(n:Int)∧n=(axx n (0:Int)).length∧0<=(0:Int)∧(0:Int)<=(n:Int)∧0<=(f:Int)∧(f:Int)+(n:Int)<=(ds.length:Int)∧(f:Int)+(n:Int)<1000000)
end hd
namespace dec
open Go Go.Nx pk ac bR hd wX
structure Px where
 mg:Int
 row:Int
 kd:Int
 cd:Int
 ds:List Int
def Px.nv (p:Px):NV:=.ag [.i .i64 p.mg,.i .i64 p.row,.i .i64 p.kd,.i .i64 p.cd,.l .u8 p.ds]
noncomputable def U1:au:=da [] [0] [] [] 0 MA
theorem aqd:Known prog GL 77 U1:=acm.soft [] [0] [] [] 0
def h8 (ds:List Int):List Int:=[ds.getD 0 0,ds.getD 1 0,ds.getD 2 0,ds.getD 3 0,ds.getD 4 0,ds.getD 5 0,ds.getD 6 0,ds.getD 7 0]
noncomputable def nb (ds:List Int) (k:Nat):Int:=bw (ds.getD k 0)
noncomputable def flV (ds:List Int):Int:=bits .or .i64 (bits .or .i64 (bits .or .i64 (aX .i64 (nb ds 3) 3) (bH .i64 (aX .i64 (nb ds 5) 2) 1)) (bH .i64 (nb ds 6) 3)) (bH .i64 (nb ds 7) 7)
noncomputable def cV (ds:List Int) (k:Int):Bool:=bits .and .i64 (aX .i64 (flV ds) k) 1==1
noncomputable def wo (m:Int) (ds:List Int):Hx:=⟨m,bits .or .i64 (nb ds 0) (bH .i64 (nb ds 1) 4),
 bits .or .i64 (bits .or .i64 (bits .or .i64 (nb ds 2) (bH .i64 (bits .and .i64 (nb ds 3) 7) 4)) (bH .i64 (nb ds 4) 8)) (bH .i64 (bits .and .i64 (nb ds 5) 3) 12),
 cV ds 0,cV ds 1,cV ds 2,cV ds 3,cV ds 4,cV ds 5,cV ds 6,cV ds 7,cV ds 8,cV ds 9,cV ds 10,
 IntKind.i64.wrap (IntKind.i64.wrap (IntKind.i64.wrap (4 * bI (cV ds 8))+IntKind.i64.wrap (2 * bI (cV ds 9)))+bI (cV ds 10))⟩
def hxZ:Hx:=⟨0,0,0,false,false,false,false,false,false,false,false,false,false,false,0⟩
def nC (ds:List Int):List Int:=iu ds 8 0 0 (axx 32 0)
theorem acp (m r c:Int) (ds:List Int) (R:Out->Prop):(U1 [.ag [.i .i64 m,.i .i64 r,.i .i64 1,.i .i64 c,.l .u8 ds]] []).run R =
 (((8:Int)=((8:Nat):Int)∧(8:Nat)=(axx 8 (0:Int)).length∧(0:Int)<=0∧(0:Int)<=8∧(0:Int)<=0∧(0:Int)+8<=(ds.length:Int)∧(0:Int)+8<1000000)∧af ((h8 ds).all cz)
   (((32:Int)=((32:Nat):Int)∧(32:Nat)=(axx 32 (0:Int)).length∧(0:Int)<=0∧(0:Int)<=32∧(0:Int)<=8∧(8:Int)+32<=(ds.length:Int)∧(8:Int)+32<1000000)∧(32=32∧R ⟨.tu [.ag (wo m ds).nc,.c (.l .u8 (nC ds)),.c .en],[]⟩))
   (R ⟨.tu [.ag hxZ.nc,.c .sn,.c (.e dX)],[]⟩)):=by kernel_rfl
noncomputable def rq (ds:List Int):Bool:=(h8 ds).all cz
noncomputable def oHr (m:Int) (ds:List Int):Out:=⟨.tu [.ag (wo m ds).nc,.c (.l .u8 (nC ds)),.c .en],[]⟩
def oHe:Out:=⟨.tu [.ag hxZ.nc,.c .sn,.c (.e dX)],[]⟩
noncomputable def tHr:au:=fun args I=>match args,I with
 | [.ag [.i _ m,.i _ r,.i _ _,.i _ c,.l _ ds]],[]=>.aF (args=[.ag [.i .i64 m,.i .i64 r,.i .i64 1,.i .i64 c,.l .u8 ds]]∧ds.length=40) (.br (rq ds) (.ret (oHr m ds)) (.ret oHe))
 | _,_=>.fail
attribute [local irreducible] U1 in
theorem kHr:Known prog GL 77 tHr:=by
 refine aqd.less fun args I R h=>aJ.out ?_
 unfold tHr at h
 split at h
 case h_2=>exact h.elim
 rename_i _ m _ r _ _ _ c _ ds
 obtain ⟨⟨h1,h2⟩,h⟩:=h
 rw [h1]
 refine aJ.of_eq (acp m r c ds R) ⟨⟨rfl,rfl,by omega,by omega,by omega,by omega,by omega⟩,?_⟩
 have h:af (rq ds) (R (oHr m ds)) (R oHe):=h
 unfold rq at h
 cases hk:(h8 ds).all cz with
 | true=>rw [hk] at h; exact sT rfl ⟨⟨rfl,rfl,by omega,by omega,by omega,by omega,by omega⟩,rfl,h⟩
 | false=>rw [hk] at h; exact sF rfl h
def pxE (k:Nat):Out:=⟨.tu [.ag [.i .i64 0,.i .i64 0,.i .i64 0,.i .i64 0,.sn],.c (.e k)],[]⟩
inductive RP where
 | bad (k:Nat)
 | ok (p:Px)
noncomputable def p7 (bs:List Int):Int:=rowOf (bw (bs.getD 0 0)) (bw (bs.getD 1 0))
noncomputable def wq (bs:List Int):RP:=
 match decide (bs.length=42) with
 | false=>.bad fM
 | true=>match cz (bs.getD 0 0)&&cz (bs.getD 1 0) with
   | false=>.bad dX
   | true=>match decide (dZ (p7 bs)=0) with
     | true=>.bad fN
     | false=>match decide (p7 bs >= 26) with
       | false=>.ok ⟨nN (bw (bs.getD 0 0)),p7 bs,dZ (p7 bs),0,bs.drop 2⟩
       | true=>match cz ((bs.drop 2).getD 0 0) with
         | true=>.ok ⟨nN (bw (bs.getD 0 0)),p7 bs,dZ (p7 bs),bw ((bs.drop 2).getD 0 0),(bs.drop 2).drop 1⟩
         | false=>.bad dX
def RP.out:RP->Out
 | .bad k=>pxE k
 | .ok p=>⟨.tu [p.nv,.c .en],[]⟩
noncomputable def agS:au:=da [] [0] [] [] 0 UI
theorem aqe:Known prog GL 35 agS:=ap6.soft [] [0] [] [] 0
theorem o7 (k:Nat) (R:Out->Prop):(((Jv [0] (Bo [] (Ih k))).bind fun o=>Tr.ret ⟨(Jt [] [] o).res,(Jt [] [] o).rg.take 0⟩)).run R=R (pxE k):=by kernel_rfl
theorem MC (m r k c:Int) (ds:List Int) (R:Out->Prop):(((Jv [0] (Bo [] (oPk m r k c ds))).bind fun o=>Tr.ret ⟨(Jt [] [] o).res,(Jt [] [] o).rg.take 0⟩)).run R=(ds.length=ds.length∧R ⟨.tu [(⟨m,r,k,c,ds⟩:Px).nv,.c .en],[]⟩):=by kernel_rfl
noncomputable def aqf:au:=fun args I=>match args,I with
 | [.c (.l .u8 bs)],[]=>.ret (wq bs).out
 | [.c .sn],[]=>.ret (pxE fM)
 | _,_=>.fail
theorem GM {x:Bool} {p q:Prop} (h:match x with | true=>p | false=>q):af x p q:=by
 cases x with
 | true=>exact sT rfl h
 | false=>exact sF rfl h
theorem ava:Known prog GL 35 aqf:=by
 refine aqe.less fun args I R h=>?_
 unfold aqf at h
 unfold agS da
 rw [Tr.run_bind]
 split at h
 case h_3=>exact h.elim
 case h_2=>
  show (fun o=>_) (Ih fM)
  exact (o7 fM R).mpr h
 case h_1 bs=>
  show (Tr.br (decide (bs.length=42)) (GA (bs.getD 0 0) (bs.getD 1 0) (bs.drop 2)) (Tr.ret (Ih fM))).run _
  have h:R (wq bs).out:=h
  unfold wq at h
  refine GM ?_
  cases h1:decide (bs.length=42) with
  | false=>rw [h1] at h; exact (o7 fM R).mpr h
  | true=>
    rw [h1] at h
    unfold GA
    refine GM ?_
    cases h2:(cz (bs.getD 0 0)&&cz (bs.getD 1 0)) with
    | false=>rw [h2] at h; exact (o7 dX R).mpr h
    | true=>
      rw [h2] at h
      unfold p7 at h
      refine GM ?_
      cases h3:decide (dZ (rowOf (bw (bs.getD 0 0)) (bw (bs.getD 1 0)))=0) with
      | true=>rw [h3] at h; exact (o7 fN R).mpr h
      | false=>
        rw [h3] at h
        refine GM ?_
        cases h4:decide (rowOf (bw (bs.getD 0 0)) (bw (bs.getD 1 0)) >= 26) with
        | false=>rw [h4] at h; exact (MC _ _ _ _ _ R).mpr ⟨rfl,h⟩
        | true=>
          rw [h4] at h
          refine GM ?_
          cases h5:cz ((bs.drop 2).getD 0 0) with
          | true=>rw [h5] at h; exact (MC _ _ _ _ _ R).mpr ⟨rfl,h⟩
          | false=>rw [h5] at h; exact (o7 dX R).mpr h
end dec
namespace cH
open Go Go.Nx pk ac bR wX dec
structure Mv where
 TQ:Bool
 p:Pg
 h:Hx
 t:List Int
 bg:Bool
 rg:Int
 td:Bool
def mvZ:Mv:=⟨false,fO,hxZ,[],false,0,false⟩
def U2 (m:Mv):Mg:=⟨m.TQ,m.p,.lr K3 m.p.ex,⟨m.h.mg,m.h.pn,m.h.sb,m.h.rows,m.h.op⟩,.l .u8 m.t,m.bg,m.rg,m.td⟩
structure Ix where
 a:Int
 b:Int
 e:Int
 n:Int
 o:Int
 d:Int
 h:Int
 m:Int
 s:Int
 z:ByteArray
 td:Bool
def Ix.nc (i:Ix):List NC:=[.i .i64 i.a,.i .i64 i.b,.i .i64 i.e,.i .i64 i.n,.i .i64 i.o,.i .i64 i.d,.i .i64 i.h,.i .i64 i.m,.i .i64 i.s,.s i.z,.b i.td]
def ixZ:Ix:=⟨0,0,0,0,0,0,0,0,0,ByteArray.empty,false⟩
structure Mc where
 v:Nat->Mv
 inf:Ix
 st:Sp
def pH (v:Nat->Mv) (g:Nat) (m:Mv) (k:Nat):Mv:=match Nat.beq k g with
 | true=>m
 | false=>v k
theorem o9 (v:Nat->Mv) (g:Nat) (m:Mv):pH v g m g=m:=by unfold pH; rw [Nat.beq_refl]
theorem jM {v:Nat->Mv} {g k:Nat} {m:Mv} (h:k≠g):pH v g m k=v k:=by unfold pH; rw [show Nat.beq k g=false by rw [<- azu,Nat.beq_eq]; exact h]
noncomputable def Ii (r:Nat) (v:Nat->Mv) (inf:Ix):aG:=apl r (fun k=>U2 (v k)) inf.nc
noncomputable def stM (s:lC) (x:NC):aG:=Ma s.gA 2 x s.wi.1 s.wi.2.1 s.wi.2.2 s.pd
noncomputable def dO (M:Mc):List aG:=[Ii 1 M.v M.inf,stM M.st.bR (.hz 3 M.st.bR.l.length),eN M.st.bR.m,aY (aC M.st.bR.l)]
noncomputable def acq (M:Mc):List (Option aG):=[some (Ii 1 M.v M.inf),some (stM M.st.bR (.hz 8 M.st.bR.l.length)),some (eN M.st.bR.m),none,none,none,none,none,some (aY (aC M.st.bR.l))]
def jN (x:Sp):Sp:={x with L:=(gB x.L).map fun e=>ofRow e.2}
theorem iO (x:Sp):jN x=x:=by unfold jN; rw [P1]
noncomputable def aqg:FuncId->Option au:=aE [(124,tPu)]
theorem aqh:∀ f T,aqg f=some T->Known prog GL f T:=(aq.cons kPu.known .nil).get
noncomputable def agT:au:=fun args I=>aD prog GL aqg [] f78 args I
theorem aqi:bP prog GL 78 agT:=dp func78 rfl (by kernel_rfl) mixed aqh (by kernel_rfl)
noncomputable def qC (g:Nat):au:=da [] [] [] [(0,9 * g+5,0,.lr K3 [])] 9 (iM 8 [(1,2,aY [])] none agT)
theorem aqj (g:Nat):Known prog GL 78 (qC g):=(aqi.canon 8 [(1,2,aY [])] none).soft [] [] [] [(0,9 * g+5,0,.lr K3 [])] 9
def Mv.shut (m:Mv):Mv:={m with TQ:=false,p:=fO}
noncomputable def enT (M:Mc) (g:Nat) (R:Out->Prop):Prop:=
 af (M.v g).TQ (([NV.c (.p 0 0 0),.ag (dY (bA (M.v g).p)),fa (M.v g).p]=[NV.c (.p 0 0 0),.ag (dY (bA (M.v g).p)),fa (M.v g).p])∧(yP M.st=yP (jN M.st)∧(jN M.st).ok)∧(jN M.st).L.length<1000000∧
   R ⟨.tu [],acq {M with v:=pH M.v g (Mv.shut (M.v g)),st:=Sp.put (M.v g).p (jN M.st)}⟩)
  (R ⟨.tu [],acq M⟩)
theorem U3 (M:Mc) (R:Out->Prop):(qC 1 [.c (.p 0 0 0),.c (.i .i64 1)] (dO M)).run R=enT M 1 R:=by kernel_rfl
theorem U4 (M:Mc) (R:Out->Prop):(qC 2 [.c (.p 0 0 0),.c (.i .i64 2)] (dO M)).run R=enT M 2 R:=by kernel_rfl
theorem U5 (M:Mc) (R:Out->Prop):(qC 3 [.c (.p 0 0 0),.c (.i .i64 3)] (dO M)).run R=enT M 3 R:=by kernel_rfl
theorem U6 (M:Mc) (R:Out->Prop):(qC 4 [.c (.p 0 0 0),.c (.i .i64 4)] (dO M)).run R=enT M 4 R:=by kernel_rfl
theorem U7 (M:Mc) (R:Out->Prop):(qC 5 [.c (.p 0 0 0),.c (.i .i64 5)] (dO M)).run R=enT M 5 R:=by kernel_rfl
theorem U8 (M:Mc) (R:Out->Prop):(qC 6 [.c (.p 0 0 0),.c (.i .i64 6)] (dO M)).run R=enT M 6 R:=by kernel_rfl
theorem U9 (M:Mc) (R:Out->Prop):(qC 7 [.c (.p 0 0 0),.c (.i .i64 7)] (dO M)).run R=enT M 7 R:=by kernel_rfl
theorem U' (M:Mc) (R:Out->Prop):(qC 8 [.c (.p 0 0 0),.c (.i .i64 8)] (dO M)).run R=enT M 8 R:=by kernel_rfl
def eh (l:List bq) (i:Nat):List NC:=match l[i]? with
 | some (.cells xs)=>xs
 | _=>[]
def kU (l:List bq) (i:Nat):List (List Sc):=match l[i]? with
 | some (.aA _ _ xs)=>xs
 | _=>[]
def aqk (l:List bq) (i:Nat):List Int:=match l[i]? with
 | some (.ints _ _ xs)=>xs
 | _=>[]
def Du:Option NC->Int
 | some (.i _ n)=>n
 | _=>0
def ncB:Option NC->Bool
 | some (.b x)=>x
 | _=>false
def ncL:Option NC->List Int
 | some (.l _ xs)=>xs
 | _=>[]
def ncR:Option NC->List (List Sc)
 | some (.lr _ xs)=>xs
 | _=>[]
def ncS:Option NC->ByteArray
 | some (.s z)=>z
 | _=>ByteArray.empty
def Va (c:List (List Sc)) (k:Nat):Bool:=((c.getD k []).getD 0 (.i 0)).t
def Ao (l:List bq) (k o:Nat):Mv:=
 ⟨ncB (eh l (9 * k))[o]?,⟨Du (eh l (9 * k))[o+1]?,Du (eh l (9 * k))[o+2]?,Du (eh l (9 * k))[o+3]?,kU l (9 * k+1),Du (eh l (9 * k+2))[(0:Nat)]?,aqk l (9 * k+3),kU l (9 * k+4),ncR (eh l (9 * k+5))[(0:Nat)]?,kU l (9 * k+6),ncB (eh l (9 * k+7))[(0:Nat)]?,Du (eh l (9 * k+7))[(1:Nat)]?⟩,
  ⟨Du (eh l (9 * k+7))[(2:Nat)]?,Du (eh l (9 * k+7))[(3:Nat)]?,Du (eh l (9 * k+7))[(4:Nat)]?,Va (kU l (9 * k+8)) 0,Va (kU l (9 * k+8)) 1,Va (kU l (9 * k+8)) 2,Va (kU l (9 * k+8)) 3,Va (kU l (9 * k+8)) 4,Va (kU l (9 * k+8)) 5,Va (kU l (9 * k+8)) 6,Va (kU l (9 * k+8)) 7,Va (kU l (9 * k+8)) 8,Va (kU l (9 * k+8)) 9,Va (kU l (9 * k+8)) 10,Du (eh l (9 * k+9))[(0:Nat)]?⟩,
  ncL (eh l (9 * k+9))[(1:Nat)]?,ncB (eh l (9 * k+9))[(2:Nat)]?,Du (eh l (9 * k+9))[(3:Nat)]?,ncB (eh l (9 * k+9))[(4:Nat)]?⟩
def rdV (l:List bq):Nat->Mv
 | 0=>Ao l 0 1
 | 1=>Ao l 1 5
 | 2=>Ao l 2 5
 | 3=>Ao l 3 5
 | 4=>Ao l 4 5
 | 5=>Ao l 5 5
 | 6=>Ao l 6 5
 | 7=>Ao l 7 5
 | 8=>Ao l 8 5
 | _=>mvZ
def aql (l:List bq):Ix:=⟨Du (eh l 81)[(5:Nat)]?,Du (eh l 81)[(6:Nat)]?,Du (eh l 81)[(7:Nat)]?,Du (eh l 81)[(8:Nat)]?,Du (eh l 81)[(9:Nat)]?,Du (eh l 81)[(10:Nat)]?,Du (eh l 81)[(11:Nat)]?,Du (eh l 81)[(12:Nat)]?,Du (eh l 81)[(13:Nat)]?,ncS (eh l 81)[(14:Nat)]?,ncB (eh l 81)[(15:Nat)]?⟩
def acr:List aG->Option Mc
 | [⟨_,_,.sg l⟩,⟨_,_,.cells [.i _ gA,.m _,.hz _ _,.i _ a,.i _ b,.i _ c,.b pd]⟩,⟨_,_,.mp _ _ m⟩,⟨_,_,.aA _ _⟩]=>some ⟨rdV l,aql l,⟨gA,(a,b,c),pd,m.map fun e=>ofRow e.2⟩⟩
 | _=>none
def bk (M:Mc):Mc:=⟨rdV (C' 1 (fun k=>U2 (M.v k)) M.inf.nc),aql (C' 1 (fun k=>U2 (M.v k)) M.inf.nc),jN M.st⟩
def Mc.wu (M:Mc):Prop:=∀ k,9<=k->M.v k=mvZ
theorem ajT (M:Mc) (h:M.wu):rdV (C' 1 (fun k=>U2 (M.v k)) M.inf.nc)=M.v:=by
 funext k
 match k with
 | 0=>rfl
 | 1=>rfl
 | 2=>rfl
 | 3=>rfl
 | 4=>rfl
 | 5=>rfl
 | 6=>rfl
 | 7=>rfl
 | 8=>rfl
 | n+9=>exact (h (n+9) (by omega)).symm
theorem fm (M:Mc) (h:M.wu):bk M=M:=by
 unfold bk
 rw [ajT M h,iO]
 rfl
def Mc.ok (M:Mc):Prop:=M.wu∧M.st.ok
def Qf (I:List aG) (f:Mc->Tr Out):Tr Out:=
 match acr I with
 | some M=>.aF (I=dO M∧M.ok) (f M)
 | none=>.fail
theorem fo {I:List aG} {f:Mc->Tr Out} {R:Out->Prop} (h:(Qf I f).run R):∃ M,I=dO M∧M.ok∧(f M).run R:=by
 unfold Qf at h
 split at h
 ·exact ⟨_,h.1.1,h.1.2,h.2⟩
 ·exact h.elim
def Mc.pb (M:Mc) (g:Nat):Mc:=match (M.v g).TQ with
 | true=>{M with v:=pH M.v g (Mv.shut (M.v g)),st:=Sp.put (M.v g).p M.st}
 | false=>M
noncomputable def oEn (M:Mc):Out:=⟨.tu [],acq M⟩
noncomputable def tEn:au:=fun args I=>match args with
 | [.c (.p 0 0 0),.c (.i _ g)]=>Qf I fun M=>.aF (args=[.c (.p 0 0 0),.c (.i .i64 g)]∧(1<=g∧g<=8)∧M.st.L.length<1000000) (.ret (oEn (M.pb g.toNat)))
 | _=>.fail
theorem vM {M:Mc} {g:Nat} {R:Out->Prop} (hM:M.ok) (hl:M.st.L.length<1000000) (h:R (oEn (M.pb g))):enT M g R:=by
 unfold enT
 rw [iO]
 unfold Mc.pb at h
 cases ho:(M.v g).TQ with
 | true=>rw [ho] at h; exact sT rfl ⟨rfl,⟨rfl,hM.2⟩,hl,h⟩
 | false=>rw [ho] at h; exact sF rfl h
theorem GN {P:Program} {gl:List Nat} {f:FuncId} {T:Nat->au} {T' : au} (hk:∀ g,Known P gl f (T g)) (h:∀ args I R,(T' args I).run R->∃ g,(T g args I).run R):Known P gl f T':=
 ⟨(hk 0).qV,fun args I R hr=>by obtain ⟨g,hg⟩:=h args I R hr; exact (hk g).sound args I R hg⟩
attribute [local irreducible] qC in
theorem kEn:Known prog GL 78 tEn:=by
 refine GN aqj fun args I R h=>?_
 unfold tEn at h
 split at h
 case h_2=>exact h.elim
 rename_i g
 obtain ⟨M,rfl,hM,⟨h1,hg,hl⟩,h⟩:=fo h
 rw [h1]
 have hg:g=1∨g=2∨g=3∨g=4∨g=5∨g=6∨g=7∨g=8:=by omega
 rcases hg with rfl | rfl | rfl | rfl | rfl | rfl | rfl | rfl
 ·exact ⟨1,(U3 M R).mpr (vM hM hl h)⟩
 ·exact ⟨2,(U4 M R).mpr (vM hM hl h)⟩
 ·exact ⟨3,(U5 M R).mpr (vM hM hl h)⟩
 ·exact ⟨4,(U6 M R).mpr (vM hM hl h)⟩
 ·exact ⟨5,(U7 M R).mpr (vM hM hl h)⟩
 ·exact ⟨6,(U8 M R).mpr (vM hM hl h)⟩
 ·exact ⟨7,(U9 M R).mpr (vM hM hl h)⟩
 ·exact ⟨8,(U' M R).mpr (vM hM hl h)⟩
noncomputable def MD:au:=fun args I=>aD prog GL (fun _=>ay1) [] f79 args I
theorem acs:Known prog GL 79 MD:=ah func79 rfl (by kernel_rfl) mixed az (by kernel_rfl)
noncomputable abbrev Vb:=f36
noncomputable def ajU:FuncId->Option au:=aE [(77,tHr),(78,tEn),(79,MD),(54,tGe),(80,tNw)]
theorem agU:∀ f T,ajU f=some T->Known prog GL f T:=(aq.cons kHr (.cons kEn (.cons acs (.cons kGe (.cons kNw .nil))))).get
noncomputable def ajV:Cx:={P:=prog,con:=ajU,glob:=GL,m:=4,loops:=[]}
def aqm (p:Px):aG:=⟨5,99,.cells [.i .i64 p.mg,.i .i64 p.row,.i .i64 p.kd,.i .i64 p.cd,.l .u8 p.ds]⟩
def agV (h:Hx):aG:=⟨15,48,.cells h.nc⟩
noncomputable def rgA (j:Bool) (M:Mc):List (Option aG):=match j with
 | false=>[some (Ii 1 M.v M.inf),some (stM M.st.bR (.hz 3 M.st.bR.l.length)),some (eN M.st.bR.m),some (aY (aC M.st.bR.l))]
 | true=>[some (Ii 1 M.v M.inf),some (stM M.st.bR (.hz 4 M.st.bR.l.length)),some (eN M.st.bR.m),none,some (aY (aC M.st.bR.l))]
def wv (j:Bool):Nat:=match j with
 | false=>4
 | true=>5
noncomputable def wx (j:Bool) (M:Mc) (p:Px) (h:Hx) (t:List Int) (x:Nat) (i:Int):St:={fr:=frame 98 [(0,.v (.c (.p 0 0 0))),(3,.v (.c (.p (wv j) 0 0))),(5,.v (.c (.p (wv j+1) 0 0))),(6,.v (.c (.l .u8 t))),(8,.v (.c (.q 0 1 1081 x 0))),(9,.v (.c (.i .i64 i)))],rg:=rgA j M++[some (aqm p),some (agV h)]}
noncomputable def acu (j:Bool) (M:Mc) (h:Hx) (t:List Int) (x:Nat):St:={fr:=frame 98 [(0,.v (.c (.p 0 0 0))),(5,.v (.c (.p (wv j) 0 0))),(6,.v (.c (.l .u8 t))),(8,.v (.c (.q 0 1 1081 x 0)))],rg:=rgA j M++[some (agV h)]}
noncomputable def enN (M:Mc) (p:Px) (h:Hx) (t:List Int) (x:Nat) (i:Int) (R:RO->Prop):Prop:=
 (dO M=dO (bk M)∧(bk M).ok)∧([NV.c (.p 0 0 0),.c (.i .i64 i)]=[NV.c (.p 0 0 0),.c (.i .i64 i)]∧(1<=i∧i<=8)∧(bk M).st.L.length<1000000)∧R (.next (wx true ((bk M).pb i.toNat) p h t x (IntKind.i64.wrap (i+1))))
noncomputable def Vc (j:Bool) (M:Mc) (p:Px) (h:Hx) (t:List Int) (x:Nat) (i:Int) (R:RO->Prop):Prop:=
 af (decide (i<=8)) (af h.c7 (enN M p h t x i R) (af (i==p.mg) (enN M p h t x i R) (R (.next (wx j M p h t x (IntKind.i64.wrap (i+1))))))) (R (.done .normal (acu j M h t x)))
theorem Qg (M:Mc) (p:Px) (h:Hx) (t:List Int) (x:Nat) (i:Int) (R:RO->Prop):(bu ajV 0 [0,3,5,6,8,9] [0,5,6,8] (ae Vb 0) (wx false M p h t x i)).run R=Vc false M p h t x i R:=by kernel_rfl
theorem Qh (M:Mc) (p:Px) (h:Hx) (t:List Int) (x:Nat) (i:Int) (R:RO->Prop):(bu ajV 0 [0,3,5,6,8,9] [0,5,6,8] (ae Vb 0) (wx true M p h t x i)).run R=Vc true M p h t x i R:=by kernel_rfl
end cH
namespace bR
open Go Go.Nx pk ac
theorem acv {x:Sp} {k:Ky} (h:k∈x.L.map bA):x.vic k∈x.L.map bA:=by
 unfold Sp.vic rj
 cases hf:(x.L.map bA).find? (gM x.bR k) with
 | none=>exact h
 | some y=>exact azv hf
theorem acw {x:Sp} {k:Ky} (h:k∈x.L.map bA):(x.drop k).L.length<x.L.length:=by
 obtain ⟨p,hp,rfl⟩:=List.mem_map.1 h
 show (x.L.filter (nk (bA p))).length<x.L.length
 rw [List.length_filter_lt_length_iff_exists]
 refine ⟨p,hp,?_⟩
 unfold nk
 rw [fU.2 rfl]
 decide
theorem acx {x:Sp} {p:Pg} (hl:(x.L.length:Int)<=x.gA):((x.put p).L.length:Int)<=x.gA:=by
 have h1:=Gp x (bA p)
 have h2:((x.drop (bA p)).push p).L.length=(x.drop (bA p)).L.length+1:=by show ((x.drop (bA p)).L++[p]).length=_; rw [List.length_append]; rfl
 have hm:bA p∈((x.drop (bA p)).push p).L.map bA:=by
  show bA p∈((x.drop (bA p)).L++[p]).map bA
  rw [List.map_append]
  simp
 unfold Sp.put
 cases hc:decide ((((x.drop (bA p)).push p).L.length:Int)<=x.gA) with
 | true=>exact of_decide_eq_true hc
 | false=>
   have h3:=acw (acv (x:=(x.drop (bA p)).push p) hm)
   show ((((x.drop (bA p)).push p).drop (((x.drop (bA p)).push p).vic (bA p))).L.length:Int)<=x.gA
   omega
theorem yW (x:Sp) (p:Pg):(x.put p).gA=x.gA:=by
 unfold Sp.put
 split <;> rfl
theorem acy {x:Sp} {p q:Pg} (h:q∈(x.put p).L):q∈x.L∨q=p:=by
 have key:q∈((x.drop (bA p)).push p).L->q∈x.L∨q=p:=fun h=>by
  have h:q∈(x.drop (bA p)).L++[p]:=h
  rcases List.mem_append.1 h with h | h
  ·exact .inl (List.mem_filter.1 h).1
  ·exact .inr (List.mem_singleton.1 h)
 unfold Sp.put at h
 split at h
 ·exact key h
 ·exact key (List.mem_filter.1 h).1
end bR
namespace cH
open Go Go.Nx pk ac bR wX dec
def fits (p:Pg):Prop:=p.ex.length<=208
structure Mc.bM (M:Mc):Prop where
 wu:M.wu
 nd:(M.st.L.map bA).Nodup
 m1:1<=M.st.gA
 m8:M.st.gA<=800
 len:(M.st.L.length:Int)<=M.st.gA
 fit:∀ p∈M.st.L,fits p
 Ap:∀ k,fits (M.v k).p
 RQ:∀ k,(M.v k).t.length<=1000
theorem Mc.bM.ok {M:Mc} (h:M.bM):M.ok:=⟨h.wu,by have:=h.len; have:=h.m8; omega,h.nd⟩
theorem Mc.bM.lt {M:Mc} (h:M.bM):M.st.L.length<1000000:=by have:=h.len; have:=h.m8; omega
theorem Mc.bM.bk {M:Mc} (h:M.bM):bk M=M:=fm M h.wu
theorem rr:fits fO:=by unfold fits fO; decide
theorem Mc.bM.pH {M:Mc} (h:M.bM) {g:Nat} {m:Mv} (hg:g<9) (h1:fits m.p) (h2:m.t.length<=1000):Mc.bM {M with v:=pH M.v g m}:=by
 refine ⟨fun k hk=>?_,h.nd,h.m1,h.m8,h.len,h.fit,fun k=>?_,fun k=>?_⟩
 ·exact (jM (by omega)).trans (h.wu k hk)
 ·by_cases e:k=g
  ·subst e
   show fits (cH.pH M.v k m k).p
   rw [o9]; exact h1
  ·show fits (cH.pH M.v g m k).p
   rw [jM e]; exact h.Ap k
 ·by_cases e:k=g
  ·subst e
   show (cH.pH M.v k m k).t.length<=1000
   rw [o9]; exact h2
  ·show (cH.pH M.v g m k).t.length<=1000
   rw [jM e]; exact h.RQ k
theorem Mc.bM.put {M:Mc} (h:M.bM) {p:Pg} (hp:fits p):Mc.bM {M with st:=M.st.put p}:=by
 refine ⟨h.wu,P3 h.nd,?_,?_,?_,fun q hq=>?_,h.Ap,h.RQ⟩
 ·show 1<=(M.st.put p).gA
  rw [yW]; exact h.m1
 ·show (M.st.put p).gA<=800
  rw [yW]; exact h.m8
 ·show ((M.st.put p).L.length:Int)<=(M.st.put p).gA
  rw [yW]; exact acx h.len
 ·rcases acy hq with h1 | rfl
  ·exact h.fit q h1
  ·exact hp
theorem Mc.bM.pb {M:Mc} (h:M.bM) {g:Nat} (hg:g<9):(M.pb g).bM:=by
 unfold Mc.pb
 split
 ·exact (h.put (h.Ap g)).pH hg rr (h.RQ g)
 ·exact h
def Mc.ends (c:Bool) (g:Int):Nat->Nat->Mc->Mc
 | 0,_,M=>M
 | n+1,i,M=>Mc.ends c g n (i+1) (match c||(i:Int)==g with
   | true=>M.pb i
   | false=>M)
def Vd (c:Bool) (g:Int):Nat->Nat->Bool->Bool
 | 0,_,j=>j
 | n+1,i,j=>Vd c g n (i+1) (match c||(i:Int)==g with
   | true=>true
   | false=>j)
theorem Ve {c:Bool} {g:Int} (h:1<=g∧g<=8):Vd c g 8 1 false=true:=by
 have hg:g=1∨g=2∨g=3∨g=4∨g=5∨g=6∨g=7∨g=8:=by omega
 rcases hg with rfl | rfl | rfl | rfl | rfl | rfl | rfl | rfl <;> cases c <;> rfl
theorem uz {c:Bool} {g:Int}:∀ (n i:Nat) (M:Mc),i+n<=9->M.bM->(Mc.ends c g n i M).bM
 | 0,_,_,_,h=>h
 | n+1,i,M,hi,h=>by
   unfold Mc.ends
   refine uz n (i+1) _ (by omega) ?_
   split
   ·exact h.pb (by omega)
   ·exact h
structure AH where
 j:Bool
 M:Mc
 p:Px
 h:Hx
 t:List Int
 x:Nat
 i:Nat
def aqn (y:AH) (R:aj × St->Prop):Prop:=((1<=y.i∧y.i<=9)∧y.M.bM)∧R (.normal,acu (Vd y.h.c7 y.p.mg (9 - y.i) y.i y.j) (Mc.ends y.h.c7 y.p.mg (9 - y.i) y.i y.M) y.h y.t y.x)
def avb:aG->Option Px
 | ⟨_,_,.cells [.i _ a,.i _ b,.i _ c,.i _ d,.l _ ds]⟩=>some ⟨a,b,c,d,ds⟩
 | _=>none
def avc:aG->Option Hx
 | ⟨_,_,.cells xs⟩=>ap3 xs
 | _=>none
def rdH (s:St):Option (Mc × Px × Hx × List Int × Nat):=match s.fr[(6:Nat)]?,s.fr[(8:Nat)]?,s.rg with
 | some (.v (.c (.l _ t))),some (.v (.c (.q 0 1 1081 x 0))),[some g0,some g1,some g2,some g3,some q,some r]=>(match acr [g0,g1,g2,g3],avb q,avc r with
   | some M,some p,some h=>some (M,p,h,t,x)
   | _,_,_=>none)
 | _,_,_=>none
noncomputable def ajW (s:St):Tr (aj × St):=match rdH s with
 | some (M,p,h,t,x)=>.aF (s=wx false M p h t x 1∧M.bM∧1<=p.mg∧p.mg<=8) (.ret (.normal,acu true (Mc.ends h.c7 p.mg 8 1 M) h t x))
 | none=>.fail
theorem Vf {M:Mc} {p:Px} {h:Hx} {t:List Int} {x i:Nat} {R:RO->Prop} (hM:M.bM) (h1:1<=i) (h8:i<=8) (hR:R (.next (wx true (M.pb i) p h t x ((i+1:Nat):Int)))):enN M p h t x i R:=by
 unfold enN
 rw [hM.bk,azd,show IntKind.i64.wrap ((i:Int)+1)=((i+1:Nat):Int) by rw [ay']; omega]
 exact ⟨⟨rfl,hM.ok⟩,⟨rfl,by omega,hM.lt⟩,hR⟩
theorem acz {j:Bool} {M:Mc} {p:Px} {h:Hx} {t:List Int} {x i:Nat} {R:RO->Prop} (hM:M.bM) (h1:1<=i) (h9:i<=9)
  (hn:i<=8->(h.c7||(i:Int)==p.mg)=true->R (.next (wx true (M.pb i) p h t x ((i+1:Nat):Int)))) (ho:i<=8->(h.c7||(i:Int)==p.mg)=false->R (.next (wx j M p h t x ((i+1:Nat):Int))))
  (hd:i=9->R (.done .normal (acu j M h t x))):Vc j M p h t x i R:=by
 unfold Vc
 by_cases h8:i<=8
 ·refine sT (axv (by omega)) ?_
  rw [show IntKind.i64.wrap ((i:Int)+1)=((i+1:Nat):Int) by rw [ay']; omega]
  cases h7:h.c7 with
  | true=>exact sT rfl (Vf hM h1 h8 (hn h8 (by rw [h7]; rfl)))
  | false=>
    refine sF rfl ?_
    cases hg:((i:Int)==p.mg) with
    | true=>exact sT rfl (Vf hM h1 h8 (hn h8 (by rw [h7,hg]; rfl)))
    | false=>exact sF rfl (ho h8 (by rw [h7,hg]; rfl))
 ·exact sF (axw (by omega)) (hd (by omega))
attribute [local irreducible] bu in
theorem acA:jL prog GL 4 0 (ae Vb 0) ajW:=by
 refine cf (X:=ajV) agU mixed (aM.none (by kernel_rfl)) [0,3,5,6,8,9] [0,5,6,8] (fun y:AH=>wx y.j y.M y.p y.h y.t y.x y.i) (fun y=>9 - y.i) aqn ?_ ?_
 ·intro s R hh
  unfold ajW at hh
  split at hh
  case h_2=>exact hh.elim
  rename_i M p h t x hrd
  obtain ⟨⟨hs,hM,hg⟩,hR⟩:=hh
  refine ⟨⟨false,M,p,h,t,x,1⟩,hs,⟨⟨Nat.le_refl _,by show 1<=9; omega⟩,hM⟩,?_⟩
  simp only
  rw [Ve hg]
  exact hR
 ·intro y R hh
  obtain ⟨j,M,p,h,t,x,i⟩:=y
  obtain ⟨⟨⟨h1,h9⟩,hM⟩,hR⟩:=hh
  simp only at h1 h9 hM hR
  have key:Vc j M p h t x i fun o=>match o with
     | .next s=>∃ b:AH,s=wx b.j b.M b.p b.h b.t b.x b.i∧9 - b.i<9 - i∧aqn b R
     | .done e s=>R (e,s):=by
   refine acz hM h1 h9 (fun h8 hc=>?_) (fun h8 hc=>?_) fun he=>?_
   ·have e:9 - i=(9 - (i+1))+1:=by omega
    rw [e] at hR
    simp only [Vd,Mc.ends,hc] at hR
    exact ⟨⟨true,M.pb i,p,h,t,x,i+1⟩,rfl,by simp only; omega,⟨⟨by simp only; omega,by simp only; omega⟩,hM.pb (by omega)⟩,hR⟩
   ·have e:9 - i=(9 - (i+1))+1:=by omega
    rw [e] at hR
    simp only [Vd,Mc.ends,hc] at hR
    exact ⟨⟨j,M,p,h,t,x,i+1⟩,rfl,by simp only; omega,⟨⟨by simp only; omega,by simp only; omega⟩,hM⟩,hR⟩
   ·subst he
    exact hR
  cases j with
  | false=>exact Tr.aN _ (fun o ho=>ho) (aJ.of_eq (Qg M p h t x i _) key).out
  | true=>exact Tr.aN _ (fun o ho=>ho) (aJ.of_eq (Qh M p h t x i _) key).out
noncomputable def agW:au:=fun args I=>if I.length=4 then aD prog GL ajU [(0,[0,3,5,6,8,9],ajW)] Vb args I else .fail
theorem aqo:bP prog GL 36 agW:=sK 4 func36 rfl (by kernel_rfl) mixed agU (aM.one (id:=0) (body:=ae Vb 0) (by kernel_rfl) rfl acA)
noncomputable def qD:au:=da [] [] [] [] 9 (iM 8 [(1,2,aY [])] none agW)
theorem aqp:Known prog GL 36 qD:=(aqo.canon 8 [(1,2,aY [])] none).soft [] [] [] [] 9
def Mc.iP (M:Mc) (g:Nat) (h:Hx) (t:List Int):Mc:={M with v:=pH M.v g {M.v g with h:=h,t:=t,bg:=true}}
noncomputable def Vg (x:Sp) (h:Hx) (t:List Int):Pg:=P9 h t (x.get (h.mg,h.pn,h.sb)).1 (x.get (h.mg,h.pn,h.sb)).2
def Mc.set (M:Mc) (g:Nat) (p:Pg):Mc:={M with v:=pH M.v g {M.v g with TQ:=true,p:=p}}
noncomputable def ki (M:Mc) (e:NC):Out:=⟨.v (.c e),acq M⟩
noncomputable def ajX (M2:Mc) (g:Nat) (h:Hx) (t:List Int) (R:Out->Prop):Prop:=
 af (h.pn==255) (R (ki M2 .en))
  ((yP M2.st=yP (jN M2.st)∧(jN M2.st).ok)∧(some (stM M2.st.bR (.hz 4 M2.st.bR.l.length))=some (stM (jN M2.st).bR (.hz 4 (jN M2.st).bR.l.length)))∧(some (eN M2.st.bR.m)=some (eN (jN M2.st).bR.m))∧(some (aY (aC M2.st.bR.l))=some (aY (aC (jN M2.st).bR.l)))∧([NV.ag h.nc,.c (.l .u8 t),fa ((jN M2.st).get (h.mg,h.pn,h.sb)).1,.c (.b ((jN M2.st).get (h.mg,h.pn,h.sb)).2)]=[NV.ag h.nc,.c (.l .u8 t),fa ((jN M2.st).get (h.mg,h.pn,h.sb)).1,.c (.b ((jN M2.st).get (h.mg,h.pn,h.sb)).2)]∧((jN M2.st).get (h.mg,h.pn,h.sb)).1.ex.length<=1000000∧t.length<=1000000∧∀ b∈t,0<=b∧b<256)∧
    af (M2.v g).td (af ((Vg (jN M2.st) h t).df==0) (R (ki (M2.set g {Vg (jN M2.st) h t with df:=IntKind.i64.wrap (1+(M2.v g).rg)}) .en)) (R (ki (M2.set g (Vg (jN M2.st) h t)) .en))) (R (ki (M2.set g (Vg (jN M2.st) h t)) .en)))
noncomputable def Bu (M:Mc) (g:Nat) (row cd:Int) (ds:List Int) (R:Out->Prop):Prop:=
 ([(⟨(g:Int),row,1,cd,ds⟩:Px).nv]=[(⟨(g:Int),row,1,cd,ds⟩:Px).nv]∧ds.length=40)∧af (rq ds)
   ((wx false (M.iP g (wo g ds) (nC ds)) ⟨g,row,1,cd,ds⟩ (wo g ds) (nC ds) g 1=wx false (bk (M.iP g (wo g ds) (nC ds))) ⟨g,row,1,cd,ds⟩ (wo g ds) (nC ds) g 1∧(bk (M.iP g (wo g ds) (nC ds))).bM∧1<=(g:Int)∧(g:Int)<=8)∧
     ajX (Mc.ends (wo g ds).c7 g 8 1 (bk (M.iP g (wo g ds) (nC ds)))) g (wo g ds) (nC ds) R)
   (R (ki M (.e dX)))
theorem Vh (M:Mc) (row cd:Int) (ds:List Int) (R:Out->Prop):(qD [.c (.p 0 0 0),(⟨1,row,1,cd,ds⟩:Px).nv] (dO M)).run R=Bu M 1 row cd ds R:=by kernel_rfl
theorem Vi (M:Mc) (row cd:Int) (ds:List Int) (R:Out->Prop):(qD [.c (.p 0 0 0),(⟨2,row,1,cd,ds⟩:Px).nv] (dO M)).run R=Bu M 2 row cd ds R:=by kernel_rfl
theorem Vj (M:Mc) (row cd:Int) (ds:List Int) (R:Out->Prop):(qD [.c (.p 0 0 0),(⟨3,row,1,cd,ds⟩:Px).nv] (dO M)).run R=Bu M 3 row cd ds R:=by kernel_rfl
theorem Vk (M:Mc) (row cd:Int) (ds:List Int) (R:Out->Prop):(qD [.c (.p 0 0 0),(⟨4,row,1,cd,ds⟩:Px).nv] (dO M)).run R=Bu M 4 row cd ds R:=by kernel_rfl
theorem Vl (M:Mc) (row cd:Int) (ds:List Int) (R:Out->Prop):(qD [.c (.p 0 0 0),(⟨5,row,1,cd,ds⟩:Px).nv] (dO M)).run R=Bu M 5 row cd ds R:=by kernel_rfl
theorem Vm (M:Mc) (row cd:Int) (ds:List Int) (R:Out->Prop):(qD [.c (.p 0 0 0),(⟨6,row,1,cd,ds⟩:Px).nv] (dO M)).run R=Bu M 6 row cd ds R:=by kernel_rfl
theorem Vn (M:Mc) (row cd:Int) (ds:List Int) (R:Out->Prop):(qD [.c (.p 0 0 0),(⟨7,row,1,cd,ds⟩:Px).nv] (dO M)).run R=Bu M 7 row cd ds R:=by kernel_rfl
theorem Vo (M:Mc) (row cd:Int) (ds:List Int) (R:Out->Prop):(qD [.c (.p 0 0 0),(⟨8,row,1,cd,ds⟩:Px).nv] (dO M)).run R=Bu M 8 row cd ds R:=by kernel_rfl
end cH
namespace cH
open Go Go.Nx pk ac bR wX dec hd
theorem Bv {ds:List Int} {f:Nat} {b:Int}:∀ (k:Nat) (xs:List Int),b∈iu ds f 0 k xs->∃ j,b=ds.getD j 0
 | _,[],h=>by cases h
 | k,x::xs,h=>by
   have h:b∈(match azr k 0 with | true=>x | false=>ds.getD (f+k) 0)::iu ds f 0 (k+1) xs:=h
   rcases List.mem_cons.1 h with h | h
   ·rw [show azr k 0=false by rw [<- azu,azt]; omega] at h
    exact ⟨f+k,h⟩
   ·exact Bv (k+1) xs h
theorem acB {ds:List Int} (h:∀ b∈ds,0<=b∧b<256) (j:Nat):0<=ds.getD j 0∧ds.getD j 0<256:=by
 rw [axF]
 cases e:ds[j]? with
 | none=>exact ⟨by decide,by decide⟩
 | some x=>exact h x (ayB e)
theorem Vp {ds:List Int} (h:∀ b∈ds,0<=b∧b<256):∀ b∈dec.nC ds,0<=b∧b<256:=fun b hb=>by
 obtain ⟨j,rfl⟩:=Bv 0 _ hb
 exact acB h j
theorem wZ (ds:List Int):(dec.nC ds).length=32:=by
 unfold dec.nC
 rw [vL]
 rfl
theorem yX {x:Sp} (h:∀ p∈x.L,fits p) (k:Ky):fits (x.get k).1:=by
 unfold Sp.get
 split
 ·rename_i p hp
  exact h p (azv hp)
 ·exact rr
theorem acC (h:Hx) (t:List Int) (p:Pg) (eL:Bool):(P9 h t p eL).ex=(match eL&&!h.c0 with | true=>p | false=>fO).ex:=rfl
theorem Vq {x:Sp} (hx:∀ p∈x.L,fits p) (h:Hx) (t:List Int):fits (Vg x h t):=by
 unfold fits Vg
 rw [acC]
 split
 ·exact yX hx _
 ·exact rr
theorem Mc.bM.set {M:Mc} (h:M.bM) {g:Nat} (hg:g<9) {p:Pg} (hp:fits p):(M.set g p).bM:=h.pH hg hp (h.RQ g)
theorem Mc.bM.iP {M:Mc} (h:M.bM) {g:Nat} (hg:g<9) {hx:Hx} {t:List Int} (ht:t.length<=1000):(M.iP g hx t).bM:=h.pH hg (h.Ap g) ht
def dfP (m:Mv) (p:Pg):Pg:=match m.td&&(p.df==0) with
 | true=>{p with df:=IntKind.i64.wrap (1+m.rg)}
 | false=>p
theorem Vr {m:Mv} {p:Pg} (h:fits p):fits (dfP m p):=by
 unfold dfP
 split <;> exact h
noncomputable def Mc.Bw (M2:Mc) (g:Nat) (h:Hx) (t:List Int):Mc:=match h.pn==255 with
 | true=>M2
 | false=>M2.set g (dfP (M2.v g) (Vg M2.st h t))
noncomputable def Mc.Qi (M:Mc) (g:Nat) (ds:List Int):Mc:=Mc.Bw (Mc.ends (wo g ds).c7 g 8 1 (M.iP g (wo g ds) (dec.nC ds))) g (wo g ds) (dec.nC ds)
theorem Vs {M:Mc} (h:M.bM) {g:Nat} (hg:1<=g∧g<=8) (ds:List Int):(M.Qi g ds).bM:=by
 have h1:(Mc.ends (wo g ds).c7 g 8 1 (M.iP g (wo g ds) (dec.nC ds))).bM:=uz 8 1 _ (by omega) (h.iP (by omega) (by rw [wZ]; omega))
 unfold Mc.Qi Mc.Bw
 split
 ·exact h1
 ·exact h1.set (by omega) (Vr (Vq h1.fit _ _))
theorem acD {M2:Mc} {g:Nat} {h:Hx} {t:List Int} {R:Out->Prop} (hM:M2.bM) (ht:t.length<=1000) (hb:∀ b∈t,0<=b∧b<256) (hR:R (ki (Mc.Bw M2 g h t) .en)):ajX M2 g h t R:=by
 unfold ajX
 rw [iO]
 unfold Mc.Bw at hR
 cases hc:(h.pn==255) with
 | true=>rw [hc] at hR; exact sT rfl hR
 | false=>
   rw [hc] at hR
   have hf:=yX hM.fit (h.mg,h.pn,h.sb)
   unfold fits at hf
   refine sF rfl ⟨⟨rfl,hM.ok.2⟩,rfl,rfl,rfl,⟨rfl,by omega,by omega,hb⟩,?_⟩
   have hR:R (ki (M2.set g (dfP (M2.v g) (Vg M2.st h t))) .en):=hR
   unfold dfP at hR
   cases ht:(M2.v g).td with
   | false=>rw [ht] at hR; exact sF rfl hR
   | true=>
     rw [ht] at hR
     refine sT rfl ?_
     cases hd:((Vg M2.st h t).df==0) with
     | true=>rw [hd] at hR; exact sT rfl hR
     | false=>rw [hd] at hR; exact sF rfl hR
theorem pf {M:Mc} {g:Nat} {row cd:Int} {ds:List Int} {R:Out->Prop} (hM:M.bM) (hg:1<=g∧g<=8) (hl:ds.length=40) (hb:∀ b∈ds,0<=b∧b<256) (hR:af (rq ds) (R (ki (M.Qi g ds) .en)) (R (ki M (.e dX)))):Bu M g row cd ds R:=by
 unfold Bu
 refine ⟨⟨rfl,hl⟩,?_⟩
 have h1:(M.iP g (wo g ds) (dec.nC ds)).bM:=hM.iP (by omega) (by rw [wZ]; omega)
 rcases aW.1 hR with ⟨c,hR⟩ | ⟨c,hR⟩
 ·refine sT c ?_
  rw [h1.bk]
  exact ⟨⟨rfl,h1,by omega,by omega⟩,acD (uz 8 1 _ (by omega) h1) (by rw [wZ]; omega) (Vp hb) hR⟩
 ·exact sF c hR
noncomputable def tHd:au:=fun args I=>match args with
 | [.c (.p 0 0 0),.ag [.i _ g,.i _ row,.i _ _,.i _ cd,.l _ ds]]=>Qf I fun M=>.aF (args=[.c (.p 0 0 0),(⟨g,row,1,cd,ds⟩:Px).nv]∧(1<=g∧g<=8)∧M.bM∧ds.length=40∧∀ b∈ds,0<=b∧b<256) (.br (rq ds) (.ret (ki (M.Qi g.toNat ds) .en)) (.ret (ki M (.e dX))))
 | _=>.fail
attribute [local irreducible] qD in
theorem kHd:Known prog GL 36 tHd:=by
 refine aqp.less fun args I R h=>?_
 unfold tHd at h
 split at h
 case h_2=>exact h.elim
 rename_i _ g _ row _ _ _ cd _ ds
 obtain ⟨M,rfl,hM,⟨h1,hg,CX,hl,hb⟩,h⟩:=fo h
 rw [h1]
 have hg:g=1∨g=2∨g=3∨g=4∨g=5∨g=6∨g=7∨g=8:=by omega
 rcases hg with rfl | rfl | rfl | rfl | rfl | rfl | rfl | rfl
 ·exact (Vh M row cd ds R).mpr (pf CX (by omega) hl hb h)
 ·exact (Vi M row cd ds R).mpr (pf CX (by omega) hl hb h)
 ·exact (Vj M row cd ds R).mpr (pf CX (by omega) hl hb h)
 ·exact (Vk M row cd ds R).mpr (pf CX (by omega) hl hb h)
 ·exact (Vl M row cd ds R).mpr (pf CX (by omega) hl hb h)
 ·exact (Vm M row cd ds R).mpr (pf CX (by omega) hl hb h)
 ·exact (Vn M row cd ds R).mpr (pf CX (by omega) hl hb h)
 ·exact (Vo M row cd ds R).mpr (pf CX (by omega) hl hb h)
end cH
namespace cH
open Go Go.Nx pk ac bR wX dec
def KI:Nat:=1000
def GO:Code->Array Tmp
 | .rangeFunc _ ps _ _=>ps
 | _=>#[]
def GP:Code->Code
 | .rangeFunc _ _ a _=>a
 | _=>.skip
def GQ:Code->Code
 | .rangeFunc _ _ _ b=>b
 | _=>.skip
noncomputable def agX:au:=fun args I=>aD prog GL (fun _=>ay1) [] f56 args I
theorem aqq:Known prog GL 56 agX:=ah func56 rfl (by kernel_rfl) mixed az (by kernel_rfl)
noncomputable abbrev Vt:=f104
noncomputable def cIt:FuncId->Option au:=aE [(53,tKe)]
theorem acE:∀ f T,cIt f=some T->Known prog GL f T:=(aq.cons kKe.known .nil).get
noncomputable abbrev Vu:=f18
noncomputable def Ij:Code:=EN Vu 0
end cH
namespace j9
open Go Go.Nx
theorem mixed:prog.follows .mixedOrders=true:=by kernel_rfl
noncomputable def qE:au:=fun args I=>aD prog [] (fun _=>ay1) [] f176 args I
theorem yY:Known prog [] 176 qE:=ah func176 rfl (by kernel_rfl) mixed az (by kernel_rfl)
def cJ {m:Nat} (v:BitVec m):Nat->Bool
 | 0=>false
 | n+1=>cJ v n ^^ v.getLsbD n
theorem Bx {m:Nat} (v w:BitVec m) (n:Nat):cJ (v ^^^ w) n=(cJ v n ^^ cJ w n):=by
 induction n with
 | zero=>rfl
 | succ n ih=>
   simp only [cJ,ih,azw]
   cases cJ v n <;> cases cJ w n <;> cases v.getLsbD n <;> cases w.getLsbD n <;> rfl
def ll (x:Nat):Nat->Nat
 | 0=>0
 | n+1=>ll x n+(x / 2 ^ n) % 2
noncomputable def ij:ByteArray:=⟨((axy 256).map fun i=>UInt8.ofNat (ll i 8)).toArray⟩
noncomputable def pop (w:Int):Int:=IntKind.i64.wrap (IntKind.u8.wrap (IntKind.u8.wrap (IntKind.u8.wrap (cA ij (aX .u32 w 24).toNat+cA ij (bits .and .u32 (aX .u32 w 16) 255).toNat)+cA ij (bits .and .u32 (aX .u32 w 8) 255).toNat)+cA ij (bits .and .u32 w 255).toNat))
theorem uA (w:Int) (R:Out->Prop):(qE [.c (.i .u32 w)] []).run R =
  af (decide (0<=aX .u32 w 24)) (af (decide (aX .u32 w 24<(ij.size:Int)))
   (af (decide (0<=bits .and .u32 (aX .u32 w 16) 255)) (af (decide (bits .and .u32 (aX .u32 w 16) 255<(ij.size:Int)))
    (af (decide (0<=bits .and .u32 (aX .u32 w 8) 255)) (af (decide (bits .and .u32 (aX .u32 w 8) 255<(ij.size:Int)))
     (af (decide (0<=bits .and .u32 w 255)) (af (decide (bits .and .u32 w 255<(ij.size:Int)))
      (R ⟨.v (.c (.i .i64 (pop w))),[]⟩) False) False) False) False) False) False) False) False:=by
 kernel_rfl
def ru (x:Nat):Nat->Bool
 | 0=>false
 | n+1=>ru x n ^^ x.testBit n
theorem yZ (x:Nat):∀ n,ll x n % 2=(ru x n).toNat
 | 0=>rfl
 | n+1=>by
   have ih:=yZ x n
   simp only [ll,ru,Nat.testBit_eq_decide_div_mod_eq]
   cases h:ru x n <;> rw [h] at ih <;> by_cases h2:x / 2 ^ n % 2=1 <;> simp [h2,Bool.toNat] at ih ⊢ <;> omega
theorem Dw:∀ i<256,cA ij i=(ll i 8:Int):=by decide +kernel
theorem GR (x:Nat):∀ n,ll x n<=n
 | 0=>Nat.le_refl _
 | n+1=>by have:=GR x n; simp only [ll]; omega
theorem Vv (v:BitVec 32):pop (u32 v)=((ll (v >>> 24).toNat 8+ll ((v >>> 16) &&& 255#32).toNat 8+ll ((v >>> 8) &&& 255#32).toNat 8+ll (v &&& 255#32).toNat 8:Nat):Int):=by
 have s24:aX .u32 (u32 v) 24=u32 (v >>> 24):=jG v 24 (by decide)
 have s16:aX .u32 (u32 v) 16=u32 (v >>> 16):=jG v 16 (by decide)
 have s8:aX .u32 (u32 v) 8=u32 (v >>> 8):=jG v 8 (by decide)
 have an:∀ x:BitVec 32,bits .and .u32 (u32 x) 255=u32 (x &&& 255#32):=fun x=>by
  rw [l0,mb,Nx.ofInt_u32]; simp
 have lt:∀ x:BitVec 32,(x &&& 255#32).toNat<256:=fun x=>by
  rw [BitVec.toNat_and]
  exact Nat.lt_of_le_of_lt Nat.and_le_right (by decide)
 have ajY:(v >>> 24).toNat<256:=by
  rw [BitVec.toNat_ushiftRight,Nat.shiftRight_eq_div_pow]
  have:=v.isLt
  omega
 have un:∀ x:BitVec 32,(u32 x).toNat=x.toNat:=fun x=>by simp [u32]
 unfold pop
 rw [s24,s16,s8,an,an,an,un,un,un,un,Dw _ ajY,Dw _ (lt _),Dw _ (lt _),Dw _ (lt _)]
 have h1:=GR (v >>> 24).toNat 8
 have h2:=GR ((v >>> 16) &&& 255#32).toNat 8
 have h3:=GR ((v >>> 8) &&& 255#32).toNat 8
 have h4:=GR (v &&& 255#32).toNat 8
 rw [azf,azf,azf,ay']
 omega
theorem s6 {m:Nat} (x:Nat) (v:BitVec m) (k:Nat):∀ n,(∀ i<n,x.testBit i=v.getLsbD (k+i))->cJ v (k+n)=(cJ v k ^^ ru x n)
 | 0,_=>by simp [ru]
 | n+1,h=>by
   have ih:=s6 x v k n fun i hi=>h i (by omega)
   show cJ v (k+n+1)=_
   simp only [cJ,ru,ih,h n (by omega),Bool.xor_assoc]
theorem acF (v:BitVec 32):pop (u32 v) % 2=((cJ v 32).toNat:Int):=by
 have b3:∀ i<8,(v >>> 24).toNat.testBit i=v.getLsbD (24+i):=fun i hi=>by
  rw [azx,azy]
 have bb:∀ k,∀ i<8,((v >>> k) &&& 255#32).toNat.testBit i=v.getLsbD (k+i):=fun k i hi=>by
  rw [azx,azz,azy]
  have:(255#32).getLsbD i=true:=by
   match i,hi with
   | 0,_=>rfl
   | 1,_=>rfl
   | 2,_=>rfl
   | 3,_=>rfl
   | 4,_=>rfl
   | 5,_=>rfl
   | 6,_=>rfl
   | 7,_=>rfl
  rw [this,Bool.and_true]
 have b0:∀ i<8,(v &&& 255#32).toNat.testBit i=v.getLsbD (0+i):=fun i hi=>by
  have:=bb 0 i hi
  simpa using this
 have e8:=s6 _ v 0 8 b0
 have lq:=s6 _ v 8 8 (bb 8)
 have e24:=s6 _ v 16 8 (bb 16)
 have e32:=s6 _ v 24 8 b3
 have z:cJ v 0=false:=rfl
 rw [z,Bool.false_xor] at e8
 have p0:=yZ (v &&& 255#32).toNat 8
 have p1:=yZ ((v >>> 8) &&& 255#32).toNat 8
 have p2:=yZ ((v >>> 16) &&& 255#32).toNat 8
 have p3:=yZ (v >>> 24).toNat 8
 have h32:cJ v 32=((((ru (v &&& 255#32).toNat 8) ^^ (ru ((v >>> 8) &&& 255#32).toNat 8)) ^^ (ru ((v >>> 16) &&& 255#32).toNat 8)) ^^ (ru (v >>> 24).toNat 8)):=by
  rw [<- e8,<- lq,<- e24]; exact e32
 rw [Vv,h32]
 generalize ru (v &&& 255#32).toNat 8=q0 at *
 generalize ru ((v >>> 8) &&& 255#32).toNat 8=q1 at *
 generalize ru ((v >>> 16) &&& 255#32).toNat 8=q2 at *
 generalize ru (v >>> 24).toNat 8=q3 at *
 generalize ll (v &&& 255#32).toNat 8=c0 at *
 generalize ll ((v >>> 8) &&& 255#32).toNat 8=c1 at *
 generalize ll ((v >>> 16) &&& 255#32).toNat 8=c2 at *
 generalize ll (v >>> 24).toNat 8=c3 at *
 cases q0 <;> cases q1 <;> cases q2 <;> cases q3 <;> simp only [Bool.toNat_true,Bool.toNat_false] at p0 p1 p2 p3 <;> simp <;> omega
theorem w4 {x:BitVec 32} (hx:x.toNat<256) {A:Prop} (hA:A):af (decide (0<=u32 x)) (af (decide (u32 x<256)) A False) False:=by
 have h0:decide (0<=u32 x)=true:=by simp [u32]
 have h1:decide (u32 x<256)=true:=by
  rw [decide_eq_true_eq]
  unfold u32
  omega
 rw [h0,h1]
 exact hA
noncomputable def Jo:au:=fun args I=>match args,I with
 | [.c (.i .u32 w)],[]=>.aF (0<=w∧w<4294967296) (.ret ⟨.v (.c (.i .i64 (pop w))),[]⟩)
 | _,_=>.fail
theorem ai5:Known prog [] 176 Jo:=by
 refine yY.less fun args I R h=>?_
 unfold Jo at h
 split at h
 case h_2=>exact h.elim
 rename_i w
 obtain ⟨⟨h0,h1⟩,hR⟩:=h
 rw [uA]
 have hw:=abB h0 h1
 generalize ay7 32 w=v at hw
 subst hw
 have s24:aX .u32 (u32 v) 24=u32 (v >>> 24):=jG v 24 (by decide)
 have s16:aX .u32 (u32 v) 16=u32 (v >>> 16):=jG v 16 (by decide)
 have s8:aX .u32 (u32 v) 8=u32 (v >>> 8):=jG v 8 (by decide)
 have an:∀ x:BitVec 32,bits .and .u32 (u32 x) 255=u32 (x &&& 255#32):=fun x=>by
  rw [l0,mb,Nx.ofInt_u32]; simp
 have lt:∀ x:BitVec 32,(x &&& 255#32).toNat<256:=fun x=>by
  rw [BitVec.toNat_and]
  exact Nat.lt_of_le_of_lt Nat.and_le_right (by decide)
 have ajY:(v >>> 24).toNat<256:=by
  rw [BitVec.toNat_ushiftRight,Nat.shiftRight_eq_div_pow]
  have:=v.isLt
  omega
 have sz:(ij.size:Int)=256:=by decide +kernel
 rw [s24,s16,s8,an,an,an,sz]
 refine w4 ajY ?_
 refine w4 (lt (v >>> 16)) ?_
 refine w4 (lt (v >>> 8)) ?_
 refine w4 (lt v) ?_
 exact hR
noncomputable abbrev y0:=f160
noncomputable def Vw:FuncId->Option au:=aE [(176,Jo)]
theorem Vx:∀ f T,Vw f=some T->Known prog [] f T:=(aq.cons ai5 .nil).get
noncomputable def uB (w s:Int):St:={fr:=frame 24 [(0,.v (.c (.i .u32 w))),(4,.v (.c (.i .i64 s)))],rg:=[]}
noncomputable def isSet (w:Int) (p:Nat):Bool:=bits .and .u32 (aX .u32 w ((p - 1:Nat):Int)) 1==1
noncomputable def Ik (w:Int):Int->Nat->Int
 | s,0=>s
 | s,n+1=>Ik w (if isSet w (23 - n) then bits .xor .i64 s ((23 - n:Nat):Int) else s) n
noncomputable def JM:Cx:={P:=prog,con:=Vw,glob:=[],m:=0,loops:=[]}
theorem GU (w s p:Int) (R:RO->Prop):(bu JM 0 [0,4,5] [0,4] (ae y0 0) {fr:=frame 24 [(0,.v (.c (.i .u32 w))),(4,.v (.c (.i .i64 s))),(5,.v (.c (.i .i64 p)))],rg:=[]}).run R =
  af (decide (p<24))
   (af (decide (0<=IntKind.i64.wrap (p - 1)))
    (af (bits BinOp.and IntKind.u32 (aX IntKind.u32 w (IntKind.i64.wrap (p - 1))) 1==1)
     (R (RO.next {fr:=frame 24 [(0,.v (.c (.i .u32 w))),(4,.v (.c (.i .i64 (bits BinOp.xor IntKind.i64 s p)))),(5,.v (.c (.i .i64 (IntKind.i64.wrap (p+1)))))],rg:=[]}))
     (R (RO.next {fr:=frame 24 [(0,.v (.c (.i .u32 w))),(4,.v (.c (.i .i64 s))),(5,.v (.c (.i .i64 (IntKind.i64.wrap (p+1)))))],rg:=[]})))
    False)
   (R (RO.done aj.normal (uB w s))):=by
 kernel_rfl
theorem wrap_small (n:Int) (h0:0<=n) (h1:n<1000):IntKind.i64.wrap n=n:=by rw [ay']; omega
noncomputable def JN:List cE × List (List cE)->Tr (aj × St):=fun x=>match x with
 | ([.i w,.i s,.i p],[])=>.aF (1<=p∧p<=24) (.ret (.normal,uB w (Ik w s (24 - p).toNat)))
 | _=>.fail
noncomputable def Vy:List gw:=FY 24 [(0,.i .u32),(4,.i .i64),(5,.i .i64)]
theorem JO:jL prog [] 0 0 (ae y0 0) (nW Vy [] JN):=by
 refine kP (X:=JM) Vx mixed (aM.none (by kernel_rfl)) [0,4,5] [0,4] _ _ _ (fun x=>match x with
  | ([.i _,.i _,.i p],[])=>(24 - p).toNat
  | _=>0) ?_
 rintro ⟨a,b⟩ R h
 unfold JN at h
 split at h
 case h_2=>exact h.elim
 rename_i w s p he
 cases he
 have h0:=h.1
 have h:=h.2
 have h1:=h0.1
 have h2:=h0.2
 clear h0
 show (bu JM 0 [0,4,5] [0,4] (ae y0 0) {fr:=frame 24 [(0,.v (.c (.i .u32 w))),(4,.v (.c (.i .i64 s))),(5,.v (.c (.i .i64 p)))],rg:=[]}).run _
 rw [GU]
 have h' : R (.normal,uB w (Ik w s (24 - p).toNat)):=h
 by_cases hp:p=24
 ·subst hp
  exact aW.2 (.inr ⟨by decide,h'⟩)
 ·obtain ⟨n,hn⟩:∃ n:Nat,(24 - p).toNat=n+1:=⟨(23 - p).toNat,by omega⟩
  have hpn:p=((23 - n:Nat):Int):=by omega
  have e2:IntKind.i64.wrap (p - 1)=((23 - n - 1:Nat):Int):=by rw [wrap_small _ (by omega) (by omega)]; omega
  have e3:IntKind.i64.wrap (p+1)=p+1:=wrap_small _ (by omega) (by omega)
  have e4:(24 - (p+1)).toNat=n:=by omega
  rw [e2,e3]
  rw [hn] at h'
  refine aW.2 (.inl ⟨by rw [decide_eq_true_eq]; omega,aW.2 (.inl ⟨by rw [decide_eq_true_eq]; omega,?_⟩)⟩)
  have h'' : R (.normal,uB w (Ik w (if isSet w (23 - n) then bits .xor .i64 s ((23 - n:Nat):Int) else s) n)):=h'
  cases hb:isSet w (23 - n) with
  | true=>
    rw [hb] at h''
    refine aW.2 (.inl ⟨hb,⟨([.i w,.i (bits .xor .i64 s p),.i (p+1)],[]),rfl,by simp only; omega,⟨by omega,by omega⟩,?_⟩⟩)
    show R (.normal,uB w (Ik w (bits .xor .i64 s p) (24 - (p+1)).toNat))
    rw [e4,hpn]
    exact h''
  | false=>
    rw [hb] at h''
    refine aW.2 (.inr ⟨hb,⟨([.i w,.i s,.i (p+1)],[]),rfl,by simp only; omega,⟨by omega,by omega⟩,?_⟩⟩)
    show R (.normal,uB w (Ik w s (24 - (p+1)).toNat))
    rw [e4]
    exact h''
noncomputable def Vz:au:=fun args I=>if I.length=0 then aD prog [] Vw [(0,[0,4,5],nW Vy [] JN)] y0 args I else .fail
theorem ajZ:Known prog [] 160 Vz:=av 0 func160 rfl (by kernel_rfl) mixed Vx (aM.one (id:=0) (body:=ae y0 0) (by kernel_rfl) rfl JO)
noncomputable def agY:au:=fun args I=>aD prog [] (fun _=>ay1) [] f177 args I
theorem aqr:Known prog [] 177 agY:=ah func177 rfl (by kernel_rfl) mixed az (by kernel_rfl)
noncomputable def VA:FuncId->Option au:=aE [(177,agY)]
theorem VB:∀ f T,VA f=some T->Known prog [] f T:=(aq.cons aqr .nil).get
noncomputable abbrev Dx:=f161
noncomputable def ME:Cx:={P:=prog,con:=VA,glob:=[],m:=0,loops:=[]}
noncomputable def GV:au:=fun args I=>if I.length=0 then aD prog [] VA [(0,[0,3,4,5],cF ME 0 [0,3,4,5] [3] (ae Dx 0) 30)] Dx args I else .fail
theorem VC:Known prog [] 161 GV:=av 0 func161 rfl (by kernel_rfl) mixed VB
 (aM.one (id:=0) (body:=ae Dx 0) (by kernel_rfl) rfl (bL (X:=ME) VB mixed (aM.none (by kernel_rfl)) [0,3,4,5] [3] 30))
def Ig (w:Int):List Nat->Int->Nat->Int
 | [],n,_=>n
 | p::ps,n,k=>Ig w ps (bits .or .i64 n (bH .i64 (IntKind.i64.wrap (bits .and .u32 (aX .u32 w (azi (p - 1))) 1)) (azi k))) (k+1)
def eX:List Nat:=[3,5,6,7,9,10,11,12,13,14,15,17,18,19,20,21,22,23]
theorem GW (w:Int) (R:Out->Prop):(GV [.c (.i .u32 w)] []).run R=R ⟨.v (.c (.i .i64 (Ig w eX 0 0))),[]⟩:=by kernel_rfl
noncomputable def Dy:au:=fun args I=>match args,I with
 | [.c (.i .u32 w)],[]=>.ret ⟨.v (.c (.i .i64 (Ig w eX 0 0))),[]⟩
 | _,_=>.fail
theorem acG:Known prog [] 161 Dy:=by
 refine VC.less fun args I R h=>?_
 unfold Dy at h
 split at h
 case h_2=>exact h.elim
 rename_i w
 rw [GW]
 exact h
theorem JP (w:Int) (R:Out->Prop):(Vz [.c (.i .u32 w)] []).run R=((1<=(1:Int)∧(1:Int)<=24)∧((0<=w∧w<4294967296)∧R ⟨.tu [.c (.i .i64 (Ik w 0 23)),.c (.b ((pop w).tmod 2==1))],[]⟩)):=by kernel_rfl
noncomputable def tCk:au:=fun args I=>match args,I with
 | [.c (.i .u32 w)],[]=>.aF (0<=w∧w<4294967296) (.ret ⟨.tu [.c (.i .i64 (Ik w 0 23)),.c (.b ((pop w).tmod 2==1))],[]⟩)
 | _,_=>.fail
theorem kCk:Known prog [] 160 tCk:=by
 refine ajZ.less fun args I R h=>?_
 unfold tCk at h
 split at h
 case h_2=>exact h.elim
 rename_i w
 rw [JP]
 exact ⟨⟨by decide,by decide⟩,h⟩
noncomputable def aqs:FuncId->Option au:=aE [(160,tCk),(161,Dy)]
theorem aqt:∀ f T,aqs f=some T->Known prog [] f T:=(aq.cons kCk (.cons acG .nil)).get
noncomputable def C9:au:=fun args I=>aD prog [] aqs [] f128 args I
theorem abG:Known prog [] 128 C9:=ah func128 rfl (by kernel_rfl) mixed aqt (by kernel_rfl)
noncomputable def word (a b c:Int):Int:=bits .or .u32 (bits .or .u32 (IntKind.u32.wrap a) (bH .u32 (IntKind.u32.wrap b) 8)) (bH .u32 (IntKind.u32.wrap c) 16)
noncomputable def p8 (w:Int):Int:=bits .xor .i64 (Ik w 0 23) 31
noncomputable def agZ (n:Int):Out:=⟨.tu [.c (.i .i64 n),.c (.b true)],[]⟩
noncomputable def ag0:Out:=⟨.tu [.c (.i .i64 0),.c (.b false)],[]⟩
theorem yG (a b c:Int) (R:Out->Prop):(C9 [.ag [.i .u8 a,.i .u8 b,.i .u8 c]] []).run R =
 ((0<=word a b c∧word a b c<4294967296)∧
  af (p8 (word a b c)==0) (R (agZ (Ig (word a b c) eX 0 0)))
   (af ((pop (word a b c)).tmod 2==1) (R ag0)
    (af (decide (p8 (word a b c) >= 24)) (R ag0)
     (af (decide (0<=IntKind.i64.wrap (p8 (word a b c) - 1)))
      (R (agZ (Ig (bits .xor .u32 (word a b c) (bH .u32 1 (IntKind.i64.wrap (p8 (word a b c) - 1)))) eX 0 0)))
      False)))):=by kernel_rfl
def fV (v:BitVec 32):Nat->BitVec 64
 | 0=>0
 | n+1=>(bif v.getLsbD (22 - n) then azA 64 (23 - n) else 0) ^^^ fV v n
theorem VD (v:BitVec 32) (p:Nat) (hp:p<=32):isSet (u32 v) p=v.getLsbD (p - 1):=by
 unfold isSet
 rw [jG v (p - 1) (by omega),l0,mb,Nx.ofInt_u32]
 have e:(1:Int)=u32 1#32:=rfl
 rw [show ay7 32 1=1#32 from rfl,e]
 have h1:(u32 (azB 32 (v >>> (p - 1)) &&& 1#32)==u32 1#32)=((v >>> (p - 1)) &&& 1#32==1#32):=by
  rw [Bool.eq_iff_iff,beq_iff_eq,beq_iff_eq,abA,azC]
 rw [h1,Bool.eq_iff_iff,beq_iff_eq]
 constructor
 ·intro h
  have:=congrArg (fun x:BitVec 32=>x.getLsbD 0) h
  simpa using this
 ·intro h
  apply azD
  intro i hi
  rw [azz,azy]
  cases i with
  | zero=>simpa using h
  | succ i=>simp
theorem JQ (v:BitVec 32):∀ (n:Nat) (a:BitVec 64),n<=23->Ik (u32 v) (i64 a) n=i64 (a ^^^ fV v n)
 | 0,a,_=>by simp [Ik,fV]
 | n+1,a,hn=>by
   simp only [Ik,fV]
   rw [VD v (23 - n) (by omega)]
   have e1:23 - n - 1=22 - n:=by omega
   rw [e1]
   cases v.getLsbD (22 - n) with
   | true=>
     rw [if_pos rfl,ma,yE,Nx.eJ,ay9,JQ v n _ (by omega)]
     simp [azE]
   | false=>
     rw [if_neg (by decide),JQ v n _ (by omega)]
     simp
theorem s7 (v w:BitVec 32):∀ n,fV (v ^^^ w) n=fV v n ^^^ fV w n
 | 0=>by simp [fV]
 | n+1=>by
   simp only [fV,s7 v w n,azw]
   generalize fV v n=a
   generalize fV w n=b
   generalize azA 64 (23 - n)=c
   apply azD
   intro i _
   cases v.getLsbD (22 - n) <;> cases w.getLsbD (22 - n) <;> simp <;> cases a.getLsbD i <;> cases b.getLsbD i <;> cases c.getLsbD i <;> rfl
def uC (n:BitVec 64):List Nat->BitVec 32->Nat->BitVec 32
 | [],w,_=>w
 | p::ps,w,k=>uC n ps (w ||| (bif n.getLsbD k then azF 32 (p - 1) else 0)) (k+1)
theorem vN (n:BitVec 64) (k:Nat) (hk:k<64):bits .and .i64 (aX .i64 (i64 n) (azi k)) 1=(n.getLsbD k).toNat:=by
 rw [show azi k=((k:Nat):Int) from rfl,abz n k (by omega),ma,mb,Nx.eJ]
 rw [show ay7 64 1=1#64 from rfl]
 have e:(n.sshiftRight k &&& 1#64)=bif n.getLsbD k then 1#64 else 0#64:=by
  apply azD
  intro i hi
  rw [azz,BitVec.getLsbD_sshiftRight]
  cases i with
  | zero=>
    have h1:k+0<64:=by omega
    cases n.getLsbD k <;> simp [hk]
  | succ i=>cases n.getLsbD k <;> simp
 rw [e]
 cases n.getLsbD k <;> rfl
theorem VE (v w:BitVec 32):bits .or .u32 (u32 v) (u32 w)=u32 (v ||| w):=by
 rw [l0,L4,Nx.ofInt_u32,Nx.ofInt_u32,azC,azC]
def qF (s:BitVec 64):List Nat->BitVec 32->BitVec 32
 | [],w=>w
 | k::ks,w=>qF s ks (w ||| (bif !s.getLsbD k then azF 32 (2 ^ k - 1) else 0))
theorem y1 (n:BitVec 64) (i:Nat):∀ (ps:List Nat) (w:BitVec 32) (k:Nat),(∀ p∈ps,0<p)->i+1 ∉ ps->(uC n ps w k).getLsbD i=w.getLsbD i
 | [],_,_,_,_=>rfl
 | p::ps,w,k,h0,h=>by
   have hp:=h0 p (by simp)
   have b9:i≠p - 1:=by
    intro e
    apply h
    have:i+1=p:=by omega
    rw [this]; simp
   simp only [uC]
   rw [y1 n i ps _ (k+1) (fun q hq=>h0 q (by simp [hq])) (fun hq=>h (by simp [hq])),azG]
   cases n.getLsbD k with
   | true=>simp [azH,Ne.symm b9]
   | false=>simp
def kpv (s:BitVec 64):BitVec 32:=qF s [0,1,2,3,4] 0
def RR (n:BitVec 64):BitVec 32:=uC n eX 0 0
def By (n:BitVec 64):BitVec 32:=qF (fV (RR n) 23) [0,1,2,3,4] (RR n)
def nO (n:BitVec 64):BitVec 32:=bif cJ (By n) 32 then By n else By n ||| 8388608#32
theorem Bz:∀ p∈eX,0<p:=by decide
theorem VF:∀ p∈eX,p<=32∧0<p:=by decide
theorem MF (n:BitVec 64) (i:Nat) (h:i+1 ∉ eX):(RR n).getLsbD i=false:=by
 unfold RR
 rw [y1 n i eX 0 0 Bz h]
 simp
theorem GX (s:BitVec 64):∀ (ks:List Nat) (v w:BitVec 32),qF s ks (v ||| w)=v ||| qF s ks w
 | [],_,_=>rfl
 | k::ks,v,w=>by
   simp only [qF]
   rw [BitVec.or_assoc,GX s ks]
theorem uD (s:BitVec 64) (i:Nat):∀ (ks:List Nat) (w:BitVec 32),(∀ k∈ks,i≠2 ^ k - 1)->(qF s ks w).getLsbD i=w.getLsbD i
 | [],_,_=>rfl
 | k::ks,w,h=>by
   have h1:=h k (by simp)
   simp only [qF]
   rw [uD s i ks _ fun q hq=>h q (by simp [hq]),azG]
   cases s.getLsbD k with
   | false=>simp [azH,Ne.symm h1]
   | true=>simp
theorem GY (v w:BitVec 32) (h:∀ i<32,v.getLsbD i=true->w.getLsbD i=false):v ||| w=v ^^^ w:=by
 apply azD
 intro i hi
 rw [azG,azw]
 have:=h i hi
 cases hv:v.getLsbD i with
 | false=>simp
 | true=>rw [this hv]; rfl
theorem Qj:∀ i<32,i+1∈eX->∀ k∈[0,1,2,3,4],i≠2 ^ k - 1:=by decide
theorem MG (n:BitVec 64):By n=RR n ^^^ kpv (fV (RR n) 23):=by
 unfold By kpv
 rw [<- GY]
 ·have:=GX (fV (RR n) 23) [0,1,2,3,4] (RR n) 0
  rw [<- this]
  simp
 ·intro i hi h
  have hm:i+1∈eX:=by
   apply Classical.byContradiction
   intro hn
   rw [MF n i hn] at h
   cases h
  rw [uD _ i _ _ (Qj i hi hm)]
  simp
theorem Dz (v:BitVec 32):∀ n,n<=23->(fV v n).toNat<32
 | 0,_=>by simp [fV]
 | n+1,hn=>by
   have ih:=Dz v n (by omega)
   simp only [fV]
   rw [BitVec.toNat_xor]
   have h1:(bif v.getLsbD (22 - n) then azA 64 (23 - n) else 0#64).toNat<2 ^ 5:=by
    cases v.getLsbD (22 - n) with
    | false=>exact (by decide:(0#64).toNat<2 ^ 5)
    | true=>
      show (azA 64 (23 - n)).toNat<32
      rw [azI]
      omega
   exact Nat.xor_lt_two_pow h1 ih
theorem JR:∀ s<32,fV (kpv (azA 64 s)) 23=azA 64 s ^^^ 31#64:=by decide +kernel
theorem aj0 (s:BitVec 64) (h:s.toNat<32):fV (kpv s) 23=s ^^^ 31#64:=by
 have:=JR s.toNat h
 rwa [BitVec.ofNat_toNat,azC] at this
theorem acH (n:BitVec 64):fV (By n) 23=31#64:=by
 rw [MG,s7,aj0 _ (Dz _ 23 (by decide)),<- azE,BitVec.xor_self,BitVec.zero_xor]
theorem acI (s:BitVec 64) (i:Nat) (h:∀ k∈[0,1,2,3,4],i≠2 ^ k - 1):(kpv s).getLsbD i=false:=by
 unfold kpv
 rw [uD s i _ _ h]
 simp
theorem MH (n:BitVec 64) (i:Nat) (h:i+1 ∉ eX) (h2:∀ k∈[0,1,2,3,4],i≠2 ^ k - 1):(By n).getLsbD i=false:=by
 rw [MG,azw,MF n i h,acI _ i h2]
 rfl
theorem VG (n:BitVec 64):By n ||| 8388608#32=By n ^^^ 8388608#32:=by
 apply GY
 intro i hi h
 have:i≠23:=by
  intro e
  subst e
  rw [MH n 23 (by decide) (by decide)] at h
  cases h
 show (azF 32 23).getLsbD i=false
 rw [azH]
 simp [Ne.symm this]
theorem uE (n:BitVec 64):nO n=By n ^^^ (bif cJ (By n) 32 then 0#32 else 8388608#32):=by
 unfold nO
 rw [VG]
 cases cJ (By n) 32 <;> simp
theorem Qk (n:BitVec 64):fV (nO n) 23=31#64:=by
 rw [uE,s7,acH]
 have:fV (bif cJ (By n) 32 then 0#32 else 8388608#32) 23=0#64:=by
  cases cJ (By n) 32 <;> decide +kernel
 rw [this,BitVec.xor_zero]
theorem Ql (n:BitVec 64):cJ (nO n) 32=true:=by
 rw [uE,Bx]
 have h1:cJ (0#32) 32=false:=by decide +kernel
 have h2:cJ (8388608#32) 32=true:=by decide +kernel
 cases cJ (By n) 32
 ·exact h2
 ·show (true ^^ cJ (0#32) 32)=true
  rw [h1]; rfl
theorem acJ:∀ i<32,24<=i->i+1 ∉ eX∧∀ k∈[0,1,2,3,4],i≠2 ^ k - 1:=by decide
theorem JS (n:BitVec 64) (i:Nat) (h:24<=i):(nO n).getLsbD i=false:=by
 by_cases hi:i<32
 ·have hf:=acJ i hi h
  rw [uE,azw,MH n i hf.1 hf.2]
  have:(bif cJ (By n) 32 then 0#32 else 8388608#32).getLsbD i=false:=by
   cases cJ (By n) 32
   ·show (azF 32 23).getLsbD i=false
    rw [azH]
    have:¬ 23=i:=by omega
    simp [this]
   ·simp
  rw [this]; rfl
 ·exact BitVec.getLsbD_of_ge _ _ (by omega)
structure Code (v:BitVec 32):Prop where
 Ik:fV v 23=31#64
 par:cJ v 32=true
 high:∀ i,24<=i->v.getLsbD i=false
theorem nD (n:BitVec 64):Code (nO n):=⟨Qk n,Ql n,JS n⟩
def JT (v:BitVec 32):List Nat->BitVec 64->Nat->BitVec 64
 | [],n,_=>n
 | p::ps,n,k=>JT v ps (n ||| (bif v.getLsbD (p - 1) then azF 64 k else 0)) (k+1)
def y2 (v:BitVec 32):BitVec 64:=JT v eX 0 0
theorem acK (v:BitVec 32) (j:Nat) (hj:j<=32):bits .and .u32 (aX .u32 (u32 v) (azi j)) 1=(v.getLsbD j).toNat:=by
 rw [show azi j=((j:Nat):Int) from rfl,jG v j (by omega),l0,mb,Nx.ofInt_u32]
 rw [show ay7 32 1=1#32 from rfl]
 have e:(azB 32 (v >>> j) &&& 1#32)=bif v.getLsbD j then 1#32 else 0#32:=by
  apply azD
  intro i hi
  rw [azC,azz,azy]
  cases i with
  | zero=>cases v.getLsbD j <;> simp
  | succ i=>cases v.getLsbD j <;> simp
 rw [e]
 cases v.getLsbD j <;> rfl
theorem BA (b:Bool) (j:Nat) (hj:j<64):bH .i64 (IntKind.i64.wrap (b.toNat:Int)) (azi j)=i64 (bif b then azF 64 j else 0):=by
 rw [show azi j=((j:Nat):Int) from rfl,aby _ j (by omega),wrap_i64,Nx.eJ,ay9]
 congr 1
 cases b with
 | true=>rfl
 | false=>simp
theorem VH (v w:BitVec 64):bits .or .i64 (i64 v) (i64 w)=i64 (v ||| w):=by
 rw [ma,L4,Nx.eJ,Nx.eJ]
theorem acL (v w:BitVec 64):bits .xor .i64 (i64 v) (i64 w)=i64 (v ^^^ w):=by
 rw [ma,yE,Nx.eJ,Nx.eJ]
theorem acM (v w:BitVec 32):bits .xor .u32 (u32 v) (u32 w)=u32 (v ^^^ w):=by
 rw [l0,yE,Nx.ofInt_u32,Nx.ofInt_u32,azC,azC]
theorem VI (v:BitVec 32):∀ (ps:List Nat) (n:BitVec 64) (k:Nat),k+ps.length<=64->(∀ p∈ps,p<=32)->Ig (u32 v) ps (i64 n) k=i64 (JT v ps n k)
 | [],_,_,_,_=>rfl
 | p::ps,n,k,hk,hp=>by
   have h1:=hp p (by simp)
   simp only [List.length_cons] at hk
   simp only [Ig,JT]
   rw [acK v (p - 1) (by omega),BA _ k (by omega),VH,VI v ps _ (k+1) (by omega) fun q hq=>hp q (by simp [hq])]
theorem GZ (v:BitVec 32):Ig (u32 v) eX 0 0=i64 (y2 v):=
 VI v eX 0 0 (by decide) (by decide)
theorem G1 (v w:BitVec 32):∀ (ps:List Nat) (n:BitVec 64) (k:Nat),(∀ p∈ps,v.getLsbD (p - 1)=w.getLsbD (p - 1))->JT v ps n k=JT w ps n k
 | [],_,_,_=>rfl
 | p::ps,n,k,h=>by
   simp only [JT]
   rw [h p (by simp),G1 v w ps _ _ fun q hq=>h q (by simp [hq])]
theorem VJ {v w:BitVec 32} (h:∀ i,i+1∈eX->v.getLsbD i=w.getLsbD i):y2 v=y2 w:=by
 apply G1
 intro p hp
 apply h
 have:=Bz p hp
 have e:p - 1+1=p:=by omega
 rw [e]; exact hp
theorem JU (v:BitVec 32):(pop (u32 v)).tmod 2=((cJ v 32).toNat:Int):=by
 rw [<- acF,Vv]
 rw [azJ (azK _)]
theorem acN (v:BitVec 32):((pop (u32 v)).tmod 2==1)=cJ v 32:=by
 rw [JU]
 cases cJ v 32 <;> rfl
def b0 (v:BitVec 32):BitVec 8:=v.setWidth 8
def b1 (v:BitVec 32):BitVec 8:=(v >>> 8).setWidth 8
def b2 (v:BitVec 32):BitVec 8:=(v >>> 16).setWidth 8
def w3 (a b c:BitVec 8):BitVec 32:=a.setWidth 32 ||| (b.setWidth 32 <<< 8) ||| (c.setWidth 32 <<< 16)
theorem acO (a b c:BitVec 8):word (u8 a) (u8 b) (u8 c)=u32 (w3 a b c):=by
 unfold word w3
 rw [wrap_u32,wrap_u32,wrap_u32,Nx.ofInt_u8,Nx.ofInt_u8,Nx.ofInt_u8]
 have e8:bH .u32 (u32 (azB 32 b)) 8=_:=C4 _ 8 (by decide)
 have lq:bH .u32 (u32 (azB 32 c)) 16=_:=C4 _ 16 (by decide)
 rw [e8,lq,Nx.ofInt_u32,Nx.ofInt_u32,VE,VE,azC,azC]
theorem DA (a b c:BitVec 8) (i:Nat):(w3 a b c).getLsbD i=if i<8 then a.getLsbD i else if i<16 then b.getLsbD (i - 8) else if i<24 then c.getLsbD (i - 16) else false:=by
 unfold w3
 rw [azG,azG,BitVec.getLsbD_shiftLeft,BitVec.getLsbD_shiftLeft,azL,azL,azL]
 have ge:∀ (x:BitVec 8) (k:Nat),8<=k->x.getLsbD k=false:=fun x k h=>BitVec.getLsbD_of_ge _ _ h
 by_cases h1:i<8
 ·have h2:i<16:=by omega
  have h3:i<32:=by omega
  simp [h1,h2,h3]
 ·by_cases h2:i<16
  ·have h3:i<32:=by omega
   have h4:i - 8<32:=by omega
   simp [h1,h2,h3,h4,ge a i (by omega)]
  ·by_cases h3:i<24
   ·have h4:i<32:=by omega
    have h5:i - 8<32:=by omega
    have h6:i - 16<32:=by omega
    simp [h1,h2,h3,h4,h5,h6,ge a i (by omega),ge b (i - 8) (by omega)]
   ·simp [h1,h2,h3,ge a i (by omega),ge b (i - 8) (by omega),ge c (i - 16) (by omega)]
theorem avd (v:BitVec 32) (h:∀ i,24<=i->v.getLsbD i=false):w3 (b0 v) (b1 v) (b2 v)=v:=by
 apply azD
 intro i hi
 rw [DA]
 unfold b0 b1 b2
 by_cases h1:i<8
 ·rw [if_pos h1,azL]; simp [h1]
 ·rw [if_neg h1]
  by_cases h2:i<16
  ·have e:8+(i - 8)=i:=by omega
   have h4:i - 8<8:=by omega
   rw [if_pos h2,azL,azy,e]; simp [h4]
  ·rw [if_neg h2]
   by_cases h3:i<24
   ·have e:16+(i - 16)=i:=by omega
    have h4:i - 16<8:=by omega
    rw [if_pos h3,azL,azy,e]; simp [h4]
   ·rw [if_neg h3,h i (by omega)]
def JV (v:BitVec 32):NS:=.v (.ag [.i .u8 (u8 (b0 v)),.i .u8 (u8 (b1 v)),.i .u8 (u8 (b2 v))])
theorem G2 (v:BitVec 32):0<=u32 v∧u32 v<4294967296:=by
 have:=v.isLt
 unfold u32
 omega
noncomputable def MI:au:=fun args I=>match args,I with
 | [.c (.i .i64 n)],[]=>.aF (-9223372036854775808<=n∧n<9223372036854775808) (.ret ⟨JV (nO (ay7 64 n)),[]⟩)
 | _,_=>.fail
def uF (v:BitVec 32):BitVec 64:=fV v 23 ^^^ 31#64
def bw (v:BitVec 32):BitVec 64:=bif uF v==0 then y2 v else bif cJ v 32 then 0 else bif decide (24<=(uF v).toNat) then 0 else y2 (v ^^^ azF 32 ((uF v).toNat - 1))
def cz (v:BitVec 32):Bool:=bif uF v==0 then true else bif cJ v 32 then false else bif decide (24<=(uF v).toNat) then false else true
theorem VK (v:BitVec 32):(uF v).toNat<32:=by
 unfold uF
 rw [BitVec.toNat_xor]
 exact Nat.xor_lt_two_pow (n:=5) (Dz v 23 (by decide)) (by decide)
theorem Qm (a:BitVec 64) (h:a.toNat<32):i64 a=(a.toNat:Int):=by
 unfold i64
 rw [BitVec.toInt_eq_toNat_bmod,Int.bmod_def]
 split <;> omega
theorem JW (v:BitVec 32):p8 (u32 v)=((uF v).toNat:Int):=by
 unfold p8
 have:=JQ v 23 0 (by decide)
 rw [show Ik (u32 v) 0 23=i64 (0 ^^^ fV v 23) from this]
 rw [show (31:Int)=i64 31#64 from rfl,acL,<- Qm _ (VK v)]
 unfold uF
 rw [show (0:BitVec 64) ^^^ fV v 23=fV v 23 from BitVec.zero_xor]
noncomputable def VL:au:=fun args I=>match args,I with
 | [.ag [.i .u8 a,.i .u8 b,.i .u8 c]],[]=>.aF ((0<=a∧a<256)∧(0<=b∧b<256)∧(0<=c∧c<256)) (.ret ⟨.tu [.c (.i .i64 (i64 (bw (w3 (ay7 8 a) (ay7 8 b) (ay7 8 c))))),.c (.b (cz (w3 (ay7 8 a) (ay7 8 b) (ay7 8 c))))],[]⟩)
 | _,_=>.fail
theorem aqu:Known prog [] 128 VL:=by
 refine abG.less fun args I R h=>?_
 unfold VL at h
 split at h
 case h_2=>exact h.elim
 rename_i a b c
 have h1:=h.1
 have h2:=h.2
 clear h
 have ha:=Jj h1.1.1 h1.1.2
 have hb:=Jj h1.2.1.1 h1.2.1.2
 have hc:=Jj h1.2.2.1 h1.2.2.2
 generalize ay7 8 a=a' at *
 generalize ay7 8 b=b' at *
 generalize ay7 8 c=c' at *
 subst ha hb hc
 have h3:R ⟨.tu [.c (.i .i64 (i64 (bw (w3 a' b' c')))),.c (.b (cz (w3 a' b' c')))],[]⟩:=h2
 clear h2
 rw [yG,acO]
 generalize w3 a' b' c'=v at *
 refine And.intro (G2 v) ?_
 rw [JW,acN,GZ]
 have ff:=VK v
 unfold bw cz at h3
 have e0:(((uF v).toNat:Int)==0)=(uF v==0):=by
  rw [Bool.eq_iff_iff,beq_iff_eq,beq_iff_eq]
  constructor
  ·intro h
   apply azg
   have:(uF v).toNat=0:=by omega
   rw [this]; rfl
  ·intro h; rw [h]; rfl
 have e24:decide ((((uF v).toNat:Int)) >= 24)=decide (24<=(uF v).toNat):=by
  rw [decide_eq_decide]; omega
 rw [e0,e24]
 cases z:uF v==0
 case true=>rw [z] at h3; exact h3
 rw [z] at h3
 cases p:cJ v 32
 case true=>rw [p] at h3; exact h3
 rw [p] at h3
 cases g:decide (24<=(uF v).toNat)
 case true=>rw [g] at h3; exact h3
 rw [g] at h3
 have hz:(uF v).toNat≠0:=by
  intro h
  have:((uF v).toNat:Int)=0:=by omega
  rw [this] at e0
  rw [<- e0] at z
  cases z
 have ew:IntKind.i64.wrap (((uF v).toNat:Int) - 1)=(((uF v).toNat - 1:Nat):Int):=by
  rw [ay']; omega
 have es:bH .u32 1 (((uF v).toNat - 1:Nat):Int)=u32 (azF 32 ((uF v).toNat - 1)):=by
  rw [C4 _ _ (by omega)]
  congr 1
 rw [ew,es,acM,GZ]
 have ed:decide (0<=(((uF v).toNat - 1:Nat):Int))=true:=by simp
 rw [ed]
 exact h3
def w3i (a b c:Int):BitVec 32:=w3 (ay7 8 a) (ay7 8 b) (ay7 8 c)
def low (v:BitVec 32):BitVec 32:=w3i (u8 (b0 v)) (u8 (b1 v)) (u8 (b2 v))
def dH (n:Int):Prop:=-9223372036854775808<=n∧n<9223372036854775808
theorem aj1 (v:BitVec 32) (h:∀ i,24<=i->v.getLsbD i=false):low v=v:=by
 unfold low w3i
 rw [ns,ns,ns,avd v h]
theorem acP (v:BitVec 8):0<=u8 v∧u8 v<256:=by
 have:=v.isLt
 unfold u8
 omega
def sy (i:Nat):BitVec 64:=if i<23 then azA 64 (i+1) else 0
theorem acQ:∀ i<24,fV (azF 32 i) 23=sy i:=by decide +kernel
theorem acR:∀ i<24,cJ (azF 32 i) 32=true:=by decide +kernel
theorem Code.at {v:BitVec 32} (h:Code v):uF v=0:=by unfold uF; rw [h.Ik]; rfl
theorem Code.cz {v:BitVec 32} (h:Code v):cz v=true:=by unfold j9.cz; rw [h.at]; rfl
theorem Code.bw {v:BitVec 32} (h:Code v):bw v=y2 v:=by unfold j9.bw; rw [h.at]; rfl
theorem Code.at1 {v:BitVec 32} (h:Code v) {i:Nat} (hi:i<24):uF (v ^^^ azF 32 i)=sy i:=by
 unfold uF
 rw [s7,h.Ik,acQ i hi,BitVec.xor_comm (31#64),azE,BitVec.xor_self,BitVec.xor_zero]
theorem Code.ave {v:BitVec 32} (h:Code v) {i:Nat} (hi:i<24):cJ (v ^^^ azF 32 i) 32=false:=by
 rw [Bx,h.par,acR i hi]; rfl
theorem VM:∀ i<23,(sy i==0)=false∧(sy i).toNat=i+1:=by decide +kernel
theorem VN (v w:BitVec 32):v ^^^ w ^^^ w=v:=by rw [azE,BitVec.xor_self,BitVec.xor_zero]
theorem Code.aqv {v:BitVec 32} (h:Code v) {i:Nat} (hi:i<24):j9.cz (v ^^^ azF 32 i)=true∧j9.bw (v ^^^ azF 32 i)=y2 v:=by
 unfold j9.cz j9.bw
 rw [h.at1 hi,h.ave hi]
 by_cases h23:i<23
 ·have e:=VM i h23
  have e2:decide (24<=i+1)=false:=by simp; omega
  rw [e.1,e.2,e2]
  refine ⟨rfl,?_⟩
  show y2 (v ^^^ azF 32 i ^^^ azF 32 (i+1 - 1))=y2 v
  rw [Nat.add_sub_cancel,VN]
 ·have e:i=23:=by omega
  subst e
  refine ⟨rfl,?_⟩
  show y2 (v ^^^ azF 32 23)=y2 v
  apply VJ
  intro j hj
  have:¬ 23=j:=by
   intro e
   subst e
   revert hj
   decide
  rw [azw,azH]
  simp [this]
end j9
namespace fP
open Go Go.Nx
theorem mixed:prog.follows .mixedOrders=true:=by kernel_rfl
noncomputable abbrev G3:=f135
def bl (m:Nat):Nat:=if h:m=0 then 0 else m % 2+bl (m / 2)
termination_by m
decreasing_by exact Nat.div_lt_self (by omega) (by decide)
theorem w5:bl 0=0:=by rw [bl]; rfl
theorem MJ {m:Nat} (h:m≠0):bl m=m % 2+bl (m / 2):=by rw [bl,dif_neg h]
theorem BB (m:Nat):bl m=m % 2+bl (m / 2):=by
 by_cases h:m=0
 ·subst h; simp [w5]
 ·exact MJ h
theorem ag1:∀ (n m:Nat),m<2 ^ n->bl m<=n
 | 0,m,h=>by
   have:m=0:=by simpa using h
   rw [this,w5]; exact Nat.le_refl _
 | n+1,m,h=>by
   rw [BB]
   have:=ag1 n (m / 2) (by rw [Nat.pow_succ] at h; omega)
   omega
noncomputable def ML (k:Int):St:={fr:=frame 13 [(3,.v (.c (.i .i64 k)))],rg:=[]}
noncomputable def VO:Cx:={P:=prog,con:=fun _=>ay1,glob:=[],m:=0,loops:=[]}
theorem JX (n k:Int) (R:RO->Prop):(bu VO 0 [0,3] [3] (ae G3 0) {fr:=frame 13 [(0,.v (.c (.i .i64 n))),(3,.v (.c (.i .i64 k)))],rg:=[]}).run R =
  af (decide (n > 0))
   (R (RO.next {fr:=frame 13 [(0,.v (.c (.i .i64 (aX .i64 n 1)))),(3,.v (.c (.i .i64 (IntKind.i64.wrap (k+bits .and .i64 n 1)))))],rg:=[]}))
   (R (RO.done aj.normal (ML k))):=by
 kernel_rfl
noncomputable def VP:List cE × List (List cE)->Tr (aj × St):=fun x=>match x with
 | ([.i n,.i k],[])=>.aF ((0<=n∧n<9223372036854775808)∧(0<=k∧k+bl n.toNat<=1000)) (.ret (.normal,ML (k+bl n.toNat)))
 | _=>.fail
noncomputable def ag2:List gw:=FY 13 [(0,.i .i64),(3,.i .i64)]
theorem avf (n:Int) (h0:0<=n) (h1:n<9223372036854775808):bits .and .i64 n 1=((n.toNat % 2:Nat):Int):=by
 have h:=L5 (n:=n) (by omega) h1
 have hm:n=(n.toNat:Int):=by omega
 generalize n.toNat=m at *
 subst hm
 rw [ma,mb,ay9,show ay7 64 1=1#64 from rfl]
 have e:azA 64 m &&& 1#64=azA 64 (m % 2):=by
  apply azg
  rw [BitVec.toNat_and,azI,azI,azI]
  rw [show 1 % 2 ^ 64=2 ^ 1 - 1 from rfl,Nat.and_two_pow_sub_one_eq_mod]
  omega
 rw [e]
 rcases Nat.mod_two_eq_zero_or_one m with h | h <;> rw [h] <;> rfl
theorem avg (n:Int):aX .i64 n 1=n / 2:=by
 show Int.fdiv n (2 ^ 1)=n / 2
 rw [Int.fdiv_eq_ediv_of_nonneg _ (by decide)]
 rfl
theorem Qn:jL prog [] 0 0 (ae G3 0) (nW ag2 [] VP):=by
 refine kP (X:=VO) az mixed (aM.none (by kernel_rfl)) [0,3] [3] _ _ _ (fun x=>match x with
  | ([.i n,.i _],[])=>n.toNat
  | _=>0) ?_
 rintro ⟨a,b⟩ R h
 unfold VP at h
 split at h
 case h_2=>exact h.elim
 rename_i n k he
 cases he
 have h1:=h.1
 have h2:R (.normal,ML (k+bl n.toNat)):=h.2
 clear h
 show (bu VO 0 [0,3] [3] (ae G3 0) {fr:=frame 13 [(0,.v (.c (.i .i64 n))),(3,.v (.c (.i .i64 k)))],rg:=[]}).run _
 rw [JX]
 by_cases hp:n > 0
 ·have hd:n.toNat / 2=(n / 2).toNat:=by omega
  have hb:=MJ (m:=n.toNat) (by omega)
  rw [hd] at hb
  have hw:IntKind.i64.wrap (k+((n.toNat % 2:Nat):Int))=k+((n.toNat % 2:Nat):Int):=by rw [ay']; omega
  refine aW.2 (.inl ⟨by rw [decide_eq_true_eq]; exact hp,?_⟩)
  rw [avf n h1.1.1 h1.1.2,avg,hw]
  refine ⟨([.i (n / 2),.i (k+((n.toNat % 2:Nat):Int))],[]),rfl,by simp only; omega,⟨⟨by omega,by omega⟩,⟨by omega,by omega⟩⟩,?_⟩
  show R (.normal,ML (k+((n.toNat % 2:Nat):Int)+bl (n / 2).toNat))
  have:k+((n.toNat % 2:Nat):Int)+bl (n / 2).toNat=k+bl n.toNat:=by omega
  rw [this]
  exact h2
 ·have hz:n.toNat=0:=by omega
  rw [hz,w5] at h2
  refine aW.2 (.inr ⟨by rw [decide_eq_false_iff_not]; exact hp,?_⟩)
  have:k+((0:Nat):Int)=k:=by omega
  rw [this] at h2
  exact h2
noncomputable def VQ:au:=fun args I=>if I.length=0 then aD prog [] (fun _=>ay1) [(0,[0,3],nW ag2 [] VP)] G3 args I else .fail
theorem aj2:Known prog [] 135 VQ:=av 0 func135 rfl (by kernel_rfl) mixed az (aM.one (id:=0) (body:=ae G3 0) (by kernel_rfl) rfl Qn)
theorem uA (n:Int) (R:Out->Prop):(VQ [.c (.i .i64 n)] []).run R=(((0<=n∧n<9223372036854775808)∧(0<=(0:Int)∧0+(bl n.toNat:Int)<=1000))∧R ⟨.v (.c (.i .i64 (0+(bl n.toNat:Int)))),[]⟩):=by kernel_rfl
noncomputable def qE:au:=fun args I=>match args,I with
 | [.c (.i .i64 n)],[]=>.aF (0<=n∧n<9223372036854775808) (.ret ⟨.v (.c (.i .i64 (bl n.toNat))),[]⟩)
 | _,_=>.fail
theorem yY:Known prog [] 135 qE:=by
 refine aj2.less fun args I R h=>?_
 unfold qE at h
 split at h
 case h_2=>exact h.elim
 rename_i n
 have h1:=h.1
 have h2:R ⟨.v (.c (.i .i64 (bl n.toNat))),[]⟩:=h.2
 clear h
 rw [uA]
 have hl:=ag1 63 n.toNat (by omega)
 refine ⟨⟨h1,by omega,by omega⟩,?_⟩
 rw [Int.zero_add]
 exact h2
def par (x:Nat):Nat->Bool
 | 0=>false
 | n+1=>par x n ^^ x.testBit n
theorem y3 (x:Nat):∀ n,par x (n+1)=(x.testBit 0 ^^ par (x / 2) n)
 | 0=>by simp [par]
 | n+1=>by
   rw [par,y3 x n,par,Nat.testBit_succ]
   cases x.testBit 0 <;> cases par (x / 2) n <;> cases (x / 2).testBit n <;> rfl
theorem y4:∀ (n x:Nat),x<2 ^ n->bl x % 2=(par x n).toNat
 | 0,x,h=>by
   have:x=0:=by simpa using h
   rw [this,w5]; rfl
 | n+1,x,h=>by
   have ih:=y4 n (x / 2) (by rw [Nat.pow_succ] at h; omega)
   rw [BB,y3,Nat.testBit_zero]
   rcases Nat.mod_two_eq_zero_or_one x with hx | hx <;> cases hp:par (x / 2) n <;> rw [hp] at ih <;> rw [hx] <;> simp [Bool.toNat] at ih ⊢ <;> omega
end fP
namespace pk
open Go Go.Nx
noncomputable def VR:FuncId->Option au:=aE [(135,fP.qE)]
theorem acS:∀ f T,VR f=some T->Known prog [] f T:=(aq.cons fP.yY aq.nil).get
noncomputable def JY:au:=fun args I=>aD prog [] VR [] f94 args I
theorem aj3:Known prog [] 94 JY:=ah func94 rfl (by kernel_rfl) mixed acS (by kernel_rfl)
def o64 (a b:Int):Int:=bits .or .i64 a b
def x64 (a b:Int):Int:=bits .xor .i64 a b
noncomputable def e0 (n:Int):Int:=bits .and .i64 n 1
noncomputable def eK (n k:Int):Int:=bits .and .i64 (aX .i64 n k) 1
def RBd (d0 d1 d2 d3:Int):Int:=o64 (o64 (o64 (o64 (o64 (o64 (bH .i64 d0 1) (bH .i64 d1 3)) (bH .i64 d2 5)) (bH .i64 d3 7)) (x64 (x64 (x64 1 d0) d2) d3)) (bH .i64 (x64 (x64 (x64 1 d0) d1) d3) 2)) (bH .i64 (x64 (x64 (x64 1 d0) d1) d2) 4)
noncomputable def RB (n:Int):Int:=RBd (e0 n) (eK n 1) (eK n 2) (eK n 3)
theorem Qo (n:Int) (R:Out->Prop):(JY [.c (.i .i64 n)] []).run R =
 ((0<=RB n∧RB n<9223372036854775808)∧af ((fP.bl (RB n).toNat:Int).tmod 2==0) (R ⟨.v (.c (.i .u8 (IntKind.u8.wrap (o64 (RB n) 64)))),[]⟩) (R ⟨.v (.c (.i .u8 (IntKind.u8.wrap (RB n)))),[]⟩)):=by kernel_rfl
theorem VS:∀ m<16,(0<=RB (azi m)∧RB (azi m)<256)∧(bif fP.par (RB (azi m)).toNat 8 then IntKind.u8.wrap (RB (azi m)) else IntKind.u8.wrap (o64 (RB (azi m)) 64))=put (azi m):=by decide +kernel
noncomputable def mf:au:=fun args I=>match args,I with
 | [.c (.i .i64 n)],[]=>.aF (0<=n∧n<16) (.ret ⟨.v (.c (.i .u8 (put n))),[]⟩)
 | _,_=>.fail
theorem acT {n:Int} {R:Out->Prop} (h1:0<=n∧n<16) (h2:R ⟨.v (.c (.i .u8 (put n))),[]⟩):aJ ((JY [.c (.i .i64 n)] []).run R):=by
 obtain ⟨m,hm,rfl⟩:∃ m:Nat,m<16∧n=azi m:=⟨n.toNat,by omega,by show n=((n.toNat:Nat):Int); omega⟩
 obtain ⟨a1,a2⟩:=VS m hm
 refine aJ.of_eq (Qo _ R) ⟨⟨a1.1,by omega⟩,?_⟩
 have hp:=fP.y4 8 (RB (azi m)).toNat (by omega)
 rw [<- a2] at h2
 cases hb:fP.par (RB (azi m)).toNat 8 with
 | true=>
   rw [hb] at h2 hp
   refine cm ?_ h2
   rw [beq_eq_false_iff_ne,azJ (azK _)]
   have hp' : fP.bl (RB (azi m)).toNat % 2=1:=hp
   omega
 | false=>
   rw [hb] at h2 hp
   refine bz ?_ h2
   rw [beq_iff_eq,azJ (azK _)]
   have hp' : fP.bl (RB (azi m)).toNat % 2=0:=hp
   omega
theorem vO:Known prog [] 94 mf:=by
 refine aj3.less fun args I R h=>aJ.out ?_
 unfold mf at h
 split at h
 case h_2=>exact h.elim
 exact acT h.1 h.2
theorem DB:Known prog GL 94 mf:=bX vO
end pk
namespace j9
open Go Go.Nx
open fP (bl qE yY)
noncomputable def VT:au:=fun args I=>aD prog [] (fun _=>ay1) [] f164 args I
theorem aj4:Known prog [] 164 VT:=ah func164 rfl (by kernel_rfl) mixed az (by kernel_rfl)
noncomputable def acU:FuncId->Option au:=aE [(164,VT),(135,fP.qE)]
theorem MM:∀ f T,acU f=some T->Known prog [] f T:=(aq.cons aj4 (.cons fP.yY .nil)).get
noncomputable def Qp:Cx:={P:=prog,con:=acU,glob:=[],m:=0,loops:=[]}
noncomputable abbrev ig:=f137
noncomputable def MN:Cx:={P:=prog,con:=acU,glob:=[],m:=0,loops:=[(4,[3,6,7,8],cF Qp 4 [3,6,7,8] [3,6,7] (ae ig 4) 30)]}
theorem aj5:jL prog [] 0 4 (ae ig 4) (cF Qp 4 [3,6,7,8] [3,6,7] (ae ig 4) 30):=bL (X:=Qp) MM mixed (aM.none (by kernel_rfl)) [3,6,7,8] [3,6,7] 30
theorem aj6:jL prog [] 0 0 (ae ig 0) (cF Qp 0 [0,3,4,5] [3] (ae ig 0) 30):=bL (X:=Qp) MM mixed (aM.none (by kernel_rfl)) [0,3,4,5] [3] 30
noncomputable def nE (n:Int):List Nat->Int->Nat->Int
 | [],w,_=>w
 | p::ps,w,k=>nE n ps (bits .or .i64 w (bH .i64 (bits .and .i64 (aX .i64 n (azi k)) 1) (azi (p - 1)))) (k+1)
noncomputable def G4 (w:Int):List Nat->Int->Int
 | [],o=>o
 | p::ps,o=>G4 w ps (bits .xor .i64 o (bits .and .i64 (aX .i64 w (azi (p - 1))) 1))
def kV (k:Nat):List Nat:=(axy 24).filter fun p=>p.testBit k
noncomputable def pj:List Nat->Int->Int
 | [],w=>w
 | k::ks,w=>pj ks (if G4 w (kV k) 0=0 then bits .or .i64 w (azi (2 ^ (2 ^ k - 1))) else w)
noncomputable def VU (w k:Int):St:={fr:=frame 66 [(3,.v (.c (.i .i64 w))),(6,.v (.c (.i .i64 k)))],rg:=[]}
noncomputable def aj7 (w:Int):St:={fr:=frame 66 [(3,.v (.c (.i .i64 w)))],rg:=[]}
theorem aj8 {k:Nat} (h:k<5):k=0∨k=1∨k=2∨k=3∨k=4:=by omega
theorem Qq (w:Int) (R:RO->Prop) (k:Nat) (h:k<5):(bu MN 2 [3,6] [3] (ae ig 2) (VU w (k:Int))).run R =
  af (G4 w (kV k) 0==0) (R (RO.next (VU (bits .or .i64 w (azi (2 ^ (2 ^ k - 1)))) ((k+1:Nat):Int)))) (R (RO.next (VU w ((k+1:Nat):Int)))):=by
 rcases aj8 h with e | e | e | e | e <;> subst e <;> kernel_rfl
theorem Qr (w:Int) (R:RO->Prop):(bu MN 2 [3,6] [3] (ae ig 2) (VU w 5)).run R=R (RO.done aj.normal (aj7 w)):=by kernel_rfl
noncomputable def aj9:List cE × List (List cE)->Tr (aj × St):=fun x=>match x with
 | ([.i w,.i k],[])=>.aF (0<=k∧k<=5) (.ret (.normal,aj7 (pj ([0,1,2,3,4].drop k.toNat) w)))
 | _=>.fail
noncomputable def aqw:List gw:=FY 66 [(3,.i .i64),(6,.i .i64)]
theorem aqx:∀ k<5,[0,1,2,3,4].drop k=k::[0,1,2,3,4].drop (k+1):=by decide
theorem aj':jL prog [] 0 2 (ae ig 2) (nW aqw [] aj9):=by
 refine kP (X:=MN) MM mixed (aM.one (id:=4) (body:=ae ig 4) (by kernel_rfl) rfl aj5) [3,6] [3] _ _ _ (fun x=>match x with
  | ([.i _,.i k],[])=>(5 - k).toNat
  | _=>0) ?_
 rintro ⟨a,b⟩ R h
 unfold aj9 at h
 split at h
 case h_2=>exact h.elim
 rename_i w k he
 cases he
 have h1:=h.1
 have h2:R (.normal,aj7 (pj ([0,1,2,3,4].drop k.toNat) w)):=h.2
 clear h
 show (bu MN 2 [3,6] [3] (ae ig 2) (VU w k)).run _
 by_cases hp:k=5
 ·subst hp
  rw [Qr]
  exact h2
 ·obtain ⟨n,hn⟩:∃ n:Nat,k=(n:Int):=⟨k.toNat,by omega⟩
  subst hn
  have h5:n<5:=by omega
  rw [Qq w _ n h5]
  rw [azd,aqx n h5] at h2
  simp only [pj] at h2
  by_cases ho:G4 w (kV n) 0=0
  ·rw [if_pos ho] at h2
   refine aW.2 (.inl ⟨by rw [beq_iff_eq]; exact ho,⟨([.i (bits .or .i64 w (azi (2 ^ (2 ^ n - 1)))),.i ((n+1:Nat):Int)],[]),rfl,by simp only; omega,⟨by omega,by omega⟩,?_⟩⟩)
   exact h2
  ·rw [if_neg ho] at h2
   refine aW.2 (.inr ⟨by rw [beq_eq_false_iff_ne]; exact ho,⟨([.i w,.i ((n+1:Nat):Int)],[]),rfl,by simp only; omega,⟨by omega,by omega⟩,?_⟩⟩)
   exact h2
noncomputable def MO:au:=fun args I=>if I.length=0 then aD prog [] acU [(0,[0,3,4,5],cF Qp 0 [0,3,4,5] [3] (ae ig 0) 30),(2,[3,6],nW aqw [] aj9)] ig args I else .fail
theorem acW:Known prog [] 137 MO:=av 0 func137 rfl (by kernel_rfl) mixed MM
 (aM.two (i1:=0) (i2:=2) (b1:=ae ig 0) (b2:=ae ig 2) (by kernel_rfl) rfl (by decide) aj6 aj')
theorem JZ (n:Int) (R:Out->Prop):(MO [.c (.i .i64 n)] []).run R=((0<=(0:Int)∧(0:Int)<=5)∧((0<=pj [0,1,2,3,4] (nE n eX 0 0)∧pj [0,1,2,3,4] (nE n eX 0 0)<9223372036854775808)∧
 af ((bl (pj [0,1,2,3,4] (nE n eX 0 0)).toNat:Int).tmod 2==0) (R ⟨.v (.c (.i .i64 (bits .or .i64 (pj [0,1,2,3,4] (nE n eX 0 0)) 8388608))),[]⟩) (R ⟨.v (.c (.i .i64 (pj [0,1,2,3,4] (nE n eX 0 0)))),[]⟩))):=by kernel_rfl
theorem s9 (v:BitVec 32):u32 v=i64 (v.setWidth 64):=by
 unfold u32 i64
 have:=v.isLt
 rw [BitVec.toInt_eq_toNat_bmod,BitVec.toNat_setWidth,Int.bmod_def]
 split <;> omega
theorem DC (v w:BitVec 32):bits .or .i64 (u32 v) (u32 w)=u32 (v ||| w):=by
 rw [s9,s9,VH,s9,BitVec.setWidth_or]
theorem VV (b:Bool) (j:Nat) (hj:j<64):bH .i64 (b.toNat:Int) (azi j)=i64 (bif b then azF 64 j else 0):=by
 rw [<- BA b j hj]
 cases b <;> rfl
theorem VW (b:Bool) (j:Nat) (hj:j<32):bH .i64 (b.toNat:Int) (azi j)=u32 (bif b then azF 32 j else 0):=by
 rw [VV b j (by omega),s9]
 congr 1
 cases b with
 | false=>simp
 | true=>
   apply azg
   show (azF 64 j).toNat=((azF 32 j).setWidth 64).toNat
   have h1:2 ^ j<2 ^ 32:=Nat.pow_lt_pow_right (by decide) hj
   rw [BitVec.toNat_setWidth,BitVec.toNat_twoPow,BitVec.toNat_twoPow]
   rw [Nat.mod_eq_of_lt (by omega:2 ^ j<2 ^ 64),Nat.mod_eq_of_lt (by omega:2 ^ j<2 ^ 32),Nat.mod_eq_of_lt (by omega)]
theorem VX (v:BitVec 32) (j:Nat) (hj:j<64):bits .and .i64 (aX .i64 (u32 v) (azi j)) 1=(v.getLsbD j).toNat:=by
 rw [s9,vN _ j hj,azL]
 simp [hj]
theorem BD (n:BitVec 64):∀ (ps:List Nat) (w:BitVec 32) (k:Nat),k+ps.length<=64->(∀ p∈ps,p<=32∧0<p)->nE (i64 n) ps (u32 w) k=u32 (uC n ps w k)
 | [],_,_,_,_=>rfl
 | p::ps,w,k,hk,hp=>by
   have h1:=hp p (by simp)
   simp only [List.length_cons] at hk
   simp only [nE,uC]
   rw [vN n k (by omega),VW _ (p - 1) (by omega),DC,BD n ps _ (k+1) (by omega) fun q hq=>hp q (by simp [hq])]
def nY (v:BitVec 32):List Nat->Bool->Bool
 | [],b=>b
 | p::ps,b=>nY v ps (b ^^ v.getLsbD (p - 1))
theorem MP (v:BitVec 32):∀ (ps:List Nat) (b:Bool),(∀ p∈ps,p<=32)->G4 (u32 v) ps (b.toNat:Int)=((nY v ps b).toNat:Int)
 | [],_,_=>rfl
 | p::ps,b,hp=>by
   have h1:=hp p (by simp)
   simp only [G4,nY]
   rw [VX v (p - 1) (by omega)]
   have e:bits .xor .i64 (b.toNat:Int) ((v.getLsbD (p - 1)).toNat:Int)=((b ^^ v.getLsbD (p - 1)).toNat:Int):=by
    cases b <;> cases v.getLsbD (p - 1) <;> decide
   rw [e,MP v ps _ fun q hq=>hp q (by simp [hq])]
theorem G5 {v w:BitVec 32}:∀ (ps:List Nat) (b:Bool),(∀ p∈ps,v.getLsbD (p - 1)=w.getLsbD (p - 1))->nY v ps b=nY w ps b
 | [],_,_=>rfl
 | p::ps,b,h=>by
   simp only [nY]
   rw [h p (by simp),G5 ps _ fun q hq=>h q (by simp [hq])]
theorem rz (v:BitVec 32):∀ (ps:List Nat) (b:Bool),nY v ps b=(b ^^ nY v ps false)
 | [],b=>by simp [nY]
 | p::ps,b=>by
   simp only [nY]
   rw [rz v ps (b ^^ _),rz v ps (false ^^ _),Bool.false_xor,Bool.xor_assoc]
def VY (v:BitVec 32):List Nat->BitVec 64
 | []=>0
 | p::ps=>(bif v.getLsbD (p - 1) then azA 64 p else 0) ^^^ VY v ps
theorem G6 (v:BitVec 32) (k:Nat) (hk:k<64):∀ ps,(VY v ps).getLsbD k=nY v (ps.filter fun p=>p.testBit k) false
 | []=>by simp [VY,nY]
 | p::ps=>by
   simp only [VY,azw]
   rw [G6 v k hk ps,List.filter_cons]
   have e:(bif v.getLsbD (p - 1) then azA 64 p else 0).getLsbD k=(v.getLsbD (p - 1)&&p.testBit k):=by
    cases v.getLsbD (p - 1) with
    | false=>simp
    | true=>
      show (azA 64 p).getLsbD k=_
      rw [BitVec.getLsbD_ofNat]
      simp [hk]
   rw [e]
   cases p.testBit k with
   | false=>simp
   | true=>
     simp only [if_true,nY]
     rw [rz v _ (false ^^ _)]
     simp
theorem Qs (v:BitVec 32):fV v 23=VY v (axy 24).tail:=by
 simp only [fV]
 rfl
theorem J0:∀ k<5,kV k=(axy 24).tail.filter fun p=>p.testBit k:=by decide
theorem acX (v:BitVec 32) (k:Nat) (hk:k<5):(fV v 23).getLsbD k=nY v (kV k) false:=by
 rw [Qs,G6 v k (by omega),J0 k hk]
def BE:List Nat->BitVec 32->BitVec 32
 | [],w=>w
 | k::ks,w=>BE ks (bif nY w (kV k) false then w else w ||| azF 32 (2 ^ k - 1))
theorem VZ:∀ k<5,∀ p∈kV k,p<=32:=by decide
theorem acY:∀ k<5,azi (2 ^ (2 ^ k - 1))=u32 (azF 32 (2 ^ k - 1)):=by decide +kernel
theorem y5:∀ (ks:List Nat) (w:BitVec 32),(∀ k∈ks,k<5)->pj ks (u32 w)=u32 (BE ks w)
 | [],_,_=>rfl
 | k::ks,w,hk=>by
   have h1:=hk k (by simp)
   have e:=MP w (kV k) false (VZ k h1)
   simp only [pj,BE]
   rw [show G4 (u32 w) (kV k) 0=G4 (u32 w) (kV k) (false.toNat:Int) from rfl,e,acY k h1,DC]
   cases ho:nY w (kV k) false with
   | true=>
     rw [if_neg (by decide)]
     exact y5 ks _ fun q hq=>hk q (by simp [hq])
   | false=>
     rw [if_pos (by decide)]
     exact y5 ks _ fun q hq=>hk q (by simp [hq])
theorem Qt:∀ k<5,∀ q<5,k≠q->∀ p∈kV q,2 ^ k - 1≠p - 1:=by decide
theorem MQ (s:BitVec 64):∀ (ks:List Nat) (w:BitVec 32),ks.Nodup->(∀ k∈ks,k<5)->(∀ k∈ks,nY w (kV k) false=s.getLsbD k)->BE ks w=qF s ks w
 | [],_,_,_,_=>rfl
 | k::ks,w,hn,hk,h=>by
   rw [List.nodup_cons] at hn
   have h1:=h k (by simp)
   have k5:=hk k (by simp)
   simp only [BE,qF]
   have e:(bif nY w (kV k) false then w else w ||| azF 32 (2 ^ k - 1))=w ||| (bif !s.getLsbD k then azF 32 (2 ^ k - 1) else 0):=by
    rw [h1]
    cases s.getLsbD k <;> simp
   rw [e]
   refine MQ s ks _ hn.2 (fun q hq=>hk q (by simp [hq])) fun q hq=>?_
   rw [<- h q (by simp [hq])]
   apply G5
   intro p hp
   have ne:=Qt k k5 q (hk q (by simp [hq])) (fun e=>hn.1 (e ▸ hq)) p hp
   rw [azG]
   cases s.getLsbD k with
   | true=>simp
   | false=>simp [azH,ne]
theorem V0 (n:BitVec 64):BE [0,1,2,3,4] (RR n)=By n:=
 MQ (fV (RR n) 23) [0,1,2,3,4] (RR n) (by decide) (by decide) fun k hk=>(acX _ k (by simp at hk; omega)).symm
theorem V2 (v:BitVec 32):∀ n,fP.par v.toNat n=cJ v n
 | 0=>rfl
 | n+1=>by
   simp only [fP.par,cJ]
   rw [V2 v n,azx]
theorem acZ (v:BitVec 32):((bl (u32 v).toNat:Int).tmod 2==0)=!cJ v 32:=by
 have h:=fP.y4 32 v.toNat v.isLt
 rw [V2] at h
 rw [azJ (azK _)]
 have e:(u32 v).toNat=v.toNat:=by simp [u32]
 rw [e]
 cases hp:cJ v 32 <;> rw [hp] at h <;> simp [Bool.toNat] at h ⊢ <;> omega
noncomputable def V3:au:=fun args I=>match args,I with
 | [.c (.i .i64 n)],[]=>.aF (dH n) (.ret ⟨.v (.c (.i .i64 (u32 (nO (ay7 64 n))))),[]⟩)
 | _,_=>.fail
theorem aqy:Known prog [] 137 V3:=by
 refine acW.less fun args I R h=>?_
 unfold V3 at h
 split at h
 case h_2=>exact h.elim
 rename_i n
 have h1:=h.1
 have h2:R ⟨.v (.c (.i .i64 (u32 (nO (ay7 64 n))))),[]⟩:=h.2
 clear h
 have hn:=L5 h1.1 h1.2
 generalize ay7 64 n=v at *
 subst hn
 rw [JZ]
 have e0:nE (i64 v) eX 0 0=u32 (RR v):=BD v eX 0 0 (by decide) VF
 rw [e0,y5 _ _ (by decide),V0]
 have hf:=G2 (By v)
 refine ⟨⟨by decide,by decide⟩,⟨hf.1,by omega⟩,?_⟩
 rw [acZ,show (8388608:Int)=u32 8388608#32 from rfl,DC]
 unfold nO at h2
 cases hp:cJ (By v) 32 with
 | true=>
   rw [hp] at h2
   exact aW.2 (.inr ⟨rfl,h2⟩)
 | false=>
   rw [hp] at h2
   exact aW.2 (.inl ⟨rfl,h2⟩)
noncomputable def cRP:FuncId->Option au:=aE [(137,V3)]
theorem avh:∀ f T,cRP f=some T->Known prog [] f T:=(aq.cons aqy aq.nil).get
noncomputable def V4:au:=fun args I=>aD prog [] cRP [] f96 args I
theorem aka:Known prog [] 96 V4:=ah func96 rfl (by kernel_rfl) mixed avh (by kernel_rfl)
noncomputable def DD (w:Int):NS:=.v (.ag [.i .u8 (IntKind.u8.wrap w),.i .u8 (IntKind.u8.wrap (aX .i64 w 8)),.i .u8 (IntKind.u8.wrap (aX .i64 w 16))])
theorem J1 (n:Int) (R:Out->Prop):(V4 [.c (.i .i64 n)] []).run R=(dH n∧R ⟨DD (u32 (nO (ay7 64 n))),[]⟩):=by kernel_rfl
theorem G7 (v:BitVec 32) (j:Nat) (hj:j<=32):aX .i64 (u32 v) (j:Int)=u32 (v >>> j):=by
 rw [<- jG v j hj]
 unfold aX
 have e1:min (j:Int).toNat IntKind.i64.bits=j:=by
  show min (j:Int).toNat 64=j
  rw [azd]; omega
 have e2:min (j:Int).toNat IntKind.u32.bits=j:=by
  show min (j:Int).toNat 32=j
  rw [azd]; omega
 rw [e1,e2]
theorem J2 (v:BitVec 32):DD (u32 v)=JV v:=by
 unfold DD JV
 have e8:aX .i64 (u32 v) 8=_:=G7 v 8 (by decide)
 have lq:aX .i64 (u32 v) 16=_:=G7 v 16 (by decide)
 rw [e8,lq,wrap_u8,wrap_u8,wrap_u8,Nx.ofInt_u32,Nx.ofInt_u32,Nx.ofInt_u32]
 rfl
theorem V5:Known prog [] 96 MI:=by
 refine aka.less fun args I R h=>?_
 unfold MI at h
 split at h
 case h_2=>exact h.elim
 rename_i n
 rw [J1,J2]
 exact h
end j9
namespace hd
end hd
namespace tr
open Go Go.Nx pk ln hd
noncomputable def V6:au:=fun args I=>aD prog GL (fun _=>ay1) [] f162 args I
theorem akb:Known prog GL 162 V6:=ah func162 rfl (by kernel_rfl) mixed az (by kernel_rfl)
noncomputable def BF:au:=fun args I=>aD prog GL (fun _=>ay1) [] f163 args I
theorem MR:Known prog GL 163 BF:=ah func163 rfl (by kernel_rfl) mixed az (by kernel_rfl)
noncomputable def uG:FuncId->Option au:=aE [(82,Dr),(128,j9.VL)]
theorem y6:∀ f T,uG f=some T->Known prog GL f T:=(aq.cons JK (.cons (bX j9.aqu) .nil)).get
noncomputable def BG:Cx:={P:=prog,con:=uG,glob:=GL,m:=0,loops:=[]}
noncomputable def BH:au:=fun args I=>if I.length=0 then aD prog GL uG [(0,[1,4,5,9],cF BG 0 [1,4,5,9] [4,5] (ae f81 0) 14)] f81 args I else .fail
theorem Qu:Known prog GL 81 BH:=av 0 func81 rfl (by kernel_rfl) mixed y6 (aM.one (id:=0) (body:=ae f81 0) (by kernel_rfl) rfl (bL (X:=BG) y6 mixed (aM.none (by kernel_rfl)) [1,4,5,9] [4,5] 14))
def k3:List CK:=[.i .i64,.i .i64,.i .i64]
def cI (row:List Sc) (j:Nat):Int:=(row.getD j (Sc.i 0)).n
noncomputable def nR (row:List Sc):Int:=oI (oI (aI (cI row 0) 63) (bH .i64 (aI (cI row 1) 31) 6)) (bH .i64 (aI (cI row 2) 127) 11)
noncomputable def wR (row:List Sc):BitVec 32:=j9.nO (ay7 64 (nR row))
noncomputable def tw (row:List Sc):List Int:=[u8 (j9.b0 (wR row)),u8 (j9.b1 (wR row)),u8 (j9.b2 (wR row))]
def dH (n:Int):Prop:=-9223372036854775808<=n∧n<9223372036854775808
theorem i64_in (v:BitVec 64):dH (i64 v):=by
 have h1:=BitVec.le_toInt v
 have h2:=BitVec.toInt_lt (x:=v)
 unfold i64 dH
 omega
theorem cP (row:List Sc):dH (nR row):=by
 unfold nR
 generalize oI (aI (cI row 0) 63) (bH .i64 (aI (cI row 1) 31) 6)=a
 generalize bH .i64 (aI (cI row 2) 127) 11=b
 have e:oI a b=i64 (ay7 64 a ||| ay7 64 b):=ma .or a b
 rw [e]
 exact i64_in _
noncomputable def LT (code:Int) (r0 r1 r2 r3 r4 r5 r6 r7 r8 r9 wy wz wB:List Sc):List Int:=put code::(tw r0++(tw r1++(tw r2++(tw r3++(tw r4++(tw r5++(tw r6++(tw r7++(tw r8++(tw r9++(tw wy++(tw wz++(tw wB)))))))))))))
noncomputable def wK (ds:List Int) (k:Nat):BitVec 32:=j9.w3 (ay7 8 (ds.getD (3 * k) 0)) (ay7 8 (ds.getD (3 * k+1) 0)) (ay7 8 (ds.getD (3 * k+2) 0))
noncomputable def nK (ds:List Int) (k:Nat):Int:=i64 (j9.bw (wK ds k))
noncomputable def gK (ds:List Int) (k:Nat):Bool:=j9.cz (wK ds k)
def MS (ds:List Int) (k:Nat):Prop:=(0<=ds.getD (3 * k) 0∧ds.getD (3 * k) 0<256)∧(0<=ds.getD (3 * k+1) 0∧ds.getD (3 * k+1) 0<256)∧(0<=ds.getD (3 * k+2) 0∧ds.getD (3 * k+2) 0<256)
noncomputable def oNm (ds:List Int):Out:=⟨.tu [.c (.h 0 0 13),.c (.h 1 0 13)],[some ⟨1,3,.ints .i64 [nK ds 0,nK ds 1,nK ds 2,nK ds 3,nK ds 4,nK ds 5,nK ds 6,nK ds 7,nK ds 8,nK ds 9,nK ds 10,nK ds 11,nK ds 12]⟩,some ⟨1,4,.aA [.b] [[Sc.b (gK ds 0)],[Sc.b (gK ds 1)],[Sc.b (gK ds 2)],[Sc.b (gK ds 3)],[Sc.b (gK ds 4)],[Sc.b (gK ds 5)],[Sc.b (gK ds 6)],[Sc.b (gK ds 7)],[Sc.b (gK ds 8)],[Sc.b (gK ds 9)],[Sc.b (gK ds 10)],[Sc.b (gK ds 11)],[Sc.b (gK ds 12)]]⟩]⟩
theorem DE (m w k c:Int) (ds:List Int) (R:Out->Prop):(BH [.ag [.i .i64 m,.i .i64 w,.i .i64 k,.i .i64 c,.l .u8 ds]] []).run R =
 (jy ds (3 * 0) 3∧(MS ds 0∧(jy ds (3 * 1) 3∧(MS ds 1∧(jy ds (3 * 2) 3∧(MS ds 2∧(jy ds (3 * 3) 3∧(MS ds 3∧(jy ds (3 * 4) 3∧(MS ds 4∧(jy ds (3 * 5) 3∧(MS ds 5∧(jy ds (3 * 6) 3∧(MS ds 6∧(jy ds (3 * 7) 3∧(MS ds 7∧(jy ds (3 * 8) 3∧(MS ds 8∧(jy ds (3 * 9) 3∧(MS ds 9∧(jy ds (3 * 10) 3∧(MS ds 10∧(jy ds (3 * 11) 3∧(MS ds 11∧(jy ds (3 * 12) 3∧(MS ds 12∧R (oNm ds))))))))))))))))))))))))))):=by kernel_rfl
noncomputable def tf:au:=fun args I=>match args,I with
 | [.ag [.i .i64 _,.i .i64 _,.i .i64 _,.i .i64 _,.l .u8 ds]],[]=>.aF (39<=ds.length∧ds.length<1000∧∀ x∈ds,0<=x∧x<256) (.ret (oNm ds))
 | _,_=>.fail
theorem p9 {ds:List Int} (h:∀ x∈ds,0<=x∧x<256) (j:Nat):0<=ds.getD j 0∧ds.getD j 0<256:=by
 rw [axF]
 cases hj:ds[j]? with
 | none=>exact ⟨by decide,by decide⟩
 | some x=>exact h x (ayB hj)
theorem ej {ds:List Int} (f n:Nat) (h:f+n<=ds.length) (hn:f+n<1000):jy ds f n:=⟨rfl,by simp,Int.le_refl _,by omega,by omega,by omega,by omega⟩
theorem G8:Known prog GL 81 tf:=by
 refine Qu.less fun args I R h=>aJ.out ?_
 unfold tf at h
 split at h
 case h_2=>exact h.elim
 rename_i m w k c ds
 have h1:=h.1
 have h2:R (oNm ds):=h.2
 clear h
 obtain ⟨hl,hm,hb⟩:=h1
 have hi:∀ j,MS ds j:=fun j=>⟨p9 hb _,p9 hb _,p9 hb _⟩
 exact aJ.of_eq (DE m w k c ds R) ⟨ej (3 * 0) 3 (by omega) (by omega),hi 0,ej (3 * 1) 3 (by omega) (by omega),hi 1,ej (3 * 2) 3 (by omega) (by omega),hi 2,ej (3 * 3) 3 (by omega) (by omega),hi 3,ej (3 * 4) 3 (by omega) (by omega),hi 4,ej (3 * 5) 3 (by omega) (by omega),hi 5,ej (3 * 6) 3 (by omega) (by omega),hi 6,ej (3 * 7) 3 (by omega) (by omega),hi 7,ej (3 * 8) 3 (by omega) (by omega),hi 8,ej (3 * 9) 3 (by omega) (by omega),hi 9,ej (3 * 10) 3 (by omega) (by omega),hi 10,ej (3 * 11) 3 (by omega) (by omega),hi 11,ej (3 * 12) 3 (by omega) (by omega),hi 12,h2⟩
noncomputable def G9:FuncId->Option au:=aE [(81,tf)]
theorem Qv:∀ f T,G9 f=some T->Known prog GL f T:=(aq.cons G8 .nil).get
noncomputable def Ha:au:=fun args I=>aD prog GL G9 [] f37 args I
theorem V7:Known prog GL 37 Ha:=ah func37 rfl (by kernel_rfl) mixed Qv (by kernel_rfl)
noncomputable def nZ (k c:Int) (ds:List Int):Bool:=(k==5||k==6)&&((c==0||c==4)&&(gK ds 0&&(aI (nK ds 0) 15==0)))
noncomputable def J3 (ds:List Int):Int:=aI (aX .i64 (nK ds 0) 10) 15
noncomputable def oRg (n:Int) (b:Bool):Out:=⟨.tu [.c (.i .i64 n),.c (.b b)],[]⟩
def tg (ds:List Int):Prop:=39<=ds.length∧ds.length<1000∧∀ x∈ds,0<=x∧x<256
noncomputable def rgC (ds:List Int) (R:Out->Prop):Prop:=tg ds∧af (!gK ds 0) (R (oRg 0 false)) (af (aI (nK ds 0) 15 !=0) (R (oRg 0 false)) (R (oRg (J3 ds) true)))
noncomputable def rgB (c:Int) (ds:List Int) (R:Out->Prop):Prop:=af (c !=0) (af (c !=4) (R (oRg 0 false)) (rgC ds R)) (rgC ds R)
theorem Hb (m w k c:Int) (ds:List Int) (R:Out->Prop):(Ha [.ag [.i .i64 m,.i .i64 w,.i .i64 k,.i .i64 c,.l .u8 ds]] []).run R =
 af (k !=5) (af (k !=6) (R (oRg 0 false)) (rgB c ds R)) (rgB c ds R):=by kernel_rfl
noncomputable def w6:au:=fun args I=>match args,I with
 | [.ag [.i .i64 _,.i .i64 _,.i .i64 k,.i .i64 c,.l .u8 ds]],[]=>.aF (39<=ds.length∧ds.length<1000∧∀ x∈ds,0<=x∧x<256) (.ret (oRg (bif nZ k c ds then J3 ds else 0) (nZ k c ds)))
 | _,_=>.fail
theorem V8 {ds:List Int} {R:Out->Prop} (hm:tg ds) (h:R (oRg (bif gK ds 0&&(aI (nK ds 0) 15==0) then J3 ds else 0) (gK ds 0&&(aI (nK ds 0) 15==0)))):rgC ds R:=by
 refine ⟨hm,?_⟩
 cases h1:gK ds 0 with
 | false=>rw [h1] at h; exact bz rfl h
 | true=>
   rw [h1] at h
   refine cm rfl ?_
   cases h2:(aI (nK ds 0) 15==0) with
   | false=>rw [h2] at h; exact bz (by simp [bne,h2]) h
   | true=>rw [h2] at h; exact cm (by simp [bne,h2]) h
theorem V9 {c:Int} {ds:List Int} {R:Out->Prop} (hm:tg ds) (h:R (oRg (bif (c==0||c==4)&&(gK ds 0&&(aI (nK ds 0) 15==0)) then J3 ds else 0) ((c==0||c==4)&&(gK ds 0&&(aI (nK ds 0) 15==0))))):rgB c ds R:=by
 cases h1:(c==0) with
 | true=>
   rw [h1] at h
   exact cm (by simp [bne,h1]) (V8 hm h)
 | false=>
   rw [h1] at h
   refine bz (by simp [bne,h1]) ?_
   cases h2:(c==4) with
   | true=>rw [h2] at h; exact cm (by simp [bne,h2]) (V8 hm h)
   | false=>rw [h2] at h; exact bz (by simp [bne,h2]) h
theorem MT:Known prog GL 37 w6:=by
 refine V7.less fun args I R h=>aJ.out ?_
 unfold w6 at h
 split at h
 case h_2=>exact h.elim
 rename_i m w k c ds
 have hm:tg ds:=h.1
 have h2:R (oRg (bif nZ k c ds then J3 ds else 0) (nZ k c ds)):=h.2
 clear h
 refine aJ.of_eq (Hb m w k c ds R) ?_
 unfold nZ at h2
 cases h1:(k==5) with
 | true=>
   rw [h1] at h2
   exact cm (by simp [bne,h1]) (V9 hm h2)
 | false=>
   rw [h1] at h2
   refine bz (by simp [bne,h1]) ?_
   cases h3:(k==6) with
   | true=>rw [h3] at h2; exact cm (by simp [bne,h3]) (V9 hm h2)
   | false=>rw [h3] at h2; exact bz (by simp [bne,h3]) h2
noncomputable def DG:FuncId->Option au:=aE [(162,V6),(81,tf),(163,BF)]
theorem Hc:∀ f T,DG f=some T->Known prog GL f T:=(aq.cons akb (.cons G8 (.cons MR .nil))).get
noncomputable def MU:Cx:={P:=prog,con:=DG,glob:=GL,m:=0,loops:=[]}
noncomputable def MW:au:=fun args I=>if I.length=0 then aD prog GL DG [(0,[6,7,20,21,22],cF MU 0 [6,7,20,21,22] [6,7] (ae f132 0) 14)] f132 args I else .fail
theorem ac0:Known prog GL 132 MW:=av 0 func132 rfl (by kernel_rfl) mixed Hc (aM.one (id:=0) (body:=ae f132 0) (by kernel_rfl) rfl (bL (X:=MU) Hc mixed (aM.none (by kernel_rfl)) [6,7,20,21,22] [6,7] 14))
noncomputable def uH (X:Int):List Sc:=[Sc.i (aI X 63),Sc.i (aI (aX .i64 X 6) 31),Sc.i (aI (aX .i64 X 11) 127)]
noncomputable def XT (ds:List Int):List (List Sc):=[uH (nK ds 0),uH (nK ds 1),uH (nK ds 2),uH (nK ds 3),uH (nK ds 4),uH (nK ds 5),uH (nK ds 6),uH (nK ds 7),uH (nK ds 8),uH (nK ds 9),uH (nK ds 10),uH (nK ds 11),uH (nK ds 12)]
noncomputable def GT (ds:List Int):List (List Sc):=[[Sc.b (gK ds 0)],[Sc.b (gK ds 1)],[Sc.b (gK ds 2)],[Sc.b (gK ds 3)],[Sc.b (gK ds 4)],[Sc.b (gK ds 5)],[Sc.b (gK ds 6)],[Sc.b (gK ds 7)],[Sc.b (gK ds 8)],[Sc.b (gK ds 9)],[Sc.b (gK ds 10)],[Sc.b (gK ds 11)],[Sc.b (gK ds 12)]]
noncomputable def oTr (ds:List Int):Out:=⟨.tu [.c (.h 0 0 13),.c (.h 1 0 13),.c .en],[some ⟨3,112,.aA [.i .i64,.i .i64,.i .i64] (XT ds)⟩,some ⟨1,4,.aA [.b] (GT ds)⟩]⟩
theorem J4 (m w c:Int) (ds:List Int) (R:Out->Prop):(MW [.ag [.i .i64 m,.i .i64 w,.i .i64 3,.i .i64 c,.l .u8 ds]] []).run R=(tg ds∧R (oTr ds)):=by kernel_rfl
noncomputable def J5:au:=fun args I=>match args,I with
 | [.ag [.i .i64 _,.i .i64 _,.i .i64 k,.i .i64 _,.l .u8 ds]],[]=>.aF (k=3∧39<=ds.length∧ds.length<1000∧∀ x∈ds,0<=x∧x<256) (.ret (oTr ds))
 | _,_=>.fail
theorem akc:Known prog GL 132 J5:=by
 refine ac0.less fun args I R h=>aJ.out ?_
 unfold J5 at h
 split at h
 case h_2=>exact h.elim
 rename_i m w k c ds
 have h1:=h.1
 have h2:R (oTr ds):=h.2
 clear h
 obtain ⟨rfl,hm⟩:=h1
 exact aJ.of_eq (J4 m w c ds R) ⟨hm,h2⟩
end tr
namespace ts
open Go Go.Nx pk ln hd tr
noncomputable def DH:au:=fun args I=>aD prog GL (fun _=>ay1) [] f97 args I
theorem MX:Known prog GL 97 DH:=ah func97 rfl (by kernel_rfl) mixed az (by kernel_rfl)
noncomputable def mh:FuncId->Option au:=aE [(94,mf)]
theorem rA:∀ f T,mh f=some T->Known prog GL f T:=(aq.cons (bX vO) .nil).get
noncomputable def iQ:au:=fun args I=>aD prog GL mh [] f42 args I
theorem mj:Known prog GL 42 iQ:=ah func42 rfl (by kernel_rfl) mixed rA (by kernel_rfl)
noncomputable def V':FuncId->Option au:=aE [(94,mf),(96,j9.MI),(97,DH),(42,iQ)]
theorem Wa:∀ f T,V' f=some T->Known prog GL f T:=(aq.cons (bX vO) (.cons (bX j9.V5) (.cons MX (.cons mj .nil)))).get
noncomputable def ag3:Cx:={P:=prog,con:=V',glob:=GL,m:=0,loops:=[]}
noncomputable def BI:au:=fun args I=>if I.length=0 then aD prog GL V' [(0,[0,1,3,10,11],cF ag3 0 [0,1,3,10,11] [0,1,10] (ae f44 0) 14)] f44 args I else .fail
theorem aqz:Known prog GL 44 BI:=av 0 func44 rfl (by kernel_rfl) mixed Wa (aM.one (id:=0) (body:=ae f44 0) (by kernel_rfl) rfl (bL (X:=ag3) Wa mixed (aM.none (by kernel_rfl)) [0,1,3,10,11] [0,1,10] 14))
noncomputable def J6:FuncId->Option au:=aE [(94,mf),(96,j9.MI),(97,DH),(42,iQ)]
theorem MY:∀ f T,J6 f=some T->Known prog GL f T:=(aq.cons (bX vO) (.cons (bX j9.V5) (.cons MX (.cons mj .nil)))).get
noncomputable def Wb:Cx:={P:=prog,con:=J6,glob:=GL,m:=0,loops:=[]}
noncomputable def y7:au:=fun args I=>if I.length=0 then aD prog GL J6 [(0,[0,1,3,10,11],cF Wb 0 [0,1,3,10,11] [0,1,10] (ae f44 0) 0)] f44 args I else .fail
theorem akd:Known prog GL 44 y7:=av 0 func44 rfl (by kernel_rfl) mixed MY (aM.one (id:=0) (body:=ae f44 0) (by kernel_rfl) rfl (bL (X:=Wb) MY mixed (aM.none (by kernel_rfl)) [0,1,3,10,11] [0,1,10] 0))
def n0 (aR row code:Int):Bool:=decide (1<=aR∧aR<=8∧0<=code∧code<=15)&&(row==26||(row==28||row==29))
noncomputable def LTg (code:Int) (rows:List (List Sc)):List Int:=LT code (rows.getD 0 []) (rows.getD 1 []) (rows.getD 2 []) (rows.getD 3 []) (rows.getD 4 []) (rows.getD 5 []) (rows.getD 6 []) (rows.getD 7 []) (rows.getD 8 []) (rows.getD 9 []) (rows.getD 10 []) (rows.getD 11 []) (rows.getD 12 [])
theorem fE {α:Type} {l:List α} {n:Nat} (h:l.length=n+1):∃ a t,l=a::t∧t.length=n:=by
 cases l with
 | nil=>exact absurd h (by simp)
 | cons a t=>exact ⟨a,t,rfl,by simpa using h⟩
theorem ake {α:Type} {rows:List α} (h:rows.length=13):∃ r0 r1 r2 r3 r4 r5 r6 r7 r8 r9 wy wz wB,rows=[r0,r1,r2,r3,r4,r5,r6,r7,r8,r9,wy,wz,wB]:=by
 obtain ⟨r0,l1,tZ,h⟩:=fE h
 obtain ⟨r1,l2,Ez,h⟩:=fE h
 obtain ⟨r2,l3,LG,h⟩:=fE h
 obtain ⟨r3,l4,hl3,h⟩:=fE h
 obtain ⟨r4,l5,hl4,h⟩:=fE h
 obtain ⟨r5,l6,hl5,h⟩:=fE h
 obtain ⟨r6,l7,hl6,h⟩:=fE h
 obtain ⟨r7,l8,hl7,h⟩:=fE h
 obtain ⟨r8,l9,hl8,h⟩:=fE h
 obtain ⟨r9,l10,hl9,h⟩:=fE h
 obtain ⟨wy,l11,avi,h⟩:=fE h
 obtain ⟨wz,l12,avj,h⟩:=fE h
 obtain ⟨wB,l13,avk,h⟩:=fE h
 have h13:=List.eq_nil_of_length_eq_zero h
 exact ⟨r0,r1,r2,r3,r4,r5,r6,r7,r8,r9,wy,wz,wB,by rw [tZ,Ez,LG,hl3,hl4,hl5,hl6,hl7,hl8,hl9,avi,avj,avk,h13]⟩
theorem Wc {P:Program} {gl:List Nat} {f:FuncId} {A B T:au} (ha:Known P gl f A) (hb:Known P gl f B) (h:∀ args I R,(T args I).run R->aJ ((A args I).run R)∨aJ ((B args I).run R)):Known P gl f T:=
 ⟨ha.qV,fun args I R hR=>(h args I R hR).elim (fun x=>ha.sound args I R x.out) fun x=>hb.sound args I R x.out⟩
noncomputable def DI (aR row:Int):Int:=bits .or .i64 (aR.tmod 8) (IntKind.i64.wrap (bits .and .i64 row 1 * 8))
def eZ (n:Int):Prop:=0<=n∧n<16
noncomputable def J7 (aR row:Int) (ds:List Int):Out:=⟨.tu [.c (.h 0 0 (2+ds.length)),.c (.i .i64 0)],[some ⟨1,5,.ints .u8 (An aR row::Gz row::ds)⟩]⟩
def mw (n:Int):Out:=⟨.tu [.c .sn,.c (.i .i64 n)],[]⟩
theorem akf (aR code:Int) (r0 r1 r2 r3 r4 r5 r6 r7 r8 r9 wy wz wB:List Sc) (R:Out->Prop):(BI [.c (.i .i64 aR),.c (.i .i64 26),.c (.i .i64 code),.c (.lr k3 [r0,r1,r2,r3,r4,r5,r6,r7,r8,r9,wy,wz,wB])] []).run R =
 af (decide (aR<1)) (R (mw 101)) (af (decide (aR > 8)) (R (mw 101)) (af (decide (code<0)) (R (mw 101)) (af (decide (code > 15)) (R (mw 101)) (eZ code∧(dH (nR r0)∧(dH (nR r1)∧(dH (nR r2)∧(dH (nR r3)∧(dH (nR r4)∧(dH (nR r5)∧(dH (nR r6)∧(dH (nR r7)∧(dH (nR r8)∧(dH (nR r9)∧(dH (nR wy)∧(dH (nR wz)∧(dH (nR wB)∧(eZ (DI aR 26)∧(eZ (aX .i64 26 1)∧R (J7 aR 26 (LT code r0 r1 r2 r3 r4 r5 r6 r7 r8 r9 wy wz wB))))))))))))))))))))):=by kernel_rfl
theorem akg (aR code:Int) (r0 r1 r2 r3 r4 r5 r6 r7 r8 r9 wy wz wB:List Sc) (R:Out->Prop):(BI [.c (.i .i64 aR),.c (.i .i64 28),.c (.i .i64 code),.c (.lr k3 [r0,r1,r2,r3,r4,r5,r6,r7,r8,r9,wy,wz,wB])] []).run R =
 af (decide (aR<1)) (R (mw 101)) (af (decide (aR > 8)) (R (mw 101)) (af (decide (code<0)) (R (mw 101)) (af (decide (code > 15)) (R (mw 101)) (eZ code∧(dH (nR r0)∧(dH (nR r1)∧(dH (nR r2)∧(dH (nR r3)∧(dH (nR r4)∧(dH (nR r5)∧(dH (nR r6)∧(dH (nR r7)∧(dH (nR r8)∧(dH (nR r9)∧(dH (nR wy)∧(dH (nR wz)∧(dH (nR wB)∧(eZ (DI aR 28)∧(eZ (aX .i64 28 1)∧R (J7 aR 28 (LT code r0 r1 r2 r3 r4 r5 r6 r7 r8 r9 wy wz wB))))))))))))))))))))):=by kernel_rfl
theorem akh (aR code:Int) (r0 r1 r2 r3 r4 r5 r6 r7 r8 r9 wy wz wB:List Sc) (R:Out->Prop):(BI [.c (.i .i64 aR),.c (.i .i64 29),.c (.i .i64 code),.c (.lr k3 [r0,r1,r2,r3,r4,r5,r6,r7,r8,r9,wy,wz,wB])] []).run R =
 af (decide (aR<1)) (R (mw 101)) (af (decide (aR > 8)) (R (mw 101)) (af (decide (code<0)) (R (mw 101)) (af (decide (code > 15)) (R (mw 101)) (eZ code∧(dH (nR r0)∧(dH (nR r1)∧(dH (nR r2)∧(dH (nR r3)∧(dH (nR r4)∧(dH (nR r5)∧(dH (nR r6)∧(dH (nR r7)∧(dH (nR r8)∧(dH (nR r9)∧(dH (nR wy)∧(dH (nR wz)∧(dH (nR wB)∧(eZ (DI aR 29)∧(eZ (aX .i64 29 1)∧R (J7 aR 29 (LT code r0 r1 r2 r3 r4 r5 r6 r7 r8 r9 wy wz wB))))))))))))))))))))):=by kernel_rfl
noncomputable def rtA (code:Int) (rows:List (List Sc)) (R:Out->Prop):Prop:=(af (decide (code<0)) (R (mw 101)) (af (decide (code > 15)) (R (mw 101)) (af ((rows.length:Int) !=13) (R (mw 102)) (eZ code∧False))))
theorem BJ (aR row code:Int) (rows:List (List Sc)) (R:Out->Prop):(y7 [.c (.i .i64 aR),.c (.i .i64 row),.c (.i .i64 code),.c (.lr k3 rows)] []).run R =
 af (decide (aR<1)) (R (mw 101)) (af (decide (aR > 8)) (R (mw 101)) (af (row !=26) (af (row !=28) (af (row !=29) (R (mw 101)) (rtA code rows R)) (rtA code rows R)) (rtA code rows R))):=by kernel_rfl
noncomputable def MZ:au:=fun args I=>match args,I with
 | [.c (.i .i64 aR),.c (.i .i64 row),.c (.i .i64 code),.c (.lr [.i .i64,.i .i64,.i .i64] rows)],[]=>.br (n0 aR row code) (.br (decide (rows.length=13)) (.ret (J7 aR row (LTg code rows))) (.ret (mw 102))) (.ret (mw 101))
 | _,_=>.fail
theorem ac1:∀ g<8,eZ (DI (azi g+1) 26)∧eZ (DI (azi g+1) 28)∧eZ (DI (azi g+1) 29):=by unfold eZ; decide +kernel
theorem aki (mg:Int) (hg:1<=mg∧mg<=8):eZ (DI mg 26)∧eZ (DI mg 28)∧eZ (DI mg 29):=by
 have:=ac1 (mg - 1).toNat (by omega)
 have e1:azi (mg - 1).toNat+1=mg:=by show (((mg - 1).toNat:Nat):Int)+1=mg; omega
 rw [e1] at this
 exact this
theorem M0 {aR row code:Int} (h:n0 aR row code=true):(1<=aR∧aR<=8)∧(0<=code∧code<=15)∧(row=26∨row=28∨row=29):=by
 unfold n0 at h
 simp only [Bool.and_eq_true,decide_eq_true_eq,Bool.or_eq_true,beq_iff_eq] at h
 exact ⟨⟨h.1.1,h.1.2.1⟩,h.1.2.2,h.2⟩
theorem ac2 {aR row code:Int} (h:n0 aR row code=false):¬ ((1<=aR∧aR<=8)∧(0<=code∧code<=15)∧(row=26∨row=28∨row=29)):=by
 intro hc
 rw [<- azu] at h
 refine h ?_
 unfold n0
 simp only [Bool.and_eq_true,decide_eq_true_eq,Bool.or_eq_true,beq_iff_eq]
 exact ⟨⟨hc.1.1,hc.1.2,hc.2.1⟩,hc.2.2⟩
theorem J8 {aR code:Int} {E B:Prop} (hm:1<=aR∧aR<=8) (hc:0<=code∧code<=15) (h:B):af (decide (aR<1)) E (af (decide (aR > 8)) E (af (decide (code<0)) E (af (decide (code > 15)) E B))):=
 cm (dF (by omega)) (cm (dF (by omega)) (cm (dF (by omega)) (cm (dF (by omega)) h)))
theorem akj {aR row code:Int} {rows:List (List Sc)} {R:Out->Prop} (hl:rows.length≠13) (hk:n0 aR row code=true) (h:R (mw 102)):aJ ((y7 [.c (.i .i64 aR),.c (.i .i64 row),.c (.i .i64 code),.c (.lr k3 rows)] []).run R):=by
 refine aJ.of_eq (BJ aR row code rows R) ?_
 obtain ⟨hm,hc,hr⟩:=M0 hk
 have ha:rtA code rows R:=cm (dF (by omega)) (cm (dF (by omega)) (bz (by rw [bne_iff_ne]; omega) h))
 rcases hr with rfl | rfl | rfl
 ·exact cm (dF (by omega)) (cm (dF (by omega)) (cm rfl ha))
 ·exact cm (dF (by omega)) (cm (dF (by omega)) (bz rfl (cm rfl ha)))
 ·exact cm (dF (by omega)) (cm (dF (by omega)) (bz rfl (bz rfl (cm rfl ha))))
theorem akk {aR row code:Int} {rows:List (List Sc)} {R:Out->Prop} (hl:rows.length=13) (hk:n0 aR row code=true) (h:R (J7 aR row (LTg code rows))):aJ ((BI [.c (.i .i64 aR),.c (.i .i64 row),.c (.i .i64 code),.c (.lr k3 rows)] []).run R):=by
 obtain ⟨r0,r1,r2,r3,r4,r5,r6,r7,r8,r9,wy,wz,wB,rfl⟩:=ake hl
 obtain ⟨hm,hc,hr⟩:=M0 hk
 have h:R (J7 aR row (LT code r0 r1 r2 r3 r4 r5 r6 r7 r8 r9 wy wz wB)):=h
 have hg:=aki aR hm
 have lJ : eZ code:=⟨hc.1,by omega⟩
 rcases hr with rfl | rfl | rfl
 ·exact aJ.of_eq (akf aR code r0 r1 r2 r3 r4 r5 r6 r7 r8 r9 wy wz wB R) (J8 hm hc ⟨lJ,cP r0,cP r1,cP r2,cP r3,cP r4,cP r5,cP r6,cP r7,cP r8,cP r9,cP wy,cP wz,cP wB,hg.1,by unfold eZ; decide +kernel,h⟩)
 ·exact aJ.of_eq (akg aR code r0 r1 r2 r3 r4 r5 r6 r7 r8 r9 wy wz wB R) (J8 hm hc ⟨lJ,cP r0,cP r1,cP r2,cP r3,cP r4,cP r5,cP r6,cP r7,cP r8,cP r9,cP wy,cP wz,cP wB,hg.2.1,by unfold eZ; decide +kernel,h⟩)
 ·exact aJ.of_eq (akh aR code r0 r1 r2 r3 r4 r5 r6 r7 r8 r9 wy wz wB R) (J8 hm hc ⟨lJ,cP r0,cP r1,cP r2,cP r3,cP r4,cP r5,cP r6,cP r7,cP r8,cP r9,cP wy,cP wz,cP wB,hg.2.2,by unfold eZ; decide +kernel,h⟩)
theorem akl {aR row code:Int} {rows:List (List Sc)} {R:Out->Prop} (hk:n0 aR row code=false) (h:R (mw 101)):aJ ((y7 [.c (.i .i64 aR),.c (.i .i64 row),.c (.i .i64 code),.c (.lr k3 rows)] []).run R):=by
 refine aJ.of_eq (BJ aR row code rows R) ?_
 have hn:=ac2 hk
 refine dW (fun _=>h) fun h1=>dW (fun _=>h) fun h2=>?_
 have ha:(row=26∨row=28∨row=29)->rtA code rows R:=fun hr=>dW (fun _=>h) fun h3=>dW (fun _=>h) fun h4=>(hn ⟨⟨by omega,by omega⟩,⟨by omega,by omega⟩,hr⟩).elim
 by_cases a:row=26
 ·exact cm (by simp [bne,a]) (ha (.inl a))
 ·refine bz (by rw [bne_iff_ne]; exact a) ?_
  by_cases b:row=28
  ·exact cm (by simp [bne,b]) (ha (.inr (.inl b)))
  ·refine bz (by rw [bne_iff_ne]; exact b) ?_
   by_cases c:row=29
   ·exact cm (by simp [bne,c]) (ha (.inr (.inr c)))
   ·exact bz (by rw [bne_iff_ne]; exact c) h
theorem ac3 {aR row code:Int} {rows:List (List Sc)} {R:Out->Prop} (h:af (n0 aR row code) (af (decide (rows.length=13)) (R (J7 aR row (LTg code rows))) (R (mw 102))) (R (mw 101))):aJ ((BI [.c (.i .i64 aR),.c (.i .i64 row),.c (.i .i64 code),.c (.lr k3 rows)] []).run R)∨aJ ((y7 [.c (.i .i64 aR),.c (.i .i64 row),.c (.i .i64 code),.c (.lr k3 rows)] []).run R):=by
 cases hk:n0 aR row code with
 | false=>
   rw [hk] at h
   exact .inr (akl hk h)
 | true=>
   by_cases hl:rows.length=13
   ·rw [hk,dT hl] at h
    exact .inl (akk hl hk h)
   ·rw [hk,dF hl] at h
    exact .inr (akj hl hk h)
theorem ag4:Known prog GL 44 MZ:=by
 refine Wc aqz akd fun args I R h=>?_
 unfold MZ at h
 split at h
 case h_2=>exact h.elim
 exact ac3 h
end ts
namespace lb
open Go Go.Nx pk ln hd
noncomputable def Wg:au:=fun args I=>aD prog GL (fun _=>ay1) [] f84 args I
theorem akm:Known prog GL 84 Wg:=ah func84 rfl (by kernel_rfl) mixed az (by kernel_rfl)
theorem Qw (n:Int) (R:Out->Prop):(Wg [.c (.i .i64 n)] []).run R=af (n.tmod 8 !=0) (R ⟨.v (.c (.i .i64 (n.tmod 8))),[]⟩) (R ⟨.v (.c (.i .i64 8)),[]⟩):=by kernel_rfl
noncomputable def M1:au:=fun args I=>match args,I with
 | [.c (.i .i64 n)],[]=>.ret ⟨.v (.c (.i .i64 (nN n))),[]⟩
 | _,_=>.fail
theorem ag5:Known prog GL 84 M1:=by
 refine akm.less fun args I R h=>aJ.out ?_
 unfold M1 at h
 split at h
 case h_2=>exact h.elim
 rename_i n
 have h2:R ⟨.v (.c (.i .i64 (nN n))),[]⟩:=h
 clear h
 refine aJ.of_eq (Qw n R) ?_
 unfold nN at h2
 cases hm:(n.tmod 8==0) with
 | true=>rw [hm] at h2; exact cm (by simp [bne,hm]) h2
 | false=>rw [hm] at h2; exact bz (by simp [bne,hm]) h2
noncomputable def DJ:FuncId->Option au:=aE [(82,Dr),(73,UP),(83,ach),(84,M1)]
theorem He:∀ f T,DJ f=some T->Known prog GL f T:=(aq.cons JK (.cons ajP (.cons ajL (.cons ag5 .nil)))).get
noncomputable def M3:Cx:={P:=prog,con:=DJ,glob:=GL,m:=0,loops:=[]}
noncomputable def M4:au:=fun args I=>if I.length=0 then aD prog GL DJ [(0,[1,2,4,21],cF M3 0 [1,2,4,21] [2,4] (ae f134 0) 7)] f134 args I else .fail
theorem ac4:Known prog GL 134 M4:=av 0 func134 rfl (by kernel_rfl) mixed He (aM.one (id:=0) (body:=ae f134 0) (by kernel_rfl) rfl (bL (X:=M3) He mixed (aM.none (by kernel_rfl)) [1,2,4,21] [2,4] 7))
noncomputable def uI (ds:List Int) (k:Nat):Bool:=[ds.getD (6 * k) 0,ds.getD (6 * k+1) 0,ds.getD (6 * k+2) 0,ds.getD (6 * k+3) 0,ds.getD (6 * k+4) 0,ds.getD (6 * k+5) 0].all cz
noncomputable def lkM (m:Int) (ds:List Int) (k:Nat):Int:=nN (bits .xor .i64 (aI m 7) (oI (aX .i64 (G ds (6 * k+3)) 3) (bH .i64 (aX .i64 (G ds (6 * k+5)) 2) 1)))
noncomputable def lkP (ds:List Int) (k:Nat):Int:=ajS (G ds (6 * k)) (G ds (6 * k+1))
noncomputable def lkS (ds:List Int) (k:Nat):Int:=aqc (G ds (6 * k+2)) (G ds (6 * k+3)) (G ds (6 * k+4)) (G ds (6 * k+5))
noncomputable def lkC (m:Int) (ds:List Int) (r:Nat->Bool):List NC:=[.i .i64 (bif r 0 then lkM m ds 0 else 0),.i .i64 (bif r 0 then lkP ds 0 else 0),.i .i64 (bif r 0 then lkS ds 0 else 0),.i .i64 (bif r 1 then lkM m ds 1 else 0),.i .i64 (bif r 1 then lkP ds 1 else 0),.i .i64 (bif r 1 then lkS ds 1 else 0),.i .i64 (bif r 2 then lkM m ds 2 else 0),.i .i64 (bif r 2 then lkP ds 2 else 0),.i .i64 (bif r 2 then lkS ds 2 else 0),.i .i64 (bif r 3 then lkM m ds 3 else 0),.i .i64 (bif r 3 then lkP ds 3 else 0),.i .i64 (bif r 3 then lkS ds 3 else 0),.i .i64 (bif r 4 then lkM m ds 4 else 0),.i .i64 (bif r 4 then lkP ds 4 else 0),.i .i64 (bif r 4 then lkS ds 4 else 0),.i .i64 (bif r 5 then lkM m ds 5 else 0),.i .i64 (bif r 5 then lkP ds 5 else 0),.i .i64 (bif r 5 then lkS ds 5 else 0)]
noncomputable def oLk (m:Int) (ds:List Int) (r:Nat->Bool):Out:=⟨.tu [.ag (lkC m ds r),.c .en],[]⟩
def oLE:Out:=⟨.tu [.ag [.i .i64 0,.i .i64 0,.i .i64 0,.i .i64 0,.i .i64 0,.i .i64 0,.i .i64 0,.i .i64 0,.i .i64 0,.i .i64 0,.i .i64 0,.i .i64 0,.i .i64 0,.i .i64 0,.i .i64 0,.i .i64 0,.i .i64 0,.i .i64 0],.c (.e fN)],[]⟩
noncomputable def lkE (ds:List Int) (F:List Bool->Prop):List Nat->Prop
 | []=>F []
 | k::ks=>jy ds (6 * k) 6∧af (uI ds k) (lkE ds (fun r=>F (true::r)) ks) (lkE ds (fun r=>F (false::r)) ks)
theorem J9 (ds:List Int):∀ (ks:List Nat) (F:List Bool->Prop),(∀ k∈ks,jy ds (6 * k) 6)->F (ks.map (uI ds))->lkE ds F ks
 | [],_,_,h=>h
 | k::ks,F,hm,h=>by
   refine ⟨hm k (by simp),?_⟩
   have h:F (uI ds k::ks.map (uI ds)):=h
   cases hk:uI ds k with
   | true=>rw [hk] at h; exact bz rfl (J9 ds ks _ (fun j hj=>hm j (by simp [hj])) h)
   | false=>rw [hk] at h; exact cm rfl (J9 ds ks _ (fun j hj=>hm j (by simp [hj])) h)
def asF (r:List Bool) (k:Nat):Bool:=r.getD k false
theorem Ka (m w k c:Int) (ds:List Int) (R:Out->Prop):(M4 [.ag [.i .i64 m,.i .i64 w,.i .i64 k,.i .i64 c,.l .u8 ds]] []).run R =
 af (k !=4) (R oLE) (af (c !=0) (R oLE) (lkE ds (fun r=>R (oLk m ds (asF r))) [0,1,2,3,4,5])):=by kernel_rfl
noncomputable def xM (aR m:Int):Int:=bits .and .i64 (bits .xor .i64 aR m) 7
noncomputable def Kb:au:=fun args I=>match args,I with
 | [.ag [.i .i64 m,.i .i64 _,.i .i64 k,.i .i64 c,.l .u8 ds]],[]=>.aF (k=4∧c=0∧36<=ds.length∧ds.length<1000) (.ret (oLk m ds (asF ([0,1,2,3,4,5].map (uI ds)))))
 | _,_=>.fail
theorem akn:Known prog GL 134 Kb:=by
 refine ac4.less fun args I R h=>aJ.out ?_
 unfold Kb at h
 split at h
 case h_2=>exact h.elim
 rename_i m w k c ds
 have h1:=h.1
 have h2:R (oLk m ds (asF ([0,1,2,3,4,5].map (uI ds)))):=h.2
 clear h
 obtain ⟨rfl,rfl,hl,hm⟩:=h1
 refine aJ.of_eq (Ka m w 4 0 ds R) (cm rfl (cm rfl (J9 ds [0,1,2,3,4,5] _ (fun k hk=>?_) h2)))
 have hk:k<=5:=by
  simp only [List.mem_cons,List.not_mem_nil,or_false] at hk
  omega
 exact ⟨rfl,by simp,Int.le_refl _,by omega,by omega,by omega,by omega⟩
end lb
namespace cH
open Go Go.Nx pk ac bR wX dec
noncomputable def tj (m:Mv):aG:=⟨1081,92,.sg (lp (U2 m) [] fun q=>[.cells q])⟩
noncomputable def ag6:au:=da [] [0,1] [] [] 0 tr.J5
theorem aqA:Known prog GL 132 ag6:=tr.akc.soft [] [0,1] [] [] 0
theorem Wh (m w k c:Int) (ds:List Int) (R:Out->Prop):(ag6 [.ag [.i .i64 m,.i .i64 w,.i .i64 k,.i .i64 c,.l .u8 ds]] []).run R =
 ((k=3∧39<=ds.length∧ds.length<1000∧∀ x∈ds,0<=x∧x<256)∧(13=13∧(13=13∧R ⟨.tu [.c (.lr K3 (tr.XT ds)),.c (.lr [.b] (tr.GT ds)),.c .en],[]⟩))):=by kernel_rfl
noncomputable def ako:au:=fun args I=>match args,I with
 | [.ag [.i _ m,.i _ w,.i _ k,.i _ c,.l _ ds]],[]=>.aF (args=[.ag [.i .i64 m,.i .i64 w,.i .i64 k,.i .i64 c,.l .u8 ds]]∧k=3∧ds.length=39∧∀ x∈ds,0<=x∧x<256) (.ret ⟨.tu [.c (.lr K3 (tr.XT ds)),.c (.lr [.b] (tr.GT ds)),.c .en],[]⟩)
 | _,_=>.fail
theorem avl:Known prog GL 132 ako:=by
 refine aqA.less fun args I R h=>aJ.out ?_
 unfold ako at h
 split at h
 case h_2=>exact h.elim
 rename_i _ m _ w _ k _ c _ ds
 obtain ⟨⟨h1,hk,hl,hb⟩,h⟩:=h
 rw [h1]
 exact aJ.of_eq (Wh m w k c ds R) ⟨⟨hk,by omega,by omega,hb⟩,rfl,rfl,h⟩
noncomputable def ag7:FuncId->Option au:=aE [(132,ako),(133,ajB)]
theorem akp:∀ f T,ag7 f=some T->Known prog GL f T:=(aq.cons avl (.cons au7 .nil)).get
noncomputable def M5:au:=fun args I=>aD prog GL ag7 [] f90 args I
theorem aqB:Known prog GL 90 M5:=ah func90 rfl (by kernel_rfl) mixed akp (by kernel_rfl)
noncomputable def ag8:FuncId->Option au:=aE [(134,lb.Kb)]
theorem akq:∀ f T,ag8 f=some T->Known prog GL f T:=(aq.cons lb.akn .nil).get
noncomputable def M6:au:=fun args I=>aD prog GL ag8 [] f91 args I
theorem aqC:Known prog GL 91 M6:=ah func91 rfl (by kernel_rfl) mixed akq (by kernel_rfl)
noncomputable def oMg (m:Mv):Out:=⟨.v (.c .en),[some (tj m)]⟩
noncomputable def vP (mg:Int) (ds:List Int) (k:Nat):List Sc:=[.i (bif lb.asF ([0,1,2,3,4,5].map (lb.uI ds)) k then lb.lkM mg ds k else 0),.i (bif lb.asF ([0,1,2,3,4,5].map (lb.uI ds)) k then lb.lkP ds k else 0),.i (bif lb.asF ([0,1,2,3,4,5].map (lb.uI ds)) k then lb.lkS ds k else 0)]
noncomputable def lkR (mg:Int) (ds:List Int):List (List Sc):=[vP mg ds 0,vP mg ds 1,vP mg ds 2,vP mg ds 3,vP mg ds 4,vP mg ds 5]
def Mv.with (m:Mv) (p:Pg):Mv:={m with p:=p}
theorem Wi (m:Mv) (p:Px) (R:Out->Prop):(M5 [.c (.p 0 0 0),p.nv] [tj m]).run R =
 (([p.nv]=[p.nv]∧p.kd=3∧p.ds.length=39∧∀ x∈p.ds,0<=x∧x<256)∧af (decide (p.cd<=14)) (([fa m.p,.c (.i .i64 p.cd),.c (.lr K3 (tr.XT p.ds))]=[fa m.p,.c (.i .i64 p.cd),.c (.lr K3 (tr.XT p.ds))]∧m.p.ex.length<=1000000)∧
   R (oMg (m.with (nB m.p p.cd (tr.XT p.ds))))) (R (oMg m))):=by kernel_rfl
theorem Wj (m:Mv) (p:Px) (R:Out->Prop):(M6 [.c (.p 0 0 0),p.nv] [tj m]).run R =
 af (p.cd !=0) (R (oMg m)) ((p.kd=4∧p.cd=0∧36<=p.ds.length∧p.ds.length<1000)∧R (oMg (m.with {m.p with lk:=lkR p.mg p.ds,ld:=true}))):=by kernel_rfl
def aqD:List aG->Option Mv
 | [⟨_,_,.sg l⟩]=>some (Ao l 0 0)
 | _=>none
noncomputable def Mv.extra (m:Mv) (p:Px):Mv:=match decide (p.cd<=14) with
 | true=>m.with (nB m.p p.cd (tr.XT p.ds))
 | false=>m
noncomputable def Mv.linked (m:Mv) (p:Px):Mv:=match p.cd !=0 with
 | true=>m
 | false=>m.with {m.p with lk:=lkR p.mg p.ds,ld:=true}
def akr:NV->Option Px
 | .ag [.i _ a,.i _ b,.i _ c,.i _ d,.l _ ds]=>some ⟨a,b,c,d,ds⟩
 | _=>none
noncomputable def tEx:au:=fun args I=>match args with
 | [.c (.p 0 0 0),v]=>(match akr v,aqD I with
   | some p,some m=>.aF ((args=[.c (.p 0 0 0),p.nv]∧I=[tj m])∧(p.kd=3∧p.ds.length=39∧∀ x∈p.ds,0<=x∧x<256)∧fits m.p) (.ret (oMg (m.extra p)))
   | _,_=>.fail)
 | _=>.fail
noncomputable def tLk:au:=fun args I=>match args with
 | [.c (.p 0 0 0),v]=>(match akr v,aqD I with
   | some p,some m=>.aF ((args=[.c (.p 0 0 0),p.nv]∧I=[tj m])∧(p.kd=4∧p.ds.length=39)) (.ret (oMg (m.linked p)))
   | _,_=>.fail)
 | _=>.fail
attribute [local irreducible] M5 M6 in
theorem kEx:Known prog GL 90 tEx:=by
 refine aqB.less fun args I R h=>?_
 unfold tEx at h
 split at h
 case h_2=>exact h.elim
 split at h
 case h_2=>exact h.elim
 rename_i p m _ _
 obtain ⟨⟨⟨h1,h2⟩,⟨hk,hl,hb⟩,hf⟩,h⟩:=h
 rw [h1,h2]
 refine (Wi m p R).mpr ⟨⟨rfl,hk,hl,hb⟩,?_⟩
 have h:R (oMg (m.extra p)):=h
 unfold Mv.extra at h
 unfold fits at hf
 cases hc:decide (p.cd<=14) with
 | true=>rw [hc] at h; exact sT rfl ⟨⟨rfl,by omega⟩,h⟩
 | false=>rw [hc] at h; exact sF rfl h
attribute [local irreducible] M5 M6 in
theorem kLk:Known prog GL 91 tLk:=by
 refine aqC.less fun args I R h=>?_
 unfold tLk at h
 split at h
 case h_2=>exact h.elim
 split at h
 case h_2=>exact h.elim
 rename_i p m _ _
 obtain ⟨⟨⟨h1,h2⟩,hk,hl⟩,h⟩:=h
 rw [h1,h2]
 refine (Wj m p R).mpr ?_
 have h:R (oMg (m.linked p)):=h
 unfold Mv.linked at h
 cases hc:(p.cd !=0) with
 | true=>rw [hc] at h; exact sT rfl h
 | false=>
   rw [hc] at h
   refine sF rfl ⟨⟨hk,by simpa using hc,by omega,by omega⟩,h⟩
noncomputable def ag9:FuncId->Option au:=aE [(89,JF),(90,tEx),(91,tLk),(37,tr.w6)]
theorem aks:∀ f T,ag9 f=some T->Known prog GL f T:=(aq.cons ajx (.cons kEx (.cons kLk (.cons tr.MT .nil)))).get
noncomputable def Wk:au:=fun args I=>aD prog GL ag9 [] f39 args I
theorem akt:bP prog GL 39 Wk:=dp func39 rfl (by kernel_rfl) mixed aks (by kernel_rfl)
noncomputable def qG:au:=da [] [] [] [] 9 (iM 8 [(1,2,aY [])] none Wk)
theorem aqE:Known prog GL 39 qG:=(akt.canon 8 [(1,2,aY [])] none).soft [] [] [] [] 9
def Mc.kW (M:Mc) (g:Nat) (m:Mv):Mc:={M with v:=pH M.v g m}
theorem y8 (M:Mc) (g:Nat):M.kW g (M.v g)=M:=by
 have:pH M.v g (M.v g)=M.v:=by
  funext k
  by_cases e:k=g
  ·subst e; exact o9 _ _ _
  ·exact jM e
 unfold Mc.kW
 rw [this]
noncomputable def rgT (k c:Int) (ds:List Int) (A B:Prop):Prop:=(39<=ds.length∧ds.length<1000∧∀ x∈ds,0<=x∧x<256)∧af (tr.nZ k c ds) A B
noncomputable def RS (k c:Int) (ds:List Int):Int:=bif tr.nZ k c ds then tr.J3 ds else 0
noncomputable def inT (M:Mc) (g:Nat) (row kd cd:Int) (ds:List Int) (R:Out->Prop):Prop:=
 af (!(M.v g).TQ) (R (ki M .en)) (af (kd==2)
  (([fa (M.v g).p,.c (.i .i64 row),.c (.l .u8 ds)]=[fa (M.v g).p,.c (.i .i64 row),.c (.l .u8 ds)]∧(M.v g).p.ex.length<=1000000∧∀ b∈ds,0<=b∧b<256)∧R (ki (M.kW g ((M.v g).with (Dk (M.v g).p row ds))) .en))
  (af (kd==3) ((([NV.c (.p 0 0 0),(⟨(g:Int),row,kd,cd,ds⟩:Px).nv]=[.c (.p 0 0 0),(⟨(g:Int),row,kd,cd,ds⟩:Px).nv]∧[tj (M.v g)]=[tj (M.v g)])∧(kd=3∧ds.length=39∧∀ x∈ds,0<=x∧x<256)∧fits (M.v g).p)∧R (ki (M.kW g ((M.v g).extra ⟨g,row,kd,cd,ds⟩)) .en))
  (af (kd==4) ((([NV.c (.p 0 0 0),(⟨(g:Int),row,kd,cd,ds⟩:Px).nv]=[.c (.p 0 0 0),(⟨(g:Int),row,kd,cd,ds⟩:Px).nv]∧[tj (M.v g)]=[tj (M.v g)])∧(kd=4∧ds.length=39))∧R (ki (M.kW g ((M.v g).linked ⟨g,row,kd,cd,ds⟩)) .en))
  (af (kd==5) (rgT kd cd ds (R (ki (M.kW g ((M.v g).with {(M.v g).p with df:=IntKind.i64.wrap (1+RS kd cd ds)})) .en)) (R (ki M .en))) (R (ki M .en))))))
theorem Wl (M:Mc) (row kd cd:Int) (ds:List Int) (R:Out->Prop):(qG [.c (.p 0 0 0),(⟨1,row,kd,cd,ds⟩:Px).nv] (dO M)).run R=inT M 1 row kd cd ds R:=by kernel_rfl
theorem Wm (M:Mc) (row kd cd:Int) (ds:List Int) (R:Out->Prop):(qG [.c (.p 0 0 0),(⟨2,row,kd,cd,ds⟩:Px).nv] (dO M)).run R=inT M 2 row kd cd ds R:=by kernel_rfl
theorem Wn (M:Mc) (row kd cd:Int) (ds:List Int) (R:Out->Prop):(qG [.c (.p 0 0 0),(⟨3,row,kd,cd,ds⟩:Px).nv] (dO M)).run R=inT M 3 row kd cd ds R:=by kernel_rfl
theorem Wo (M:Mc) (row kd cd:Int) (ds:List Int) (R:Out->Prop):(qG [.c (.p 0 0 0),(⟨4,row,kd,cd,ds⟩:Px).nv] (dO M)).run R=inT M 4 row kd cd ds R:=by kernel_rfl
theorem Wp (M:Mc) (row kd cd:Int) (ds:List Int) (R:Out->Prop):(qG [.c (.p 0 0 0),(⟨5,row,kd,cd,ds⟩:Px).nv] (dO M)).run R=inT M 5 row kd cd ds R:=by kernel_rfl
theorem Wq (M:Mc) (row kd cd:Int) (ds:List Int) (R:Out->Prop):(qG [.c (.p 0 0 0),(⟨6,row,kd,cd,ds⟩:Px).nv] (dO M)).run R=inT M 6 row kd cd ds R:=by kernel_rfl
theorem Wr (M:Mc) (row kd cd:Int) (ds:List Int) (R:Out->Prop):(qG [.c (.p 0 0 0),(⟨7,row,kd,cd,ds⟩:Px).nv] (dO M)).run R=inT M 7 row kd cd ds R:=by kernel_rfl
theorem Ws (M:Mc) (row kd cd:Int) (ds:List Int) (R:Out->Prop):(qG [.c (.p 0 0 0),(⟨8,row,kd,cd,ds⟩:Px).nv] (dO M)).run R=inT M 8 row kd cd ds R:=by kernel_rfl
end cH
namespace sv
open Go Go.Nx pk ln hd lb
noncomputable def Wt:au:=fun args I=>aD prog GL (fun _=>ay1) [] f129 args I
theorem aku:Known prog GL 129 Wt:=ah func129 rfl (by kernel_rfl) mixed az (by kernel_rfl)
noncomputable def M7:FuncId->Option au:=aE [(129,Wt)]
theorem Wu:∀ f T,M7 f=some T->Known prog GL f T:=(aq.cons aku .nil).get
noncomputable def M8:au:=fun args I=>aD prog GL M7 [] f85 args I
theorem ac5:Known prog GL 85 M8:=ah func85 rfl (by kernel_rfl) mixed Wu (by kernel_rfl)
noncomputable def M9:au:=fun args I=>aD prog GL (fun _=>ay1) [] f131 args I
theorem ac6:Known prog GL 131 M9:=ah func131 rfl (by kernel_rfl) mixed az (by kernel_rfl)
noncomputable def DK:FuncId->Option au:=aE [(86,JI)]
theorem Hf:∀ f T,DK f=some T->Known prog GL f T:=(aq.cons ajK .nil).get
noncomputable def M':Cx:={P:=prog,con:=DK,glob:=GL,m:=0,loops:=[]}
noncomputable def nF:au:=fun args I=>if I.length=0 then aD prog GL DK [(0,[1,3,7,12,13],cF M' 0 [1,3,7,12,13] [7] (ae f82 0) 21)] f82 args I else .fail
theorem Na:Known prog GL 82 nF:=av 0 func82 rfl (by kernel_rfl) mixed Hf (aM.one (id:=0) (body:=ae f82 0) (by kernel_rfl) rfl (bL (X:=M') Hf mixed (aM.none (by kernel_rfl)) [1,3,7,12,13] [7] 21))
def BK (x:Int):Bool:=!Gc x
noncomputable def aU (a b:Int):Int:=bits .and .u8 a b
noncomputable def oU (a b:Int):Int:=bits .or .u8 a b
theorem Qx (b:Int) (R:Out->Prop):(C6 [.c (.i .u8 b)] []).run R=af (decide (0<=b)) (af (decide (b<(ij.size:Int))) (R (oB ((IntKind.i64.wrap (cA ij b.toNat)).tmod 2==1))) False) False:=by kernel_rfl
theorem Dj:∀ n<256,((IntKind.i64.wrap (cA ij n)).tmod 2==1)=BK (azi n):=by decide +kernel
noncomputable def Wv:au:=fun args I=>match args,I with
 | [.c (.i .u8 b)],[]=>.aF (0<=b∧b<256) (.ret (oB (BK b)))
 | _,_=>.fail
theorem aqF:Known prog GL 146 Wv:=by
 refine (bX Jm).less fun args I R h=>aJ.out ?_
 unfold Wv at h
 split at h
 case h_2=>exact h.elim
 rename_i b
 have h1:=h.1
 have h2:R (oB (BK b)):=h.2
 clear h
 refine aJ.of_eq (Qx b R) (bz (dT h1.1) (bz (dT (by rw [sR]; exact h1.2)) ?_))
 obtain ⟨n,hn,rfl⟩:=oX h1
 rw [show (azi n).toNat=n from rfl,Dj n hn]
 exact h2
noncomputable def y9 (c:Int):Int:=bif BK (aU c 127) then aU c 127 else oU (aU c 127) 128
theorem Ww (a b:Int):0<=aU a b∧aU a b<256:=by
 unfold aU bits
 rw [azf]
 omega
theorem ag' (a b:Int):0<=oU a b∧oU a b<256:=by
 unfold oU bits
 rw [azf]
 omega
theorem Wx (c:Int):0<=y9 c∧y9 c<256:=by
 unfold y9
 cases BK (aU c 127) with
 | true=>exact Ww _ _
 | false=>exact ag' _ _
noncomputable def Kc:au:=fun args I=>match args,I with
 | [.c (.i .u8 c)],[]=>.ret ⟨.v (.c (.i .u8 (y9 c))),[]⟩
 | _,_=>.fail
def aqG (x:Nat):Nat:=(axy 8).foldl (fun a i=>a+(x / 2 ^ i % 2) * 2 ^ (7 - i)) 0
def rv (b:Int):Int:=(aqG b.toNat:Int)
noncomputable def ac7:ByteArray:=⟨((axy 256).map fun i=>UInt8.ofNat (aqG i)).toArray⟩
theorem uJ (b:Int) (R:Out->Prop):(M8 [.c (.i .u8 b)] []).run R=af (decide (0<=b)) (af (decide (b<(ac7.size:Int))) (R ⟨.v (.c (.i .u8 (cA ac7 b.toNat))),[]⟩) False) False:=by kernel_rfl
theorem Qy:ac7.size=256:=by decide +kernel
theorem Wy:∀ n<256,cA ac7 n=rv (azi n):=by decide +kernel
noncomputable def qH:au:=fun args I=>match args,I with
 | [.c (.i .u8 b)],[]=>.aF (0<=b∧b<256) (.ret ⟨.v (.c (.i .u8 (rv b))),[]⟩)
 | _,_=>.fail
theorem Wz:Known prog GL 85 qH:=by
 refine ac5.less fun args I R h=>aJ.out ?_
 unfold qH at h
 split at h
 case h_2=>exact h.elim
 rename_i b
 have h1:=h.1
 have h2:R ⟨.v (.c (.i .u8 (rv b))),[]⟩:=h.2
 clear h
 refine aJ.of_eq (uJ b R) (bz (dT h1.1) (bz (dT (by rw [Qy]; exact h1.2)) ?_))
 obtain ⟨n,hn,rfl⟩:=oX h1
 rw [show (azi n).toNat=n from rfl,Wy n hn]
 exact h2
noncomputable abbrev WA:=f130
noncomputable def akv:Cx:={P:=prog,con:=fun _=>ay1,glob:=GL,m:=0,loops:=[]}
noncomputable def sDg (bs:List Int) (n k:Int):St:={fr:=frame 41 [(0,.v (.c (.l .u8 bs))),(6,.v (.c (.i .i64 n))),(7,.v (.c (.i .i64 k)))],rg:=[]}
noncomputable def dDg (n:Int):St:={fr:=frame 41 [(6,.v (.c (.i .i64 n)))],rg:=[]}
noncomputable def rDg (n:Int):St:={fr:=frame 41 [(4,.v (.c (.i .i64 0))),(5,.v (.c (.b false))),(6,.v (.c (.i .i64 n)))],rg:=[]}
noncomputable def kD (k:Int):Int:=IntKind.i64.wrap (k.tdiv 2)
noncomputable def shD (k:Int):Int:=IntKind.i64.wrap (4 - IntKind.i64.wrap (4 * k.tmod 2))
noncomputable def Qz (bs:List Int) (k:Int):Int:=IntKind.i64.wrap (IntKind.i64.wrap (aU (aX .u8 (bs.getD (kD k).toNat 0) (shD k)) 15) - 1)
noncomputable def ac (n d:Int):Int:=IntKind.i64.wrap (IntKind.i64.wrap (10 * n)+d)
theorem WB (bs:List Int) (n k:Int) (R:RO->Prop):(bu akv 0 [0,6,7] [4,5,6] (ae WA 0) (sDg bs n k)).run R =
 af (decide (k<IntKind.i64.wrap (2 * (bs.length:Int)))) (af (decide (0<=kD k)) (af (decide (kD k<(bs.length:Int))) (af (decide ((kD k).toNat<bs.length)) (af (decide (0<=shD k)) (af (decide (Qz bs k<0)) (R (.done .ret (rDg n))) (af (decide (Qz bs k > 9)) (R (.done .ret (rDg n))) (R (.next (sDg bs (ac n (Qz bs k)) (IntKind.i64.wrap (k+1))))))) False) False) False) False) (R (.done .normal (dDg n))):=by kernel_rfl
def okd (d:Int):Bool:=!(decide (d<0)||decide (d > 9))
noncomputable def Hg (bs:List Int):Nat->Nat->Int->Bool × Int
 | 0,_,n=>(true,n)
 | r+1,k,n=>bif okd (Qz bs (k:Int)) then Hg bs r (k+1) (ac n (Qz bs (k:Int))) else (false,n)
noncomputable def pDg:List gw:=FY 41 [(0,.l .u8),(6,.i .i64),(7,.i .i64)]
noncomputable def lDg:List cE × List (List cE)->Tr (aj × St):=fun x=>match x with
 | ([.l bs,.i n,.i k],[])=>.aF (bs.length<1000∧0<=k∧k<=2 * (bs.length:Int)) (.br (Hg bs (2 * bs.length - k.toNat) k.toNat n).1 (.ret (.normal,dDg (Hg bs (2 * bs.length - k.toNat) k.toNat n).2)) (.ret (.ret,rDg (Hg bs (2 * bs.length - k.toNat) k.toNat n).2)))
 | _=>.fail
def avm:List cE × List (List cE)->Nat:=fun x=>match x with
 | ([.l bs,.i _,.i k],_)=>(2 * (bs.length:Int) - k).toNat
 | _=>0
theorem ac8:jL prog GL 0 0 (ae WA 0) (nW pDg [] lDg):=by
 refine kP (X:=akv) az mixed (aM.none (by kernel_rfl)) [0,6,7] [4,5,6] _ _ _ avm ?_
 rintro ⟨p,q⟩ R h
 unfold lDg at h
 split at h
 case h_2=>exact h.elim
 rename_i bs n k he
 cases he
 have h1:=h.1
 have h2:af (Hg bs (2 * bs.length - k.toNat) k.toNat n).1 (R (.normal,dDg (Hg bs (2 * bs.length - k.toNat) k.toNat n).2)) (R (.ret,rDg (Hg bs (2 * bs.length - k.toNat) k.toNat n).2)):=h.2
 clear h
 obtain ⟨hl,Po,hk⟩:=h1
 show (bu akv 0 [0,6,7] [4,5,6] (ae WA 0) (sDg bs n k)).run _
 rw [WB]
 have w1:IntKind.i64.wrap (2 * (bs.length:Int))=2 * (bs.length:Int):=by rw [ay']; omega
 rw [w1]
 refine dW (fun ff=>?_) fun tI=>?_
 ·have ek:kD k=k / 2:=by
   unfold kD
   rw [Int.tdiv_eq_ediv_of_nonneg Po,ay']
   omega
  have es:shD k=4 - 4 * (k % 2):=by
   unfold shD
   rw [azJ Po,ay',ay']
   omega
  have w2:IntKind.i64.wrap (k+1)=k+1:=by rw [ay']; omega
  rw [ek,es,w2]
  refine bz (dT (by omega)) (bz (dT (by omega)) (bz (dT (by omega)) (bz (dT (by omega)) ?_)))
  obtain ⟨r,hr⟩:∃ r,2 * bs.length - k.toNat=r+1:=⟨2 * bs.length - k.toNat - 1,by omega⟩
  have er:2 * bs.length - (k+1).toNat=r:=by omega
  have ekn:(k+1).toNat=k.toNat+1:=by omega
  rw [hr] at h2
  have eu:Hg bs (r+1) k.toNat n=bif okd (Qz bs (k.toNat:Int)) then Hg bs r (k.toNat+1) (ac n (Qz bs (k.toNat:Int))) else (false,n):=rfl
  rw [eu,show ((k.toNat:Nat):Int)=k by omega] at h2
  unfold okd at h2
  cases e1:decide (Qz bs k<0) with
  | true=>rw [e1] at h2; exact bz rfl h2
  | false=>
    refine cm rfl ?_
    cases e2:decide (Qz bs k > 9) with
    | true=>rw [e1,e2] at h2; exact bz rfl h2
    | false=>
      rw [e1,e2] at h2
      have h2:af (Hg bs r (k.toNat+1) (ac n (Qz bs k))).1 (R (.normal,dDg (Hg bs r (k.toNat+1) (ac n (Qz bs k))).2)) (R (.ret,rDg (Hg bs r (k.toNat+1) (ac n (Qz bs k))).2)):=h2
      refine cm rfl ⟨([.l bs,.i (ac n (Qz bs k)),.i (k+1)],[]),rfl,by show (2 * (bs.length:Int) - (k+1)).toNat<(2 * (bs.length:Int) - k).toNat; omega,⟨hl,by omega,by omega⟩,?_⟩
      rw [er,ekn]
      exact h2
 ·have e0:2 * bs.length - k.toNat=0:=by omega
  rw [e0] at h2
  exact h2
noncomputable def WC:au:=fun args I=>if I.length=0 then aD prog GL (fun _=>ay1) [(0,[0,6,7],nW pDg [] lDg)] f130 args I else .fail
theorem akw:Known prog GL 130 WC:=av 0 func130 rfl (by kernel_rfl) mixed az (aM.one (id:=0) (body:=ae f130 0) (by kernel_rfl) rfl ac8)
noncomputable def oDg (b:Bool) (n:Int):Out:=⟨.tu [.c (.i .i64 (bif b then n else 0)),.c (.b b)],[]⟩
theorem QA (bs:List Int) (k:Int) (R:Out->Prop):(WC [.c (.l .u8 bs),.c (.i .i64 k)] []).run R=((bs.length<1000∧0<=k∧k<=2 * (bs.length:Int))∧af (Hg bs (2 * bs.length - k.toNat) k.toNat 0).1 (R (oDg true (Hg bs (2 * bs.length - k.toNat) k.toNat 0).2)) (R (oDg false 0))):=by kernel_rfl
noncomputable def RT (bs:List Int) (k:Int):Bool:=(Hg bs (2 * bs.length - k.toNat) k.toNat 0).1
noncomputable def vaD (bs:List Int) (k:Int):Int:=(Hg bs (2 * bs.length - k.toNat) k.toNat 0).2
noncomputable def WD:au:=fun args I=>match args,I with
 | [.c (.l .u8 bs),.c (.i .i64 k)],[]=>.aF (bs.length<1000∧0<=k∧k<=2 * (bs.length:Int)) (.ret (oDg (RT bs k) (vaD bs k)))
 | _,_=>.fail
theorem aqH:Known prog GL 130 WD:=by
 refine akw.less fun args I R h=>aJ.out ?_
 unfold WD at h
 split at h
 case h_2=>exact h.elim
 rename_i bs k
 have h1:=h.1
 have h2:R (oDg (RT bs k) (vaD bs k)):=h.2
 clear h
 refine aJ.of_eq (QA bs k R) ⟨h1,?_⟩
 unfold RT vaD at h2
 cases e:(Hg bs (2 * bs.length - k.toNat) k.toNat 0).1 with
 | true=>rw [e] at h2; exact bz rfl h2
 | false=>rw [e] at h2; exact cm rfl h2
noncomputable abbrev Kd:=f88
def RU (z:ByteArray) (k:Nat):Int:=bif decide ((k:Int)<(z.size:Int)) then cA z k else 32
def ac9 (c:Int):Bool:=decide (c<32)||decide (c > 127)
noncomputable def aqI (q:Nat) (A:List Int) (X:Prop):Prop:=af (decide (0+q<=A.length)) (af (decide ((q+1) * 1<=140737488355328)) (af (decide (q+1<=9223372036854775807)) X False) False) False
noncomputable def DL (z:ByteArray) (k:Nat):Bool:=ac9 (RU z k)
noncomputable def fst (z:ByteArray):Nat->Nat->Option Nat
 | 0,_=>none
 | r+1,k=>bif DL z k then some k else fst z r (k+1)
theorem WE {c:Int} {A:Prop} {B:Prop} (h1:ac9 c=true->A) (h2:ac9 c=false->B):af (decide (c<32)) A (af (decide (c > 127)) A B):=by
 unfold ac9 at h1 h2
 cases e1:decide (c<32) with
 | true=>rw [e1] at h1; exact bz rfl (h1 rfl)
 | false=>
   rw [e1] at h1 h2
   refine cm rfl ?_
   cases e2:decide (c > 127) with
   | true=>rw [e2] at h1; exact bz rfl (h1 rfl)
   | false=>rw [e2] at h2; exact cm rfl (h2 rfl)
noncomputable def WG:FuncId->Option au:=aE [(146,Wv)]
theorem WH:∀ f T,WG f=some T->Known prog GL f T:=(aq.cons aqF .nil).get
noncomputable def aha:Cx:={P:=prog,con:=WG,glob:=GL,m:=0,loops:=[]}
noncomputable def WI:au:=fun args I=>if I.length=0 then aD prog GL WG [(0,[4,5,8,9,10],cF aha 0 [4,5,8,9,10] [4,5] (ae f117 0) 21)] f117 args I else .fail
theorem aqJ:Known prog GL 117 WI:=av 0 func117 rfl (by kernel_rfl) mixed WH (aM.one (id:=0) (body:=ae f117 0) (by kernel_rfl) rfl (bL (X:=aha) WH mixed (aM.none (by kernel_rfl)) [4,5,8,9,10] [4,5] 21))
noncomputable def oPT (bs:List Int):Out:=⟨.tu [.c (.h 0 0 20),.c (.h 1 0 20)],[some ⟨1,5,.ints .u8 (bs.map fun x=>aU x 127)⟩,some ⟨1,4,.aA [.b] (bs.map fun x=>[Sc.b (BK x)])⟩]⟩
theorem WJ (g:Nat->Int) (R:Out->Prop):(WI [.c (.l .u8 ((axy 20).map g))] []).run R=((0<=g 0∧g 0<256)∧((0<=g 1∧g 1<256)∧((0<=g 2∧g 2<256)∧((0<=g 3∧g 3<256)∧((0<=g 4∧g 4<256)∧((0<=g 5∧g 5<256)∧((0<=g 6∧g 6<256)∧((0<=g 7∧g 7<256)∧((0<=g 8∧g 8<256)∧((0<=g 9∧g 9<256)∧((0<=g 10∧g 10<256)∧((0<=g 11∧g 11<256)∧((0<=g 12∧g 12<256)∧((0<=g 13∧g 13<256)∧((0<=g 14∧g 14<256)∧((0<=g 15∧g 15<256)∧((0<=g 16∧g 16<256)∧((0<=g 17∧g 17<256)∧((0<=g 18∧g 18<256)∧((0<=g 19∧g 19<256)∧R (oPT ((axy 20).map g)))))))))))))))))))))):=by kernel_rfl
noncomputable def tPT:au:=fun args I=>match args,I with
 | [.c (.l .u8 bs)],[]=>.aF (bs.length=20∧∀ x∈bs,0<=x∧x<256) (.ret (oPT bs))
 | _,_=>.fail
theorem tl {ds:List Int} {n:Nat} (h:ds.length=n):ds=(axy n).map fun i=>ds.getD i 0:=by
 refine List.ext_getElem (by simp [h]) fun j h1 h2=>?_
 rw [List.getElem_map,List.getElem_range,axF,axP h1]
 rfl
theorem avn {g:Nat->Int} {n:Nat} (h:∀ x∈(axy n).map g,0<=x∧x<256) (j:Nat) (hj:j<n):0<=g j∧g j<256:=h _ (List.mem_map.2 ⟨j,List.mem_range.2 hj,rfl⟩)
theorem akx {bs:List Int} {R:Out->Prop} (hl:bs.length=20) (hb:∀ x∈bs,0<=x∧x<256) (h:R (oPT bs)):aJ ((WI [.c (.l .u8 bs)] []).run R):=by
 have e:=tl hl
 generalize (fun i=>bs.getD i 0)=g at e
 subst e
 have hi:=avn hb
 exact aJ.of_eq (WJ g R) ⟨hi 0 (by decide),hi 1 (by decide),hi 2 (by decide),hi 3 (by decide),hi 4 (by decide),hi 5 (by decide),hi 6 (by decide),hi 7 (by decide),hi 8 (by decide),hi 9 (by decide),hi 10 (by decide),hi 11 (by decide),hi 12 (by decide),hi 13 (by decide),hi 14 (by decide),hi 15 (by decide),hi 16 (by decide),hi 17 (by decide),hi 18 (by decide),hi 19 (by decide),h⟩
theorem kPT:Known prog GL 117 tPT:=by
 refine aqJ.less fun args I R h=>aJ.out ?_
 unfold tPT at h
 split at h
 case h_2=>exact h.elim
 have h1:=h.1
 have h2:=h.2
 clear h
 exact akx h1.1 h1.2 h2
theorem me (g:Nat->Int->Int) (i:Nat):∀ (k:Nat) (xs:List Int),k+xs.length<=i->kh g i k xs=xs
 | _,[],_=>rfl
 | k,x::xs,h=>by
   have h:k+(xs.length+1)<=i:=h
   show (bif azr k i then x else _)::kh g i (k+1) xs=_
   rw [Gs (by omega),me g i (k+1) xs (by omega)]
   rfl
theorem WK (xs:List Int) (i:Nat) (h:i<xs.length):xs.set i (xs.getD i 0)=xs:=by
 rw [axF,axP h]
 exact List.set_getElem_self h
noncomputable def QB:Cx:={P:=prog,con:=fun _=>ay1,glob:=GL,m:=0,loops:=[]}
noncomputable def Nb (A:List Int) (B:List (List Sc)) (q q2:Nat) (n i:Int):St:={fr:=frame 34 [(3,.v (.c (.h 0 0 q))),(4,.v (.c (.h 1 0 q2))),(12,.v (.c (.i .i64 n))),(13,.v (.c (.i .i64 i)))],rg:=[some ⟨1,5,.ints .u8 A⟩,some ⟨1,4,.aA [.b] B⟩]}
noncomputable def WL (A:List Int) (q:Nat):St:={fr:=frame 34 [(3,.v (.c (.h 0 0 q)))],rg:=[some ⟨1,5,.ints .u8 A⟩]}
def bW (B:List (List Sc)) (j:Nat):Bool:=((B.getD j []).getD 0 (Sc.i 0)).t
def inW (A:List Int) (q:Nat) (i:Int) (X:Prop):Prop:=af (decide (0<=i)) (af (decide (i<(q:Int))) (af (decide (0+i.toNat<A.length)) X False) False) False
def aqK (B:List (List Sc)) (q:Nat) (i:Int) (X:Prop):Prop:=af (decide (0<=i)) (af (decide (i<(q:Int))) (af (decide (0+i.toNat<B.length)) X False) False) False
theorem WM (A:List Int) (B:List (List Sc)) (q q2:Nat) (n i:Int) (R:RO->Prop):(bu QB 0 [3,4,12,13] [3] (ae Kd 0) (Nb A B q q2 n i)).run R =
 af (decide (i<n)) (aqK B q2 i (af (!bW B (0+i.toNat)) (inW A q i (R (.next (Nb (mB A (0+i.toNat) 32 0) B q q2 n (IntKind.i64.wrap (i+1)))))) (inW A q i (af (decide (A.getD (0+i.toNat) 0<32)) (inW A q i (R (.next (Nb (mB A (0+i.toNat) 32 0) B q q2 n (IntKind.i64.wrap (i+1)))))) (R (.next (Nb A B q q2 n (IntKind.i64.wrap (i+1))))))))) (R (.done .normal (WL A q))):=by kernel_rfl
noncomputable def QC (B:List (List Sc)) (k:Nat) (x:Int):Int:=bif !bW B k||decide (x<32) then 32 else x
noncomputable def pWd:List gw:=FY 34 [(3,.h 0 0),(4,.h 1 0),(12,.i .i64),(13,.i .i64)]
def rWd:List lU:=[.ints 1 5 .u8,.aA 1 4 [.b]]
noncomputable def lWd:List cE × List (List cE)->Tr (aj × St):=fun x=>match x with
 | ([.n q,.n q2,.i n,.i i],[[.l A],[.r B]])=>.aF (q=A.length∧q2=A.length∧B.length=A.length∧n=(A.length:Int)∧A.length<1000∧0<=i∧i<=n) (.ret (.normal,WL (kh (QC B) i.toNat 0 A) q))
 | _=>.fail
def WN:List cE × List (List cE)->Nat:=fun x=>match x with
 | ([.n _,.n _,.i n,.i i],_)=>(n - i).toNat
 | _=>0
theorem DM:jL prog GL 0 0 (ae Kd 0) (nW pWd rWd lWd):=by
 refine kP (X:=QB) az mixed (aM.none (by kernel_rfl)) [3,4,12,13] [3] _ _ _ WN ?_
 rintro ⟨p,q⟩ R h
 unfold lWd at h
 split at h
 case h_2=>exact h.elim
 rename_i q q2 n i A B he
 cases he
 have h1:=h.1
 have h2:R (.normal,WL (kh (QC B) i.toNat 0 A) q):=h.2
 clear h
 obtain ⟨hq,hq2,hB,hn,hA,Sv,hi⟩:=h1
 show (bu QB 0 [3,4,12,13] [3] (ae Kd 0) (Nb A B q q2 n i)).run _
 rw [WM]
 refine dW (fun ff=>?_) fun tI=>?_
 ·have w2:IntKind.i64.wrap (i+1)=i+1:=by rw [ay']; omega
  have hx:i.toNat<A.length:=by omega
  have et:(i+1).toNat=i.toNat+1:=by omega
  rw [w2,Nat.zero_add]
  have iA:∀ X:Prop,X->inW A q i X:=fun X h=>bz (dT Sv) (bz (dT (by omega)) (bz (dT (by omega)) h))
  have iB:∀ X:Prop,X->aqK B q2 i X:=fun X h=>bz (dT Sv) (bz (dT (by omega)) (bz (dT (by omega)) h))
  have go:∀ A2:List Int,A2.length=A.length->kh (QC B) (i.toNat+1) 0 A2=kh (QC B) i.toNat 0 A->∃ y,Nb A2 B q q2 n (i+1)=FZ pWd rWd y∧WN y<WN ([.n q,.n q2,.i n,.i i],[[.l A],[.r B]])∧(lWd y).run R:=by
   intro A2 hl hm
   refine ⟨([.n q,.n q2,.i n,.i (i+1)],[[.l A2],[.r B]]),rfl,by show (n - (i+1)).toNat<(n - i).toNat; omega,⟨by omega,by omega,by omega,by omega,by omega,by omega,by omega⟩,?_⟩
   show R (.normal,WL (kh (QC B) (i+1).toNat 0 A2) q)
   rw [et,hm]
   exact h2
  have st:QC B i.toNat (A.getD i.toNat 0)=32->∃ y,Nb (mB A i.toNat 32 0) B q q2 n (i+1)=FZ pWd rWd y∧WN y<WN ([.n q,.n q2,.i n,.i i],[[.l A],[.r B]])∧(lWd y).run R:=fun hg=>by
   rw [gZ]
   exact go _ (List.length_set ..) (sW (QC B) i.toNat 32 0 A i.toNat (by omega) hx hg.symm)
  refine iB _ ?_
  cases hb:bW B i.toNat with
  | false=>exact bz rfl (iA _ (st (by unfold QC; rw [hb]; rfl)))
  | true=>
    refine cm rfl (iA _ ?_)
    cases hc:decide (A.getD i.toNat 0<32) with
    | true=>exact bz rfl (iA _ (st (by unfold QC; rw [hb,hc]; rfl)))
    | false=>
      refine cm rfl (go A rfl ?_)
      have hm:=sW (QC B) i.toNat (A.getD i.toNat 0) 0 A i.toNat (by omega) hx (by unfold QC; rw [hb,hc]; rfl)
      rwa [WK A i.toNat hx] at hm
 ·have e0:kh (QC B) i.toNat 0 A=A:=me (QC B) i.toNat 0 A (by omega)
  rw [e0] at h2
  exact h2
noncomputable def ahb:FuncId->Option au:=aE [(117,tPT)]
theorem aky:∀ f T,ahb f=some T->Known prog GL f T:=(aq.cons kPT .nil).get
noncomputable def WO:au:=fun args I=>if I.length=0 then aD prog GL ahb [(0,[3,4,12,13],nW pWd rWd lWd)] f88 args I else .fail
theorem aqL:Known prog GL 88 WO:=av 0 func88 rfl (by kernel_rfl) mixed aky (aM.one (id:=0) (body:=ae f88 0) (by kernel_rfl) rfl DM)
noncomputable def sgn (x:Int):Int:=bif !BK x||decide (aU x 127<32) then 32 else aU x 127
noncomputable def WQ (bs:List Int):List Int:=bs.map fun x=>aU x 127
noncomputable def wdB (bs:List Int):List (List Sc):=bs.map fun x=>[Sc.b (BK x)]
theorem WR (g:Nat->Int) (R:Out->Prop):(WO [.c (.l .u8 ((axy 20).map g))] []).run R=((((axy 20).map g).length=20∧∀ x∈((axy 20).map g),0<=x∧x<256)∧(20=(WQ ((axy 20).map g)).length∧20=(WQ ((axy 20).map g)).length∧(wdB ((axy 20).map g)).length=(WQ ((axy 20).map g)).length∧20=((WQ ((axy 20).map g)).length:Int)∧(WQ ((axy 20).map g)).length<1000∧0<=(0:Int)∧(0:Int)<=20)∧R ⟨.v (.c (.s (strOfNums (((axy 20).map g).map sgn)))),[]⟩):=by kernel_rfl
noncomputable def Ke:au:=fun args I=>match args,I with
 | [.c (.l .u8 bs)],[]=>.aF (bs.length=20∧∀ x∈bs,0<=x∧x<256) (.ret ⟨.v (.c (.s (strOfNums (bs.map sgn)))),[]⟩)
 | _,_=>.fail
theorem akz {bs:List Int} {R:Out->Prop} (hl:bs.length=20) (hb:∀ x∈bs,0<=x∧x<256) (h:R ⟨.v (.c (.s (strOfNums (bs.map sgn)))),[]⟩):aJ ((WO [.c (.l .u8 bs)] []).run R):=by
 have e:=tl hl
 generalize (fun i=>bs.getD i 0)=g at e
 subst e
 exact aJ.of_eq (WR g R) ⟨⟨hl,hb⟩,⟨rfl,rfl,rfl,rfl,by show 20<1000; decide,by decide,by decide⟩,h⟩
theorem akA:Known prog GL 88 Ke:=by
 refine aqL.less fun args I R h=>aJ.out ?_
 unfold Ke at h
 split at h
 case h_2=>exact h.elim
 have h1:=h.1
 have h2:=h.2
 clear h
 exact akz h1.1 h1.2 h2
noncomputable def Kf (a b c n o d h m s:Int) (z:ByteArray):List NC:=[.i .i64 a,.i .i64 b,.i .i64 c,.i .i64 n,.i .i64 o,.i .i64 d,.i .i64 h,.i .i64 m,.i .i64 s,.s z]
def Hh (d h m s:Int):Bool:=decide (d >= 0)&&(decide (d<=99999)&&(decide (h >= 0)&&(decide (h<=23)&&(decide (m >= 0)&&(decide (m<=59)&&(decide (s >= 0)&&decide (s<=59)))))))
theorem Kg (a b c n o d h m s:Int) (z:ByteArray) (R:Out->Prop):(M9 [.ag (Kf a b c n o d h m s z)] []).run R =
 af (decide (d >= 0)) (af (decide (d<=99999)) (af (decide (h >= 0)) (af (decide (h<=23)) (af (decide (m >= 0)) (af (decide (m<=59)) (af (decide (s >= 0)) (R (oB (decide (s<=59)))) (R (oB false))) (R (oB false))) (R (oB false))) (R (oB false))) (R (oB false))) (R (oB false))) (R (oB false)):=by kernel_rfl
noncomputable def Kh:au:=fun args I=>match args,I with
 | [.ag [.i .i64 _,.i .i64 _,.i .i64 _,.i .i64 _,.i .i64 _,.i .i64 d,.i .i64 h,.i .i64 m,.i .i64 s,.s _]],[]=>.ret (oB (Hh d h m s))
 | _,_=>.fail
theorem rC {x y:Bool} {R:Out->Prop} {X:Prop} (h:R (oB (x&&y))) (hX:R (oB y)->X):af x X (R (oB false)):=by
 cases x with
 | true=>exact bz rfl (hX h)
 | false=>exact cm rfl h
theorem akB:Known prog GL 131 Kh:=by
 refine ac6.less fun args I R h=>aJ.out ?_
 unfold Kh at h
 split at h
 case h_2=>exact h.elim
 rename_i a b c n o d hr m s z
 have h2:R (oB (Hh d hr m s)):=h
 clear h
 refine aJ.of_eq (Kg a b c n o d hr m s z R) ?_
 unfold Hh at h2
 exact rC h2 fun h=>rC h fun h=>rC h fun h=>rC h fun h=>rC h fun h=>rC h fun h=>rC h fun h=>h
noncomputable def ahc:FuncId->Option au:=aE [(82,nF),(130,WD),(131,Kh)]
theorem akC:∀ f T,ahc f=some T->Known prog GL f T:=(aq.cons Na (.cons aqH (.cons akB .nil))).get
noncomputable def WS:au:=fun args I=>if I.length=1 then aD prog GL ahc [] f87 args I else .fail
theorem aqM:Known prog GL 87 WS:=av 1 func87 rfl (by kernel_rfl) mixed akC (aM.none (by kernel_rfl))
def mDg (bs:List Int) (k:Int):Prop:=bs.length<1000∧0<=k∧k<=2 * (bs.length:Int)
noncomputable def vD (bs:List Int) (k:Int):Int:=bif RT bs k then vaD bs k else 0
noncomputable def avo (a b e n o:Int) (z:ByteArray) (D H M S:Int) (x:Bool):Out:=⟨.v (.c (.b x)),[some ⟨10,95,.cells (Kf a b e n o D H M S z)⟩]⟩
noncomputable def po (g:Nat->Int):Bool:=RT [g 9,g 10,g 11] 1&&(RT [g 12] 0&&(RT [g 13] 0&&(RT [g 14] 0&&Hh (vD [g 9,g 10,g 11] 1) (vD [g 12] 0) (vD [g 13] 0) (vD [g 14] 0))))
noncomputable def WT (a b e n o:Int) (z:ByteArray) (g:Nat->Int) (x:Bool):Out:=avo a b e n o z (vD [g 9,g 10,g 11] 1) (vD [g 12] 0) (vD [g 13] 0) (vD [g 14] 0) x
theorem WU (g:Nat->Int) (m r k c a b e n o d h mi s:Int) (z:ByteArray) (R:Out->Prop):(WS [.c (.p 0 0 0),.ag [.i .i64 m,.i .i64 r,.i .i64 k,.i .i64 c,.l .u8 ((axy 39).map g)]] [⟨10,95,.cells (Kf a b e n o d h mi s z)⟩]).run R =
 (mDg [g 9,g 10,g 11] 1∧(mDg [g 12] 0∧(mDg [g 13] 0∧(mDg [g 14] 0∧af (RT [g 9,g 10,g 11] 1) (af (RT [g 12] 0) (af (RT [g 13] 0) (af (RT [g 14] 0) (R (WT a b e n o z g (Hh (vD [g 9,g 10,g 11] 1) (vD [g 12] 0) (vD [g 13] 0) (vD [g 14] 0)))) (R (WT a b e n o z g false))) (R (WT a b e n o z g false))) (R (WT a b e n o z g false))) (R (WT a b e n o z g false)))))):=by kernel_rfl
noncomputable def gD (ds:List Int):Nat->Int:=fun i=>ds.getD i 0
noncomputable def akD:au:=fun args I=>match args,I with
 | [.c (.p 0 0 0),.ag [.i .i64 _,.i .i64 _,.i .i64 _,.i .i64 _,.l .u8 ds]],[⟨10,95,.cells [.i .i64 a,.i .i64 b,.i .i64 e,.i .i64 n,.i .i64 o,.i .i64 _,.i .i64 _,.i .i64 _,.i .i64 _,.s z]⟩]=>.aF (ds.length=39) (.ret (WT a b e n o z (gD ds) (po (gD ds))))
 | _,_=>.fail
theorem avp (a b c:Int):mDg [a,b,c] 1:=⟨by show 3<1000; decide,by decide,by show (1:Int)<=2 * 3; decide⟩
theorem akE (a:Int):mDg [a] 0:=⟨by show 1<1000; decide,by decide,by show (0:Int)<=2 * 1; decide⟩
theorem Nc {x y:Bool} {F:Bool->Prop} {X:Prop} (h:F (x&&y)) (hX:F y->X):af x X (F false):=by
 cases x with
 | true=>exact bz rfl (hX h)
 | false=>exact cm rfl h
theorem akF {ds:List Int} {m r k c a b e n o d h mi s:Int} {z:ByteArray} {R:Out->Prop} (hl:ds.length=39) (hR:R (WT a b e n o z (gD ds) (po (gD ds)))):aJ ((WS [.c (.p 0 0 0),.ag [.i .i64 m,.i .i64 r,.i .i64 k,.i .i64 c,.l .u8 ds]] [⟨10,95,.cells (Kf a b e n o d h mi s z)⟩]).run R):=by
 have eq:=tl hl
 have eg:(fun i=>ds.getD i 0)=gD ds:=rfl
 rw [eg] at eq
 generalize gD ds=g at eq hR
 subst eq
 refine aJ.of_eq (WU g m r k c a b e n o d h mi s z R) ⟨avp _ _ _,akE _,akE _,akE _,?_⟩
 unfold po at hR
 exact Nc (F:=fun x=>R (WT a b e n o z g x)) hR fun h=>Nc (F:=fun x=>R (WT a b e n o z g x)) h fun h=>Nc (F:=fun x=>R (WT a b e n o z g x)) h fun h=>Nc (F:=fun x=>R (WT a b e n o z g x)) h fun h=>h
theorem avq:Known prog GL 87 akD:=by
 refine aqM.less fun args I R h=>aJ.out ?_
 unfold akD at h
 split at h
 case h_2=>exact h.elim
 exact akF h.1 h.2
def tn (ds:List Int) (f n:Int):List Int:=(axy n.toNat).map fun i=>ds.getD (f.toNat+i) 0
noncomputable def oPt (ds:List Int) (f n:Int):Out:=⟨.v (.c (.h 0 0 n.toNat)),[some ⟨1,5,.ints .u8 (tn ds f n)⟩]⟩
theorem akG (m r k c:Int) (g:Nat->Int) (R:Out->Prop):(nF [.ag [.i .i64 m,.i .i64 r,.i .i64 k,.i .i64 c,.l .u8 ((axy 39).map g)],.c (.i .i64 0),.c (.i .i64 6)] []).run R=R (oPt ((axy 39).map g) 0 6):=by kernel_rfl
theorem ac' (m r k c:Int) (g:Nat->Int) (R:Out->Prop):(nF [.ag [.i .i64 m,.i .i64 r,.i .i64 k,.i .i64 c,.l .u8 ((axy 39).map g)],.c (.i .i64 19),.c (.i .i64 20)] []).run R=R (oPt ((axy 39).map g) 19 20):=by kernel_rfl
theorem akH (m r k c:Int) (g:Nat->Int) (R:Out->Prop):(nF [.ag [.i .i64 m,.i .i64 r,.i .i64 k,.i .i64 c,.l .u8 ((axy 39).map g)],.c (.i .i64 9),.c (.i .i64 3)] []).run R=R (oPt ((axy 39).map g) 9 3):=by kernel_rfl
theorem ada (m r k c:Int) (g:Nat->Int) (R:Out->Prop):(nF [.ag [.i .i64 m,.i .i64 r,.i .i64 k,.i .i64 c,.l .u8 ((axy 39).map g)],.c (.i .i64 12),.c (.i .i64 3)] []).run R=R (oPt ((axy 39).map g) 12 3):=by kernel_rfl
noncomputable def Ki:au:=fun args I=>match args,I with
 | [.ag [.i .i64 _,.i .i64 _,.i .i64 _,.i .i64 _,.l .u8 ds],.c (.i .i64 f),.c (.i .i64 n)],[]=>.aF (ds.length=39∧((f=0∧n=6)∨(f=19∧n=20)∨(f=9∧n=3)∨(f=12∧n=3))) (.ret (oPt ds f n))
 | _,_=>.fail
theorem adb {m r k c f n:Int} {ds:List Int} {R:Out->Prop} (hl:ds.length=39) (hf:(f=0∧n=6)∨(f=19∧n=20)∨(f=9∧n=3)∨(f=12∧n=3)) (h:R (oPt ds f n)):aJ ((nF [.ag [.i .i64 m,.i .i64 r,.i .i64 k,.i .i64 c,.l .u8 ds],.c (.i .i64 f),.c (.i .i64 n)] []).run R):=by
 have e:=tl hl
 generalize (fun i=>ds.getD i 0)=g at e
 subst e
 rcases hf with ⟨rfl,rfl⟩ | ⟨rfl,rfl⟩ | ⟨rfl,rfl⟩ | ⟨rfl,rfl⟩
 ·exact aJ.of_eq (akG m r k c g R) h
 ·exact aJ.of_eq (ac' m r k c g R) h
 ·exact aJ.of_eq (akH m r k c g R) h
 ·exact aJ.of_eq (ada m r k c g R) h
theorem akI:Known prog GL 82 Ki:=by
 refine Na.less fun args I R h=>aJ.out ?_
 unfold Ki at h
 split at h
 case h_2=>exact h.elim
 have h1:=h.1
 have h2:=h.2
 clear h
 exact adb h1.1 h1.2 h2
theorem avr (m r k c:Int) (g:Nat->Int) (R:Out->Prop):(JI [.ag [.i .i64 m,.i .i64 r,.i .i64 k,.i .i64 c,.l .u8 ((axy 39).map g)],.c (.i .i64 6)] []).run R=R ⟨.v (.c (.i .u8 (((axy 39).map g).getD 6 0))),[]⟩:=by kernel_rfl
theorem avs (m r k c:Int) (g:Nat->Int) (R:Out->Prop):(JI [.ag [.i .i64 m,.i .i64 r,.i .i64 k,.i .i64 c,.l .u8 ((axy 39).map g)],.c (.i .i64 7)] []).run R=R ⟨.v (.c (.i .u8 (((axy 39).map g).getD 7 0))),[]⟩:=by kernel_rfl
theorem avt (m r k c:Int) (g:Nat->Int) (R:Out->Prop):(JI [.ag [.i .i64 m,.i .i64 r,.i .i64 k,.i .i64 c,.l .u8 ((axy 39).map g)],.c (.i .i64 8)] []).run R=R ⟨.v (.c (.i .u8 (((axy 39).map g).getD 8 0))),[]⟩:=by kernel_rfl
noncomputable def akJ:au:=fun args I=>match args,I with
 | [.ag [.i .i64 _,.i .i64 _,.i .i64 _,.i .i64 _,.l .u8 ds],.c (.i .i64 k)],[]=>.aF (ds.length=39∧(k=6∨k=7∨k=8)) (.ret ⟨.v (.c (.i .u8 (ds.getD k.toNat 0))),[]⟩)
 | _,_=>.fail
theorem aqN {m r kd c k:Int} {ds:List Int} {R:Out->Prop} (hl:ds.length=39) (hf:k=6∨k=7∨k=8) (h:R ⟨.v (.c (.i .u8 (ds.getD k.toNat 0))),[]⟩):aJ ((JI [.ag [.i .i64 m,.i .i64 r,.i .i64 kd,.i .i64 c,.l .u8 ds],.c (.i .i64 k)] []).run R):=by
 have e:=tl hl
 generalize (fun i=>ds.getD i 0)=g at e
 subst e
 rcases hf with rfl | rfl | rfl
 ·exact aJ.of_eq (avr m r kd c g R) h
 ·exact aJ.of_eq (avs m r kd c g R) h
 ·exact aJ.of_eq (avt m r kd c g R) h
theorem avu:Known prog GL 86 akJ:=by
 refine ajK.less fun args I R h=>aJ.out ?_
 unfold akJ at h
 split at h
 case h_2=>exact h.elim
 have h1:=h.1
 have h2:=h.2
 clear h
 exact aqN h1.1 h1.2 h2
noncomputable def ahd:FuncId->Option au:=aE [(82,Ki),(73,UP),(83,ach),(84,M1),(85,qH),(86,akJ),(87,akD),(88,Ke)]
theorem akK:∀ f T,ahd f=some T->Known prog GL f T:=(aq.cons akI (.cons ajP (.cons ajL (.cons ag5 (.cons Wz (.cons avu (.cons avq (.cons akA .nil)))))))).get
noncomputable def ahe:au:=fun args I=>aD prog GL ahd [] f38 args I
theorem aqO:Known prog GL 38 ahe:=ah func38 rfl (by kernel_rfl) mixed akK (by kernel_rfl)
noncomputable def nb (ds:List Int) (i:Nat):Int:=bw (ds.getD i 0)
noncomputable def WV (ds:List Int):Int:=nN (oI (aX .i64 (nb ds 3) 3) (bH .i64 (aX .i64 (nb ds 5) 2) 1))
noncomputable def fa (ds:List Int):Int:=oI (nb ds 0) (bH .i64 (nb ds 1) 4)
noncomputable def sbV (ds:List Int):Int:=oI (oI (oI (nb ds 2) (bH .i64 (aI (nb ds 3) 7) 4)) (bH .i64 (nb ds 4) 8)) (bH .i64 (aI (nb ds 5) 3) 12)
noncomputable def nwV (ds:List Int):Int:=oI (bH .i64 (IntKind.i64.wrap (rv (ds.getD 6 0))) 8) (IntKind.i64.wrap (rv (ds.getD 7 0)))
noncomputable def zU (ds:List Int):Int:=aI (aX .i64 (IntKind.i64.wrap (ds.getD 8 0)) 1) 31
noncomputable def sgV (ds:List Int):Bool:=aI (aX .i64 (IntKind.i64.wrap (ds.getD 8 0)) 6) 1==1
noncomputable def dyV (ds:List Int):Int:=vD [gD ds 9,gD ds 10,gD ds 11] 1
noncomputable def hrV (ds:List Int):Int:=vD [gD ds 12] 0
noncomputable def miV (ds:List Int):Int:=vD [gD ds 13] 0
noncomputable def seV (ds:List Int):Int:=vD [gD ds 14] 0
noncomputable def nC (ds:List Int):ByteArray:=strOfNums ((tn ds 19 20).map sgn)
noncomputable def oIn (ds:List Int) (of:Int):Out:=⟨.tu [.ag (Kf (WV ds) (fa ds) (sbV ds) (nwV ds) of (dyV ds) (hrV ds) (miV ds) (seV ds) (nC ds)),.c .en],[]⟩
def Hi (k:Nat):Out:=⟨.tu [.ag [.i .i64 0,.i .i64 0,.i .i64 0,.i .i64 0,.i .i64 0,.i .i64 0,.i .i64 0,.i .i64 0,.i .i64 0,.s ⟨#[]⟩],.c (.e k)],[]⟩
noncomputable def uK (ds:List Int):Bool:=[ds.getD 0 0,ds.getD 1 0,ds.getD 2 0,ds.getD 3 0,ds.getD 4 0,ds.getD 5 0].all cz
def mPt (ds:List Int) (f n:Int):Prop:=ds.length=39∧((f=0∧n=6)∨(f=19∧n=20)∨(f=9∧n=3)∨(f=12∧n=3))
def mAt (ds:List Int) (k:Int):Prop:=ds.length=39∧(k=6∨k=7∨k=8)
def mBy (x:Int):Prop:=0<=x∧x<256
noncomputable def rdE (ds:List Int) (of:Int) (R:Out->Prop):Prop:=ds.length=39∧af (!po (gD ds)) (R (Hi oY)) (mPt ds 19 20∧(((tn ds 19 20).length=20∧∀ x∈tn ds 19 20,0<=x∧x<256)∧R (oIn ds of)))
noncomputable def rdX (ds:List Int) (R:Out->Prop):Prop:=
 mPt ds 0 6∧af (uK ds) (mAt ds 6∧(mBy (ds.getD 6 0)∧(mAt ds 7∧(mBy (ds.getD 7 0)∧(mAt ds 8∧af (sgV ds) (rdE ds (IntKind.i64.wrap (0 - zU ds)) R) (rdE ds (zU ds) R)))))) (R (Hi dX))
theorem WW (m r k c:Int) (ds:List Int) (R:Out->Prop):(ahe [.ag [.i .i64 m,.i .i64 r,.i .i64 k,.i .i64 c,.l .u8 ds]] []).run R =
 af (k !=7) (R (Hi fN)) (af (m !=8) (R (Hi fN)) (af (c !=0) (af (c !=1) (R (Hi fN)) (rdX ds R)) (rdX ds R))):=by kernel_rfl
def WX (m k c:Int):Bool:=k==7&&(m==8&&(c==0||c==1))
noncomputable def ofS (ds:List Int):Int:=bif sgV ds then IntKind.i64.wrap (0 - zU ds) else zU ds
noncomputable def akL:au:=fun args I=>match args,I with
 | [.ag [.i .i64 m,.i .i64 _,.i .i64 k,.i .i64 c,.l .u8 ds]],[]=>.aF (WX m k c=true->ds.length=39∧∀ x∈ds,0<=x∧x<256) (.br (WX m k c) (.br (uK ds) (.br (po (gD ds)) (.ret (oIn ds (ofS ds))) (.ret (Hi oY))) (.ret (Hi dX))) (.ret (Hi fN)))
 | _,_=>.fail
theorem Kj {ds:List Int} (h:∀ x∈ds,0<=x∧x<256) (j:Nat):0<=ds.getD j 0∧ds.getD j 0<256:=by
 rw [axF]
 cases e:ds[j]? with
 | none=>exact ⟨by decide,by decide⟩
 | some x=>exact h x (ayB e)
theorem ade {ds:List Int} (h:∀ x∈ds,0<=x∧x<256) (f n:Int):∀ x∈tn ds f n,0<=x∧x<256:=by
 intro x hx
 unfold tn at hx
 rw [List.mem_map] at hx
 obtain ⟨i,_,rfl⟩:=hx
 exact Kj h _
theorem WY {ds:List Int} {of:Int} {R:Out->Prop} (hl:ds.length=39) (hb:∀ x∈ds,0<=x∧x<256) (h:af (po (gD ds)) (R (oIn ds of)) (R (Hi oY))):rdE ds of R:=by
 refine ⟨hl,?_⟩
 cases e:po (gD ds) with
 | true=>rw [e] at h; exact cm rfl ⟨⟨hl,.inr (.inl ⟨rfl,rfl⟩)⟩,⟨rfl,ade hb _ _⟩,h⟩
 | false=>rw [e] at h; exact bz rfl h
theorem WZ {ds:List Int} {R:Out->Prop} (hl:ds.length=39) (hb:∀ x∈ds,0<=x∧x<256) (h:af (uK ds) (af (po (gD ds)) (R (oIn ds (ofS ds))) (R (Hi oY))) (R (Hi dX))):rdX ds R:=by
 refine ⟨⟨hl,.inl ⟨rfl,rfl⟩⟩,?_⟩
 cases e:uK ds with
 | false=>rw [e] at h; exact cm rfl h
 | true=>
   rw [e] at h
   refine bz rfl ⟨⟨hl,.inl rfl⟩,Kj hb 6,⟨hl,.inr (.inl rfl)⟩,Kj hb 7,⟨hl,.inr (.inr rfl)⟩,?_⟩
   unfold ofS at h
   cases es:sgV ds with
   | true=>rw [es] at h; exact bz rfl (WY hl hb h)
   | false=>rw [es] at h; exact cm rfl (WY hl hb h)
theorem akM {m k c:Int} {ds:List Int} {R:Out->Prop} (hm:WX m k c=true->ds.length=39∧∀ x∈ds,0<=x∧x<256) (h:af (WX m k c) (af (uK ds) (af (po (gD ds)) (R (oIn ds (ofS ds))) (R (Hi oY))) (R (Hi dX))) (R (Hi fN))) :
  af (k !=7) (R (Hi fN)) (af (m !=8) (R (Hi fN)) (af (c !=0) (af (c !=1) (R (Hi fN)) (rdX ds R)) (rdX ds R))):=by
 unfold WX at hm h
 cases e1:(k==7) with
 | false=>rw [e1] at h; exact bz (by simp [bne,e1]) h
 | true=>
   rw [e1] at h hm
   refine cm (by simp [bne,e1]) ?_
   cases e2:(m==8) with
   | false=>rw [e2] at h; exact bz (by simp [bne,e2]) h
   | true=>
     rw [e2] at h hm
     refine cm (by simp [bne,e2]) ?_
     cases e3:(c==0) with
     | true=>
       rw [e3] at h hm
       exact cm (by simp [bne,e3]) (WZ (hm rfl).1 (hm rfl).2 h)
     | false=>
       rw [e3] at h hm
       refine bz (by simp [bne,e3]) ?_
       cases e4:(c==1) with
       | true=>
         rw [e4] at h hm
         exact cm (by simp [bne,e4]) (WZ (hm rfl).1 (hm rfl).2 h)
       | false=>rw [e4] at h; exact bz (by simp [bne,e4]) h
theorem avv:Known prog GL 38 akL:=by
 refine aqO.less fun args I R h=>aJ.out ?_
 unfold akL at h
 split at h
 case h_2=>exact h.elim
 rename_i m r k c ds
 have h1:=h.1
 have h2:=h.2
 clear h
 exact aJ.of_eq (WW m r k c ds R) (akM h1 h2)
noncomputable def Il (n:Int):Int:=IntKind.u8.wrap n
noncomputable def mx (o:Int):Int:=bif decide (IntKind.i64.wrap (0 - o) > o) then IntKind.i64.wrap (0 - o) else o
noncomputable def ofB (neg:Bool) (o:Int):Int:=bif neg then oU (Il (bH .i64 (mx o) 1)) 64 else Il (bH .i64 (mx o) 1)
theorem za (n:Int):mBy (Il n):=by
 unfold mBy Il
 rw [azf]
 omega
theorem ml {x:Bool} {y:Bool} {A E X:Prop} (h:af (!x&&y) A E) (hX:af y A E->X):af x E X:=by
 cases x with
 | true=>exact bz rfl h
 | false=>exact cm rfl (hX h)
end sv
namespace cH
open Go Go.Nx pk ac bR wX dec
noncomputable def Mv.part (m:Mv) (p:Px):Mv:=
 match p.kd==2 with
 | true=>m.with (Dk m.p p.row p.ds)
 | false=>match p.kd==3 with
   | true=>m.extra p
   | false=>match p.kd==4 with
     | true=>m.linked p
     | false=>match p.kd==5&&tr.nZ p.kd p.cd p.ds with
       | true=>m.with {m.p with df:=IntKind.i64.wrap (1+RS p.kd p.cd p.ds)}
       | false=>m
noncomputable def Mc.nG (M:Mc) (g:Nat) (p:Px):Mc:=match (M.v g).TQ with
 | true=>M.kW g ((M.v g).part p)
 | false=>M
theorem QD {p:Pg} {row:Int} {ds:List Int} (h:fits p):fits (Dk p row ds):=by
 unfold Dk
 split <;> exact h
theorem adf {n:Nat} {E l:List (List Sc)} (hn:n<16) (hE:E.length<=208):(exV n E l).length<=208:=by
 have lP:=o6 (13 * (n+1)) E
 unfold exV
 rw [ie,ie]
 ·omega
 ·rw [List.length_replicate]; omega
 ·rw [ie (by rw [List.length_replicate]; omega),List.length_take]; omega
theorem Hj {p:Pg} {c:Int} {l:List (List Sc)} (h:fits p):fits (nB p c l):=by
 unfold nB
 split
 ·rename_i hc
  have hc:=of_decide_eq_true hc
  exact adf (by omega) h
 ·exact h
theorem QE {m:Mv} {p:Px} (h:fits m.p):fits (m.part p).p:=by
 unfold Mv.part
 split
 ·exact QD h
 ·split
  ·unfold Mv.extra
   split
   ·exact Hj h
   ·exact h
  ·split
   ·unfold Mv.linked
    split <;> exact h
   ·split <;> exact h
theorem Hk (m:Mv) (p:Px):(m.part p).t=m.t:=by
 unfold Mv.part
 split
 ·rfl
 ·split
  ·unfold Mv.extra
   split <;> rfl
  ·split
   ·unfold Mv.linked
    split <;> rfl
   ·split <;> rfl
theorem QF {M:Mc} (h:M.bM) {g:Nat} (hg:g<9) (p:Px):(M.nG g p).bM:=by
 unfold Mc.nG
 split
 ·exact h.pH hg (QE (h.Ap g)) (by rw [Hk]; exact h.RQ g)
 ·exact h
theorem pq {M:Mc} {g:Nat} {row kd cd:Int} {ds:List Int} {R:Out->Prop} (hM:M.bM) (hl:kd=3∨kd=4∨kd=5->ds.length=39) (hb:∀ b∈ds,0<=b∧b<256) (h:R (ki (M.nG g ⟨g,row,kd,cd,ds⟩) .en)):inT M g row kd cd ds R:=by
 have hf:=hM.Ap g
 have hf' : (M.v g).p.ex.length<=208:=hf
 unfold inT
 unfold Mc.nG at h
 cases ho:(M.v g).TQ with
 | false=>rw [ho] at h; exact sT rfl h
 | true=>
   rw [ho] at h
   refine sF rfl ?_
   have h:R (ki (M.kW g ((M.v g).part ⟨g,row,kd,cd,ds⟩)) .en):=h
   unfold Mv.part at h
   simp only at h
   cases h2:(kd==2) with
   | true=>rw [h2] at h; exact sT rfl ⟨⟨rfl,by omega,hb⟩,h⟩
   | false=>
     rw [h2] at h
     refine sF rfl ?_
     cases h3:(kd==3) with
     | true=>
       rw [h3] at h
       have e3:=eq_of_beq h3
       exact sT rfl ⟨⟨⟨rfl,rfl⟩,⟨e3,hl (.inl e3),hb⟩,hf⟩,h⟩
     | false=>
       rw [h3] at h
       refine sF rfl ?_
       cases h4:(kd==4) with
       | true=>
         rw [h4] at h
         have e4:=eq_of_beq h4
         exact sT rfl ⟨⟨⟨rfl,rfl⟩,e4,hl (.inr (.inl e4))⟩,h⟩
       | false=>
         rw [h4] at h
         refine sF rfl ?_
         cases h5:(kd==5) with
         | true=>
           rw [h5,Bool.true_and] at h
           have hl5:=hl (.inr (.inr (eq_of_beq h5)))
           refine sT rfl ⟨⟨by omega,by omega,hb⟩,?_⟩
           cases hr:tr.nZ kd cd ds with
           | true=>rw [hr] at h; exact sT rfl h
           | false=>
             rw [hr] at h
             have h:R (ki (M.kW g (M.v g)) .en):=h
             rw [y8] at h
             exact sF rfl h
         | false=>
           rw [h5,Bool.false_and] at h
           have h:R (ki (M.kW g (M.v g)) .en):=h
           rw [y8] at h
           exact sF rfl h
noncomputable def tIn:au:=fun args I=>match args with
 | [.c (.p 0 0 0),v]=>(match akr v with
   | some p=>Qf I fun M=>.aF (args=[.c (.p 0 0 0),p.nv]∧(1<=p.mg∧p.mg<=8)∧M.bM∧(p.kd=3∨p.kd=4∨p.kd=5->p.ds.length=39)∧∀ b∈p.ds,0<=b∧b<256) (.ret (ki (M.nG p.mg.toNat p) .en))
   | none=>.fail)
 | _=>.fail
attribute [local irreducible] qG in
theorem kIn:Known prog GL 39 tIn:=by
 refine aqE.less fun args I R h=>?_
 unfold tIn at h
 split at h
 case h_2=>exact h.elim
 split at h
 case h_2=>exact h.elim
 rename_i p _
 obtain ⟨M,rfl,hM,⟨h1,hg,CX,hl,hb⟩,h⟩:=fo h
 rw [h1]
 obtain ⟨g,row,kd,cd,ds⟩:=p
 have hg:g=1∨g=2∨g=3∨g=4∨g=5∨g=6∨g=7∨g=8:=by have:=hg.1; have:=hg.2; simp only at *; omega
 rcases hg with rfl | rfl | rfl | rfl | rfl | rfl | rfl | rfl
 ·exact (Wl M row kd cd ds R).mpr (pq CX hl hb h)
 ·exact (Wm M row kd cd ds R).mpr (pq CX hl hb h)
 ·exact (Wn M row kd cd ds R).mpr (pq CX hl hb h)
 ·exact (Wo M row kd cd ds R).mpr (pq CX hl hb h)
 ·exact (Wp M row kd cd ds R).mpr (pq CX hl hb h)
 ·exact (Wq M row kd cd ds R).mpr (pq CX hl hb h)
 ·exact (Wr M row kd cd ds R).mpr (pq CX hl hb h)
 ·exact (Ws M row kd cd ds R).mpr (pq CX hl hb h)
noncomputable def akN (q:RP):au:=fun args I=>match args,I with
 | [.c (.l _ bs)],[]=>.aF (args=[.c (.l .u8 bs)]∧wq bs=q) (.ret q.out)
 | [.c .sn],[]=>.aF (q=.bad fM) (.ret q.out)
 | _,_=>.fail
theorem avw (q:RP):Known prog GL 35 (akN q):=by
 refine ava.less fun args I R h=>?_
 unfold akN at h
 split at h
 case h_3=>exact h.elim
 case h_1=>
  obtain ⟨⟨h1,h2⟩,h⟩:=h
  rw [h1]
  subst h2
  exact h
 case h_2=>
  obtain ⟨h1,h⟩:=h
  subst h1
  exact h
noncomputable def aqP (q:RP):FuncId->Option au:=aE [(35,akN q),(36,tHd),(37,tr.w6),(38,sv.akL),(39,tIn)]
theorem aqQ (q:RP):∀ f T,aqP q f=some T->Known prog GL f T:=(aq.cons (avw q) (.cons kHd (.cons tr.MT (.cons sv.avv (.cons kIn .nil))))).get
noncomputable def ahf (q:RP):au:=fun args I=>aD prog GL (aqP q) [] f11 args I
theorem aqR (q:RP):bP prog GL 11 (ahf q):=dp func11 rfl (by kernel_rfl) mixed (aqQ q) (by kernel_rfl)
noncomputable def jz (q:RP):au:=da [] [] [] [] 9 (iM 8 [(1,2,aY [])] none (ahf q))
theorem aqS (q:RP):Known prog GL 11 (jz q):=((aqR q).canon 8 [(1,2,aY [])] none).soft [] [] [] [] 9
noncomputable def rD (ds:List Int):Ix:=⟨sv.WV ds,sv.fa ds,sv.sbV ds,sv.nwV ds,sv.ofS ds,sv.dyV ds,sv.hrV ds,sv.miV ds,sv.seV ds,sv.nC ds,true⟩
noncomputable def zM (M:Mc) (g:Nat) (row kd cd:Int) (ds:List Int) (R:Out->Prop):Prop:=
 af (kd==1) ((dO M=dO (bk M)∧(bk M).ok)∧([NV.c (.p 0 0 0),(⟨(g:Int),row,kd,cd,ds⟩:Px).nv]=[.c (.p 0 0 0),(⟨(g:Int),row,1,cd,ds⟩:Px).nv]∧(1<=(g:Int)∧(g:Int)<=8)∧(bk M).bM∧ds.length=40∧∀ b∈ds,0<=b∧b<256)∧
   af (rq ds) (R (ki ((bk M).Qi g ds) .en)) (R (ki (bk M) (.e dX))))
  (af (kd==6) (rgT kd cd ds (R (ki (M.kW g {M.v g with rg:=RS kd cd ds,td:=true}) .en)) (R (ki M .en)))
  (af (kd==7) ((sv.WX g kd cd=true->ds.length=39∧∀ x∈ds,0<=x∧x<256)∧af (sv.WX g kd cd) (af (sv.uK ds) (af (sv.po (sv.gD ds)) (R (ki {M with inf:=rD ds} .en)) (R (ki M (.e oY)))) (R (ki M (.e dX)))) (R (ki M (.e fN))))
    ((dO M=dO (bk M)∧(bk M).ok)∧([NV.c (.p 0 0 0),(⟨(g:Int),row,kd,cd,ds⟩:Px).nv]=[.c (.p 0 0 0),(⟨(g:Int),row,kd,cd,ds⟩:Px).nv]∧(1<=(g:Int)∧(g:Int)<=8)∧(bk M).bM∧(kd=3∨kd=4∨kd=5->ds.length=39)∧∀ b∈ds,0<=b∧b<256)∧
      R (ki ((bk M).nG g ⟨g,row,kd,cd,ds⟩) .en))))
theorem QG (M:Mc) (bs:List Int) (R:Out->Prop):(jz (.bad fM) [.c (.p 0 0 0),.c (.l .u8 bs)] (dO M)).run R=(([NV.c (.l .u8 bs)]=[NV.c (.l .u8 bs)]∧wq bs=.bad fM)∧R (ki M (.e fM))):=by kernel_rfl
theorem QH (M:Mc) (bs:List Int) (R:Out->Prop):(jz (.bad dX) [.c (.p 0 0 0),.c (.l .u8 bs)] (dO M)).run R=(([NV.c (.l .u8 bs)]=[NV.c (.l .u8 bs)]∧wq bs=.bad dX)∧R (ki M (.e dX))):=by kernel_rfl
theorem QI (M:Mc) (bs:List Int) (R:Out->Prop):(jz (.bad fN) [.c (.p 0 0 0),.c (.l .u8 bs)] (dO M)).run R=(([NV.c (.l .u8 bs)]=[NV.c (.l .u8 bs)]∧wq bs=.bad fN)∧R (ki M (.e fN))):=by kernel_rfl
theorem W0 (M:Mc) (R:Out->Prop):(jz (.bad fM) [.c (.p 0 0 0),.c .sn] (dO M)).run R=(RP.bad fM=.bad fM∧R (ki M (.e fM))):=by kernel_rfl
theorem W2 (M:Mc) (row kd cd:Int) (ds bs:List Int) (R:Out->Prop):(jz (.ok ⟨1,row,kd,cd,ds⟩) [.c (.p 0 0 0),.c (.l .u8 bs)] (dO M)).run R=(([NV.c (.l .u8 bs)]=[NV.c (.l .u8 bs)]∧wq bs=.ok ⟨1,row,kd,cd,ds⟩)∧zM M 1 row kd cd ds R):=by kernel_rfl
theorem W3 (M:Mc) (row kd cd:Int) (ds bs:List Int) (R:Out->Prop):(jz (.ok ⟨2,row,kd,cd,ds⟩) [.c (.p 0 0 0),.c (.l .u8 bs)] (dO M)).run R=(([NV.c (.l .u8 bs)]=[NV.c (.l .u8 bs)]∧wq bs=.ok ⟨2,row,kd,cd,ds⟩)∧zM M 2 row kd cd ds R):=by kernel_rfl
theorem W4 (M:Mc) (row kd cd:Int) (ds bs:List Int) (R:Out->Prop):(jz (.ok ⟨3,row,kd,cd,ds⟩) [.c (.p 0 0 0),.c (.l .u8 bs)] (dO M)).run R=(([NV.c (.l .u8 bs)]=[NV.c (.l .u8 bs)]∧wq bs=.ok ⟨3,row,kd,cd,ds⟩)∧zM M 3 row kd cd ds R):=by kernel_rfl
theorem W5 (M:Mc) (row kd cd:Int) (ds bs:List Int) (R:Out->Prop):(jz (.ok ⟨4,row,kd,cd,ds⟩) [.c (.p 0 0 0),.c (.l .u8 bs)] (dO M)).run R=(([NV.c (.l .u8 bs)]=[NV.c (.l .u8 bs)]∧wq bs=.ok ⟨4,row,kd,cd,ds⟩)∧zM M 4 row kd cd ds R):=by kernel_rfl
theorem W6 (M:Mc) (row kd cd:Int) (ds bs:List Int) (R:Out->Prop):(jz (.ok ⟨5,row,kd,cd,ds⟩) [.c (.p 0 0 0),.c (.l .u8 bs)] (dO M)).run R=(([NV.c (.l .u8 bs)]=[NV.c (.l .u8 bs)]∧wq bs=.ok ⟨5,row,kd,cd,ds⟩)∧zM M 5 row kd cd ds R):=by kernel_rfl
theorem W7 (M:Mc) (row kd cd:Int) (ds bs:List Int) (R:Out->Prop):(jz (.ok ⟨6,row,kd,cd,ds⟩) [.c (.p 0 0 0),.c (.l .u8 bs)] (dO M)).run R=(([NV.c (.l .u8 bs)]=[NV.c (.l .u8 bs)]∧wq bs=.ok ⟨6,row,kd,cd,ds⟩)∧zM M 6 row kd cd ds R):=by kernel_rfl
theorem W8 (M:Mc) (row kd cd:Int) (ds bs:List Int) (R:Out->Prop):(jz (.ok ⟨7,row,kd,cd,ds⟩) [.c (.p 0 0 0),.c (.l .u8 bs)] (dO M)).run R=(([NV.c (.l .u8 bs)]=[NV.c (.l .u8 bs)]∧wq bs=.ok ⟨7,row,kd,cd,ds⟩)∧zM M 7 row kd cd ds R):=by kernel_rfl
theorem W9 (M:Mc) (row kd cd:Int) (ds bs:List Int) (R:Out->Prop):(jz (.ok ⟨8,row,kd,cd,ds⟩) [.c (.p 0 0 0),.c (.l .u8 bs)] (dO M)).run R=(([NV.c (.l .u8 bs)]=[NV.c (.l .u8 bs)]∧wq bs=.ok ⟨8,row,kd,cd,ds⟩)∧zM M 8 row kd cd ds R):=by kernel_rfl
noncomputable def Mc.qI (M:Mc) (p:Px):Mc × Option Nat:=
 match p.kd==1 with
 | true=>(match rq p.ds with
   | true=>(M.Qi p.mg.toNat p.ds,none)
   | false=>(M,some dX))
 | false=>match p.kd==6 with
   | true=>(match tr.nZ p.kd p.cd p.ds with
     | true=>(M.kW p.mg.toNat {M.v p.mg.toNat with rg:=RS p.kd p.cd p.ds,td:=true},none)
     | false=>(M,none))
   | false=>match p.kd==7 with
     | true=>(match sv.WX p.mg p.kd p.cd with
       | true=>(match sv.uK p.ds with
         | true=>(match sv.po (sv.gD p.ds) with
           | true=>({M with inf:=rD p.ds},none)
           | false=>(M,some oY))
         | false=>(M,some dX))
       | false=>(M,some fN))
     | false=>(M.nG p.mg.toNat p,none)
noncomputable def Mc.step (M:Mc) (bs:List Int):Mc × Option Nat:=match wq bs with
 | .bad k=>(M,some k)
 | .ok p=>M.qI p
theorem Xa {M:Mc} (h:M.bM) {p:Px} (hg:1<=p.mg∧p.mg<=8):(M.qI p).1.bM:=by
 have hn:p.mg.toNat<9:=by omega
 unfold Mc.qI
 split
 ·split
  ·exact Vs h (by omega) _
  ·exact h
 ·split
  ·split
   ·exact h.pH hn (h.Ap _) (h.RQ _)
   ·exact h
  ·split
   ·split
    ·split
     ·split
      ·exact ⟨h.wu,h.nd,h.m1,h.m8,h.len,h.fit,h.Ap,h.RQ⟩
      ·exact h
     ·exact h
    ·exact h
   ·exact QF h hn p
theorem Hl (r:Int):dZ r=0∨(dZ r=1∧r=0)∨(dZ r=2∧1<=r∧r<=24)∨(3<=dZ r∧dZ r<=7∧26<=r∧r<=30):=by
 unfold dZ
 by_cases h0:r=0
 ·subst h0; exact .inr (.inl ⟨rfl,rfl⟩)
 ·rw [axw h0]
  by_cases h1:1<=r∧r<=24
  ·refine .inr (.inr (.inl ⟨?_,h1⟩))
   simp [h1]
  ·by_cases h2:26<=r∧r<=30
   ·refine .inr (.inr (.inr ?_))
    have:r=26∨r=27∨r=28∨r=29∨r=30:=by omega
    rcases this with rfl | rfl | rfl | rfl | rfl <;> decide
   ·left
    have e1:(decide (r >= 1)&&decide (r<=24))=false:=by
     rw [Bool.and_eq_false_iff]
     by_cases c:r >= 1
     ·exact .inr (axw fun h=>h1 ⟨c,h⟩)
     ·exact .inl (axw c)
    have e2:(decide (r >= 26)&&decide (r<=30))=false:=by
     rw [Bool.and_eq_false_iff]
     by_cases c:r >= 26
     ·exact .inr (axw fun h=>h2 ⟨c,h⟩)
     ·exact .inl (axw c)
    simp [e1,e2]
theorem Xb (b:Int):0<=bw b∧bw b<16:=by
 unfold bw pk.get
 cases h:(axy 16).find? (C8 b) with
 | none=>exact ⟨by decide,by decide⟩
 | some n=>
   have:=azv h
   rw [List.mem_range] at this
   show 0<=((n:Nat):Int)∧((n:Nat):Int)<16
   omega
theorem QJ (x:Int) (h:0<=x∧x<16):1<=nN x∧nN x<=8:=by
 have:x=0∨x=1∨x=2∨x=3∨x=4∨x=5∨x=6∨x=7∨x=8∨x=9∨x=10∨x=11∨x=12∨x=13∨x=14∨x=15:=by omega
 rcases this with rfl | rfl | rfl | rfl | rfl | rfl | rfl | rfl | rfl | rfl | rfl | rfl | rfl | rfl | rfl | rfl <;> decide
structure aqT (p:Px):Prop where
 mg:1<=p.mg∧p.mg<=8
 kd:1<=p.kd∧p.kd<=7
 l40:p.kd<=2->p.ds.length=40
 l39:3<=p.kd->p.ds.length=39
 Nd : ∀ b∈p.ds,0<=b∧b<256
theorem zb {bs:List Int} {p:Px} (hb:∀ b∈bs,0<=b∧b<256) (h:wq bs=.ok p):aqT p:=by
 unfold wq at h
 split at h
 ·cases h
 rename_i hl
 have hl:=of_decide_eq_true hl
 split at h
 ·cases h
 split at h
 ·cases h
 rename_i hk
 have hk:=of_decide_eq_false hk
 have hm:=QJ _ (Xb (bs.getD 0 0))
 have hc:=Hl (p7 bs)
 split at h
 ·rename_i hr
  have hr:=of_decide_eq_false hr
  cases h
  refine ⟨hm,⟨?_,?_⟩,fun _=>?_,fun h3=>?_,fun b hH=>hb b (azM hH)⟩
  ·simp only; omega
  ·simp only; omega
  ·simp only [ax1]; omega
  ·simp only at h3; omega
 ·rename_i hr
  have hr:=of_decide_eq_true hr
  split at h
  ·cases h
   refine ⟨hm,⟨?_,?_⟩,fun h3=>?_,fun _=>?_,fun b hH=>hb b (azM (azM hH))⟩
   ·simp only; omega
   ·simp only; omega
   ·simp only at h3; omega
   ·simp only [ax1]; omega
  ·cases h
theorem Nf {bs:List Int} {k:Nat} (h:wq bs=.bad k):k=fM∨k=dX∨k=fN:=by
 unfold wq at h
 split at h
 ·cases h; exact .inl rfl
 split at h
 ·cases h; exact .inr (.inl rfl)
 split at h
 ·cases h; exact .inr (.inr rfl)
 split at h
 ·cases h
 split at h
 ·cases h
 ·cases h; exact .inr (.inl rfl)
theorem BL {M:Mc} (h:M.bM) {bs:List Int} (hb:∀ b∈bs,0<=b∧b<256):(M.step bs).1.bM:=by
 unfold Mc.step
 split
 ·exact h
 ·rename_i p hp
  exact Xa h (zb hb hp).mg
def ncE:Option Nat->NC
 | none=>.en
 | some k=>.e k
noncomputable def aqU (e:Option Nat) (M:Mc):Tr Out:=
 .br (e==none) (.ret (ki M .en)) (.br (e==some fM) (.ret (ki M (.e fM))) (.br (e==some dX) (.ret (ki M (.e dX))) (.br (e==some fN) (.ret (ki M (.e fN))) (.ret (ki M (.e oY))))))
theorem Xc {e:Option Nat} {M:Mc} {R:Out->Prop} (he:e=none∨e=some fM∨e=some dX∨e=some fN∨e=some oY) (h:(aqU e M).run R):R (ki M (ncE e)):=by
 rcases he with rfl | rfl | rfl | rfl | rfl
 all_goals exact h
theorem akO {M:Mc} {p:Px} {g:Nat} {R:Out->Prop} (hg:(g:Int)=p.mg) (hM:M.bM) (hp:aqT p) (h:R (ki (M.qI p).1 (ncE (M.qI p).2))):zM M g p.row p.kd p.cd p.ds R:=by
 have hgn:p.mg.toNat=g:=by omega
 unfold zM
 rw [hM.bk,hg]
 unfold Mc.qI at h
 rw [hgn] at h
 cases h1:(p.kd==1) with
 | true=>
   have e1:=eq_of_beq h1
   rw [h1] at h
   refine sT rfl ⟨⟨rfl,hM.ok⟩,⟨by rw [e1],hp.mg,hM,hp.l40 (by omega),hp.Nd⟩,?_⟩
   cases ho:rq p.ds with
   | true=>rw [ho] at h; exact sT rfl h
   | false=>rw [ho] at h; exact sF rfl h
 | false=>
   rw [h1] at h
   refine sF rfl ?_
   cases h6:(p.kd==6) with
   | true=>
     have e6:=eq_of_beq h6
     rw [h6] at h
     have hl:=hp.l39 (by omega)
     refine sT rfl ⟨⟨by omega,by omega,hp.Nd⟩,?_⟩
     cases ho:tr.nZ p.kd p.cd p.ds with
     | true=>rw [ho] at h; exact sT rfl h
     | false=>rw [ho] at h; exact sF rfl h
   | false=>
     rw [h6] at h
     refine sF rfl ?_
     cases h7:(p.kd==7) with
     | true=>
       have e7:=eq_of_beq h7
       rw [h7] at h
       refine sT rfl ⟨fun _=>⟨hp.l39 (by omega),hp.Nd⟩,?_⟩
       cases ho:sv.WX p.mg p.kd p.cd with
       | false=>rw [ho] at h; exact sF rfl h
       | true=>
         rw [ho] at h
         refine sT rfl ?_
         cases ha:sv.uK p.ds with
         | false=>rw [ha] at h; exact sF rfl h
         | true=>
           rw [ha] at h
           refine sT rfl ?_
           cases hc:sv.po (sv.gD p.ds) with
           | false=>rw [hc] at h; exact sF rfl h
           | true=>rw [hc] at h; exact sT rfl h
     | false=>
       rw [h7] at h
       exact sF rfl ⟨⟨rfl,hM.ok⟩,⟨rfl,hp.mg,hM,fun h3=>hp.l39 (by omega),hp.Nd⟩,h⟩
noncomputable def tPk:au:=fun args I=>match args with
 | [.c (.p 0 0 0),.c (.l _ bs)]=>Qf I fun M=>.aF (args=[.c (.p 0 0 0),.c (.l .u8 bs)]∧M.bM∧∀ b∈bs,0<=b∧b<256) (aqU (M.step bs).2 (M.step bs).1)
 | [.c (.p 0 0 0),.c .sn]=>Qf I fun M=>.ret (ki M (.e fM))
 | _=>.fail
theorem gQ {P:Program} {gl:List Nat} {f:FuncId} {ι:Type} {T:ι->au} {T' : au} (i0:ι) (hk:∀ i,Known P gl f (T i)) (h:∀ args I R,(T' args I).run R->∃ i,(T i args I).run R):Known P gl f T':=
 ⟨(hk i0).qV,fun args I R hr=>by obtain ⟨i,hi⟩:=h args I R hr; exact (hk i).sound args I R hi⟩
theorem adg (M:Mc) (p:Px):(M.qI p).2=none∨(M.qI p).2=some fM∨(M.qI p).2=some dX∨(M.qI p).2=some fN∨(M.qI p).2=some oY:=by
 unfold Mc.qI
 split
 ·split
  ·exact .inl rfl
  ·exact .inr (.inr (.inl rfl))
 ·split
  ·split <;> exact .inl rfl
  ·split
   ·split
    ·split
     ·split
      ·exact .inl rfl
      ·exact .inr (.inr (.inr (.inr rfl)))
     ·exact .inr (.inr (.inl rfl))
    ·exact .inr (.inr (.inr (.inl rfl)))
   ·exact .inl rfl
theorem zd (M:Mc) (bs:List Int):(M.step bs).2=none∨(M.step bs).2=some fM∨(M.step bs).2=some dX∨(M.step bs).2=some fN∨(M.step bs).2=some oY:=by
 unfold Mc.step
 split
 ·rename_i k hk
  rcases Nf hk with rfl | rfl | rfl
  ·exact .inr (.inl rfl)
  ·exact .inr (.inr (.inl rfl))
  ·exact .inr (.inr (.inr (.inl rfl)))
 ·exact adg M _
attribute [local irreducible] jz zM dO in
set_option maxHeartbeats 1000000 in
theorem aqV {M:Mc} {bs:List Int} {R:Out->Prop} (hM:M.bM) (hb:∀ b∈bs,0<=b∧b<256) (h:R (ki (M.step bs).1 (ncE (M.step bs).2))):(jz (wq bs) [.c (.p 0 0 0),.c (.l .u8 bs)] (dO M)).run R:=by
 unfold Mc.step at h
 cases hq:wq bs with
 | bad k=>
   rw [hq] at h
   rcases Nf hq with rfl | rfl | rfl
   ·exact (QG M bs R).mpr ⟨⟨rfl,hq⟩,h⟩
   ·exact (QH M bs R).mpr ⟨⟨rfl,hq⟩,h⟩
   ·exact (QI M bs R).mpr ⟨⟨rfl,hq⟩,h⟩
 | ok p=>
   rw [hq] at h
   have hp:=zb hb hq
   have key:∀ g:Nat,(g:Int)=p.mg->zM M g p.row p.kd p.cd p.ds R:=fun g hg=>akO hg hM hp h
   clear h
   obtain ⟨g,row,kd,cd,ds⟩:=p
   have hg:g=1∨g=2∨g=3∨g=4∨g=5∨g=6∨g=7∨g=8:=by have:=hp.mg; simp only at this; omega
   rcases hg with rfl | rfl | rfl | rfl | rfl | rfl | rfl | rfl
   ·exact (W2 M row kd cd ds bs R).mpr ⟨⟨rfl,hq⟩,key 1 rfl⟩
   ·exact (W3 M row kd cd ds bs R).mpr ⟨⟨rfl,hq⟩,key 2 rfl⟩
   ·exact (W4 M row kd cd ds bs R).mpr ⟨⟨rfl,hq⟩,key 3 rfl⟩
   ·exact (W5 M row kd cd ds bs R).mpr ⟨⟨rfl,hq⟩,key 4 rfl⟩
   ·exact (W6 M row kd cd ds bs R).mpr ⟨⟨rfl,hq⟩,key 5 rfl⟩
   ·exact (W7 M row kd cd ds bs R).mpr ⟨⟨rfl,hq⟩,key 6 rfl⟩
   ·exact (W8 M row kd cd ds bs R).mpr ⟨⟨rfl,hq⟩,key 7 rfl⟩
   ·exact (W9 M row kd cd ds bs R).mpr ⟨⟨rfl,hq⟩,key 8 rfl⟩
attribute [local irreducible] jz in
theorem kPk:Known prog GL 11 tPk:=by
 refine gQ (.bad 0) aqS fun args I R h=>?_
 unfold tPk at h
 split at h
 case h_3=>exact h.elim
 case h_1=>
  rename_i _ bs
  obtain ⟨M,rfl,hM,⟨h1,hg,hb⟩,h⟩:=fo h
  rw [h1]
  exact ⟨wq bs,aqV hg hb (Xc (zd M bs) h)⟩
 case h_2=>
  obtain ⟨M,rfl,hM,h⟩:=fo h
  exact ⟨.bad fM,(W0 M R).mpr ⟨rfl,h⟩⟩
theorem Xd (R:Out->Prop):(Gq [.c .sn] []).run R=R ⟨.v (.c (.lr K3 [])),[]⟩:=by kernel_rfl
noncomputable def Xe:au:=fun args I=>match args,I with
 | [.c .sn],[]=>.ret ⟨.v (.c (.lr K3 [])),[]⟩
 | [.c (.lr ks xs)],[]=>Bp [.c (.lr ks xs)] []
 | _,_=>.fail
noncomputable def aqW:Bool->au
 | true=>Gq
 | false=>Bp
attribute [local irreducible] Gq in
theorem aqX:Known prog GL 103 Xe:=by
 refine gQ (T:=aqW) true (fun b=>by cases b; exact Up; exact Ul) fun args I R h=>?_
 unfold Xe at h
 split at h
 ·exact ⟨true,(aJ.of_eq (Xd R) h).out⟩
 ·exact ⟨false,h⟩
 ·exact h.elim
noncomputable def Xf:FuncId->Option au:=aE [(103,Xe)]
theorem adh:∀ f T,Xf f=some T->Known prog GL f T:=(aq.cons aqX .nil).get
noncomputable def DO:au:=fun args I=>aD prog GL Xf [] f55 args I
theorem akP:Known prog GL 55 DO:=ah func55 rfl (by kernel_rfl) mixed adh (by kernel_rfl)
noncomputable def pgN (p:Pg):NV:=.sg (uw p .sn [] fun q=>[.cells q])
theorem QK (p:Pg) (R:Out->Prop):(DO [fa p] []).run R=(([NV.c (.lr K3 p.ex)]=[NV.c (.lr K3 p.ex)]∧p.ex.length<=1000000)∧R (EC p)):=by kernel_rfl
theorem Xg (R:Out->Prop):(DO [pgN fO] []).run R=R (EC fO):=by kernel_rfl
noncomputable def Xh:au:=fun args I=>match args,I with
 | [v],[]=>(match nX v with
   | some p=>.aF (args=[fa p]∧fits p) (.ret (EC p))
   | none=>.aF (args=[pgN fO]) (.ret (EC fO)))
 | _,_=>.fail
attribute [local irreducible] DO in
theorem aqY:Known prog GL 55 Xh:=by
 refine akP.less fun args I R h=>?_
 unfold Xh at h
 split at h
 case h_2=>exact h.elim
 split at h
 ·rename_i p _
  obtain ⟨⟨h1,h2⟩,h⟩:=h
  rw [h1]
  unfold fits at h2
  exact (aJ.of_eq (QK p R) ⟨⟨rfl,by omega⟩,h⟩).out
 ·obtain ⟨h1,h⟩:=h
  rw [h1]
  exact (aJ.of_eq (Xg R) h).out
noncomputable def Ng:FuncId->Option au:=aE [(54,tGe),(55,Xh),(56,agX)]
theorem Kk:∀ f T,Ng f=some T->Known prog GL f T:=(aq.cons kGe (.cons aqY (.cons aqq .nil))).get
noncomputable def XFe:Cx:={P:=prog,con:=Ng,glob:=GL,m:=4,loops:=[]}
noncomputable def XIt:Cx:={P:=prog,con:=cIt,glob:=GL,m:=9,loops:=[]}
noncomputable def fr0:List NS:=frame 50 [(3,.v (.c (.p 4 0 0))),(4,.v (.c (.p 5 0 0))),(8,.v (.c (.p 6 0 0))),(9,.v (.c (.p 7 0 0))),(31,.v (.c (.cl 104 [(8,0,0)])))]
noncomputable def YF:Yh:=vI XFe (GO Ij) (GP Ij) (GQ Ij) fr0
noncomputable def avx (n i:Int) (l:Nat):List NS:=frame 32 [(0,.v (.c (.e 1000))),(1,.v (.c (.p 8 0 0))),(8,.v (.c (.hz 9 l))),(9,.v (.c (.i .i64 n))),(10,.v (.c (.i .i64 i)))]
noncomputable def pgO:Option Pg->aG
 | some p=>qB p (.lr K3 p.ex)
 | none=>qB fO .sn
noncomputable def rgI (M:Mc) (k:Ky) (o:Option Pg):List (Option aG):=[some (Ii 1 M.v M.inf),some (stM M.st.bR (.hz 3 M.st.bR.l.length)),some (eN M.st.bR.m),some (aY (aC M.st.bR.l)),some (agz k),some (qB fO .sn),some (pgO o),some ⟨1,4,.cells [.b o.isSome]⟩,some ⟨1,88,.cells [.p 1 0 0]⟩]
noncomputable def SF (M:Mc) (k:Ky) (o:Option Pg) (i:Int):St:={fr:=avx M.st.L.length i M.st.L.length,rg:=rgI M k o++[some (aY (aC (M.st.L.map bA)))]}
noncomputable def DF (M:Mc) (k:Ky) (o:Option Pg):St:={fr:=frame 32 [],rg:=rgI M k o}
noncomputable abbrev itC:Code:=ae Vt 0
noncomputable def akQ (s:St):Tr F7:=Ji XIt YF KI [] 0 [0,1,8,9,10] [] itC s ay1
def Xi (M:Mc) (i:Int):Ky:=dj ((aC (M.st.L.map bA)).getD i.toNat [])
noncomputable def nxF (M:Mc) (k:Ky) (o:Option Pg) (i:Int) (R:F7->Prop):Prop:=R (.next (SF M k o (IntKind.i64.wrap (i+1))) ay1)
noncomputable def inF (M:Mc) (k:Ky) (o:Option Pg) (i:Int) (R:F7->Prop):Prop:=
 af (decide (i<(M.st.L.length:Int))) (af (decide (0<=i)) (af (decide (i<(M.st.L.length:Int))) (af (decide (i.toNat<(aC (M.st.L.map bA)).length)) (af (gW di (iN (Xi M i)) M.st.bR.m)
  (true=true∧af ((Xi M i).1==k.1) (af ((Xi M i).2.1==k.2.1) (nxF M k (some (ofRow (jQ di (iN (Xi M i)) M.st.bR.m))) i R) (nxF M k o i R)) (nxF M k o i R)) (nxF M k o i R)) False) False) False) (R (.done .normal (DF M k o) ay1))
theorem Xj (M:Mc) (k:Ky) (i:Int) (R:F7->Prop):(akQ (SF M k none i)).run R=inF M k none i R:=by kernel_rfl
theorem Xk (M:Mc) (k:Ky) (p:Pg) (i:Int) (R:F7->Prop):(akQ (SF M k (some p) i)).run R=inF M k (some p) i R:=by kernel_rfl
theorem adi (M:Mc) (k:Ky) (i:Int) (R:F7->Prop):∀ o:Option Pg,(akQ (SF M k o i)).run R=inF M k o i R
 | none=>Xj M k i R
 | some p=>Xk M k p i R
def DP (k:Ky) (p:Pg):Bool:=(p.mg==k.1)&&(p.pn==k.2.1)
def vQ (k:Ky) (o:Option Pg) (p:Pg):Option Pg:=match DP k p with
 | true=>some p
 | false=>o
def mm (k:Ky) (L:List Pg):Option Pg:=L.foldl (vQ k) none
theorem Xl {M:Mc} {i:Int} (h:i.toNat<M.st.L.length):Xi M i=bA M.st.L[i.toNat]:=by
 unfold Xi
 rw [kT (by rw [azq]; exact h),axF,List.getElem?_map,axP h]
 rfl
theorem Nh:∀ {L:List Pg} {n:Nat} (hn:n<L.length),(L.map bA).Nodup->L.find? (fun p=>dN (bA L[n]) (bA p))=some L[n]
 | [],n,hn,_=>absurd hn (Nat.not_lt_zero _)
 | q::L,0,_,_=>by
   rw [List.find?_cons]
   show (match dN (bA q) (bA q) with | true=>some q | false=>_)=some q
   rw [fU.2 rfl]
 | q::L,n+1,hn,h=>by
   rw [List.map_cons,List.nodup_cons] at h
   have xQ : n<L.length:=Nat.lt_of_succ_lt_succ hn
   rw [List.find?_cons]
   show (match dN (bA L[n]) (bA q) with | true=>some q | false=>L.find? (fun p=>dN (bA L[n]) (bA p)))=some L[n]
   cases hk:dN (bA L[n]) (bA q) with
   | true=>exact (h.1 (fU.1 hk ▸ List.mem_map.2 ⟨L[n],List.getElem_mem xQ,rfl⟩)).elim
   | false=>exact Nh xQ h.2
theorem Xm {L:List Pg} {n:Nat} (hn:n<L.length) (h:(L.map bA).Nodup):gW di (iN (bA L[n])) (gB L)=true∧ofRow (jQ di (iN (bA L[n])) (gB L))=L[n]:=by
 have:=Dh (bA L[n]) L
 rw [Nh hn h] at this
 exact this
structure AF where
 o:Option Pg
 i:Int
noncomputable def adj (M:Mc) (k:Ky) (o:Option Pg):Tr (aj × St × Option aj):=.br o.isSome (.ret (.normal,DF M k (some (o.getD fO)),ay1)) (.ret (.normal,DF M k none,ay1))
def akR (M:Mc) (k:Ky) (a:AF) (R:aj × St × Option aj->Prop):Prop:=(0<=a.i∧a.i<=(M.st.L.length:Int))∧M.bM∧(adj M k ((M.st.L.drop a.i.toNat).foldl (vQ k) a.o)).run R
noncomputable def hF (M:Mc) (k:Ky) (a:AF):St × Option aj:=(SF M k a.o a.i,ay1)
def akS (M:Mc) (k:Ky) (a:AF) (R:aj × St × Option aj->Prop) (o:F7):Prop:=match o with
 | .next s p=>∃ y,(s,p)=hF M k y∧((M.st.L.length:Int) - y.i).toNat<((M.st.L.length:Int) - a.i).toNat∧akR M k y R
 | .done e s p=>R (e,s,p)
theorem akT (M:Mc) (k:Ky) (a:AF) (R:aj × St × Option aj->Prop) (h:akR M k a R):inF M k a.o a.i (akS M k a R):=by
 obtain ⟨o,i⟩:=a
 obtain ⟨⟨h0,hle⟩,hg,hR⟩:=h
 simp only at h0 hle hR
 unfold inF
 by_cases ff:i<(M.st.L.length:Int)
 ·have hj:i.toNat<M.st.L.length:=by omega
  have hl8:=hg.lt
  have hw:IntKind.i64.wrap (i+1)=i+1:=by rw [ay']; omega
  have ht:(i+1).toNat=i.toNat+1:=by omega
  have nx:∀ o',(adj M k ((M.st.L.drop (i.toNat+1)).foldl (vQ k) o')).run R->nxF M k o' i (akS M k ⟨o,i⟩ R):=fun o' h'=>by
   unfold nxF
   rw [hw]
   exact ⟨⟨o',i+1⟩,rfl,by simp only; omega,⟨by simp only; omega,by simp only; omega⟩,hg,by simp only; rw [ht]; exact h'⟩
  rw [List.drop_eq_getElem_cons hj,List.foldl_cons] at hR
  have hm:=Xm hj hg.nd
  rw [Xl hj]
  refine sT (axv ff) (sT (axv h0) (sT (axv ff) (sT (axv (by rw [a8,azq]; exact hj)) ?_)))
  show af (gW di (iN (bA M.st.L[i.toNat])) (gB M.st.L)) (true=true∧af _ (af _ (nxF M k (some (ofRow (jQ di (iN (bA M.st.L[i.toNat])) (gB M.st.L)))) i _) _) _) _
  rw [hm.2]
  refine sT hm.1 ⟨rfl,?_⟩
  generalize M.st.L[i.toNat]=p at hR ⊢
  show af (p.mg==k.1) (af (p.pn==k.2.1) _ _) _
  cases h1:p.mg==k.1 with
  | false=>
    refine nx o ?_
    unfold vQ DP at hR
    rw [h1] at hR
    exact hR
  | true=>
    show af (p.pn==k.2.1) _ _
    cases h2:p.pn==k.2.1 with
    | false=>
      refine nx o ?_
      unfold vQ DP at hR
      rw [h1,h2] at hR
      exact hR
    | true=>
      refine nx (some p) ?_
      unfold vQ DP at hR
      rw [h1,h2] at hR
      exact hR
 ·refine sF (axw ff) ?_
  rw [List.drop_eq_nil_iff.2 (by omega)] at hR
  cases o with
  | none=>exact hR
  | some p=>exact hR
theorem akU (M:Mc) (k:Ky):Jg prog GL 9 KI YF 0 itC (fun s=>.aF (s=(SF M k none 0,ay1)∧M.bM) (adj M k (mm k M.st.L))):=by
 refine F8 (X:=XIt) (ls:=[]) acE (by kernel_rfl) (lZ.none (by kernel_rfl)) [0,1,8,9,10] [] (hF M k) (fun a=>((M.st.L.length:Int) - a.i).toNat) (akR M k) ?_ ?_
 ·rintro s R ⟨⟨hs,hg⟩,hR⟩
  exact ⟨⟨none,0⟩,hs,⟨by simp only; omega,by simp only; omega⟩,hg,hR⟩
 ·intro a R h
  have:=(aJ.of_eq (adi M k a.i (akS M k a R) a.o) (akT M k a R h)).out
  exact Tr.aN _ (fun o ho=>ho) this
noncomputable def LF (M:Mc) (k:Ky) (m:Nat) (fr:List NS) (s:St × Option aj):Tr (aj × St × Option aj):=.aF ((m=9∧fr=fr0)∧s=(SF M k none 0,ay1)∧M.bM) (adj M k (mm k M.st.L))
theorem adk (M:Mc) (k:Ky) (m:Nat) (fr:List NS):Jg prog GL m KI (vI XFe (GO Ij) (GP Ij) (GQ Ij) fr) 0 itC (LF M k m fr):=by
 intro l rc N Γ0 w0 h0 hN h0k Tv hY s p Γ a w R Q hI hE hW hL hK
 unfold LF at hL
 obtain ⟨⟨⟨rfl,dr⟩,h2⟩,h4⟩:=hL
 rw [dr] at hY
 exact akU M k l rc N Γ0 w0 h0 hN h0k Tv hY s p Γ a w R Q hI hE hW ⟨h2,h4⟩ hK
noncomputable def lsF (M:Mc) (k:Ky) (m:Nat) (fr:List NS):LI:=[(0,[0,1,8,9,10],LF M k m fr)]
noncomputable def RF (M:Mc) (k:Ky):St->Tr (aj × St):=C3 XFe KI cIt (lsF M k) 0 [4,8,9] 104 Vt Ij
noncomputable def Xn:Code:=Vt.body.getD .skip
theorem Ni:Vt.body=some Xn:=by kernel_rfl
theorem Hm:bY Xn=[(0,itC)]:=by kernel_rfl
theorem akV:Ij=.rangeFunc (.tmp 31) (GO Ij) (GP Ij) (GQ Ij):=by kernel_rfl
theorem ahg:∀ f T,XFe.con f=some T->Known prog GL f T:=Kk
theorem aqZ (M:Mc) (k:Ky):abw prog GL 4 0 Ij (RF M k):=by
 have h:=Be (X:=XFe) ahg (K:=KI) acE (ls:=lsF M k) (id:=0) (out:=[4,8,9]) (g:=.tmp 31) (ps:=GO Ij) (assign:=GP Ij) (body:=GQ Ij) func104 Ni (by kernel_rfl) (by kernel_rfl) (by kernel_rfl) (by kernel_rfl) (by kernel_rfl)
  (fun m fr=>lZ.one (id:=0) (body:=itC) (live:=[0,1,8,9,10]) (L:=LF M k m fr) Hm rfl (adk M k m fr))
 rw [<- akV] at h
 exact h
noncomputable def lpF (M:Mc) (k:Ky):List (Nat × List Nat × (St->Tr (aj × St))):=[(0,[3,4,8,9,31],RF M k)]
noncomputable def adl (M:Mc) (k:Ky):au:=fun args I=>if I.length=4 then aD prog GL Ng (lpF M k) Vu args I else .fail
theorem Xo:bY (Vu.body.getD .skip)=[]:=by kernel_rfl
theorem QL:cG (Vu.body.getD .skip)=[(0,Ij)]:=by kernel_rfl
theorem avy (M:Mc) (k:Ky):Known prog GL 18 (adl M k):=by
 refine av (c:=Vu.body.getD .skip) 4 func18 (by kernel_rfl) (by kernel_rfl) mixed Kk ⟨fun i b hb x hf=>?_,fun i b hb x hf=>?_⟩
 ·rw [Xo] at hb
  cases hb
 ·rw [QL,List.mem_singleton] at hb
  cases hb
  have:x=(0,[3,4,8,9,31],RF M k):=by simpa [lpF] using hf.symm
  subst this
  exact aqZ M k
noncomputable def oFd (M:Mc) (x:Pg × Bool):Out:=⟨.tu [fa x.1,.c (.b x.2)],(dO M).map some⟩
noncomputable def avz (M:Mc) (x:Sp) (A:Prop):Prop:=some (stM M.st.bR (.hz 3 M.st.bR.l.length))=some (stM x.bR (.hz 3 x.bR.l.length))∧(some (eN M.st.bR.m)=some (eN x.bR.m)∧(some (aY (aC M.st.bR.l))=some (aY (aC x.bR.l))∧A))
noncomputable def fdT (M:Mc) (k:Ky) (R:Out->Prop):Prop:=
 af (k.2.2 !=16255)
  ((yP M.st=yP (jN M.st)∧(jN M.st).ok)∧avz M (jN M.st) (([fa ((jN M.st).get k).1]=[fa ((jN M.st).get k).1]∧fits ((jN M.st).get k).1)∧R (oFd M ((jN M.st).get k))))
  ((yP M.st=yP (jN M.st)∧(jN M.st).ok)∧(((9=9∧fr0=fr0)∧(SF {M with st:=jN M.st} k none 0,ay1)=(SF M k none 0,(ay1:Option aj))∧M.bM)∧
    af (mm k M.st.L).isSome (([fa ((mm k M.st.L).getD fO)]=[fa ((mm k M.st.L).getD fO)]∧fits ((mm k M.st.L).getD fO))∧R (oFd M ((mm k M.st.L).getD fO,true)))
     ([pgN fO]=[pgN fO]∧R (oFd M (fO,false)))))
theorem adn (M:Mc) (a b c:Int) (R:Out->Prop):(adl M (a,b,c) [.c (.p 0 0 0),.ag (dY (a,b,c))] (dO M)).run R=fdT M (a,b,c) R:=by kernel_rfl
def Mc.find (M:Mc) (k:Ky):Pg × Bool:=match k.2.2 !=16255 with
 | true=>M.st.get k
 | false=>((mm k M.st.L).getD fO,(mm k M.st.L).isSome)
theorem ze (k:Ky):∀ (L:List Pg) (o:Option Pg) {p:Pg},L.foldl (vQ k) o=some p->o=some p∨p∈L
 | [],o,p,h=>.inl h
 | q::L,o,p,h=>by
   rcases ze k L _ h with h | h
   ·unfold vQ at h
    split at h
    ·cases h; exact .inr (List.mem_cons_self ..)
    ·exact .inl h
   ·exact .inr (List.mem_cons_of_mem _ h)
theorem QM {M:Mc} (h:M.bM) (k:Ky):fits ((mm k M.st.L).getD fO):=by
 cases hl:mm k M.st.L with
 | none=>exact rr
 | some p=>
   rcases ze k _ _ hl with h' | h'
   ·cases h'
   ·exact h.fit p h'
theorem aq0 {M:Mc} {k:Ky} {R:Out->Prop} (hM:M.bM) (h:R (oFd M (M.find k))):fdT M k R:=by
 unfold fdT
 rw [iO]
 unfold Mc.find at h
 cases hs:k.2.2 !=16255 with
 | true=>
   rw [hs] at h
   exact ⟨⟨rfl,hM.ok.2⟩,rfl,rfl,rfl,⟨rfl,yX hM.fit k⟩,h⟩
 | false=>
   rw [hs] at h
   refine ⟨⟨rfl,hM.ok.2⟩,⟨⟨rfl,rfl⟩,rfl,hM⟩,?_⟩
   have hf:=QM hM k
   cases hl:mm k M.st.L with
   | none=>
     rw [hl] at h
     exact ⟨rfl,h⟩
   | some p=>
     rw [hl] at h hf
     exact ⟨⟨rfl,hf⟩,h⟩
noncomputable def tFd:au:=fun args I=>match args with
 | [.c (.p 0 0 0),.ag [.i _ a,.i _ b,.i _ c]]=>Qf I fun M=>.aF (args=[.c (.p 0 0 0),.ag (dY (a,b,c))]∧M.bM) (.ret (oFd M (M.find (a,b,c))))
 | _=>.fail
def mcZ:Mc:=⟨fun _=>mvZ,ixZ,⟨1,wj,false,[]⟩⟩
attribute [local irreducible] adl in
theorem kFd:Known prog GL 18 tFd:=by
 refine gQ (ι:=Mc × Ky) (T:=fun x=>adl x.1 x.2) (mcZ,wj) (fun x=>avy x.1 x.2) fun args I R h=>?_
 unfold tFd at h
 split at h
 case h_2=>exact h.elim
 rename_i _ a _ b _ c
 obtain ⟨M,rfl,hM,⟨h1,hg⟩,h⟩:=fo h
 rw [h1]
 exact ⟨(M,a,b,c),(aJ.of_eq (adn M a b c R) (aq0 hg h)).out⟩
noncomputable def Xp:au:=fun args I=>aD prog GL (fun _=>ay1) [] f34 args I
theorem akW:bP prog GL 34 Xp:=dp func34 rfl (by kernel_rfl) mixed az (by kernel_rfl)
noncomputable def ahh:FuncId->Option au:=aE [(34,Xp)]
theorem akX:∀ f T,ahh f=some T->Known prog GL f T:=(aq.cons akW.known .nil).get
noncomputable def Xq:au:=fun args I=>aD prog GL ahh [] f10 args I
theorem akY:bP prog GL 10 Xq:=dp func10 rfl (by kernel_rfl) mixed akX (by kernel_rfl)
def ahi:List (Nat × Nat × Nat × NC):=[0,1,2,3,4,5,6,7,8].flatMap fun g=>[(0,9 * g+5,0,.lr K3 []),(0,9 * (g+1),1,.l .u8 [])]
def Xr (F:Nat) (cs:List (Nat × Nat × aG)) (o:Out):Tr Out:=
 match o.rg with
 | []=>.ret o
 | _=>Db F cs none o
def Kl (F:Nat) (cs:List (Nat × Nat × aG)) (T:au):au:=fun args I=>(T args I).bind (Xr F cs)
theorem Aq {P:Program} {gl:List Nat} {f:FuncId} {T:au} (h:bP P gl f T) (F:Nat) (cs:List (Nat × Nat × aG)):bP P gl f (Kl F cs T):=by
 refine h.To fun args I R hR=>?_
 unfold Kl at hR
 rw [Tr.run_bind] at hR
 refine Tr.aN _ (fun o ho=>?_) hR
 unfold Xr at ho
 split at ho
 ·exact ⟨_,jw.refl _,ho⟩
 ·exact Bh ho
noncomputable def Km:au:=da [] [] [] ahi 4 (Kl 3 [(1,2,aY [])] Xq)
theorem akZ:Known prog GL 10 Km:=(Aq akY 3 [(1,2,aY [])]).soft [] [] [] ahi 4
def mcN (n:Int):Mc:=⟨fun _=>mvZ,ixZ,⟨n,(0,0,0),false,[]⟩⟩
noncomputable def oNo:Out:=⟨.tu [.c .pn,.c (.e oY)],[]⟩
noncomputable def oNw (n:Int):Out:=⟨.tu [.c (.p 0 0 0),.c .en],(dO (mcN n)).map some⟩
theorem Dm (n:Int) (R:Out->Prop):(Km [.c (.i .i64 n)] []).run R=af (decide (n<1)) (R oNo) (af (decide (n > 800)) (R oNo) (R (oNw n))):=by kernel_rfl
noncomputable def Xs:au:=fun args I=>match args,I with
 | [.c (.i _ n)],[]=>.aF (args=[.c (.i .i64 n)]) (.br (decide (n<1)) (.ret oNo) (.br (decide (n > 800)) (.ret oNo) (.ret (oNw n))))
 | _,_=>.fail
attribute [local irreducible] Km in
theorem aq1:Known prog GL 10 Xs:=by
 refine akZ.less fun args I R h=>?_
 unfold Xs at h
 split at h
 case h_2=>exact h.elim
 rename_i n
 rw [h.1]
 exact (aJ.of_eq (Dm n R) h.2).out
theorem Hn {n:Int} (h1:1<=n) (h8:n<=800):(mcN n).bM:=by
 refine ⟨fun k hk=>rfl,List.nodup_nil,h1,h8,?_,?_,fun k=>rr,fun k=>Nat.zero_le _⟩
 ·show ((0:Nat):Int)<=n
  omega
 ·intro p hp
  cases hp
noncomputable def Xt:FuncId->Option au:=aE [(53,tKe)]
theorem ado:∀ f T,Xt f=some T->Known prog GL f T:=(aq.cons kKe.known .nil).get
noncomputable def Xu:au:=fun args I=>aD prog GL Xt [] f16 args I
theorem ak0:Known prog GL 16 Xu:=ah func16 rfl (by kernel_rfl) mixed ado (by kernel_rfl)
noncomputable def aq2 (M:Mc):Out:=⟨.v (.c (.lr K3 (aC (M.st.L.map bA)))),(dO M).map some⟩
noncomputable def Kn:au:=da [] [4] [] [] 4 Xu
theorem ak1:Known prog GL 16 Kn:=ak0.soft [] [4] [] [] 4
theorem Xv (M:Mc) (R:Out->Prop):(Kn [.c (.p 0 0 0)] (dO M)).run R=((yP M.st=yP (jN M.st)∧(jN M.st).ok)∧((jN M.st).L.length=(aC ((jN M.st).L.map bA)).length∧R (aq2 {M with st:=jN M.st}))):=by kernel_rfl
noncomputable def adp:au:=fun args I=>match args with
 | [.c (.p 0 0 0)]=>Qf I fun M=>.ret (aq2 M)
 | _=>.fail
attribute [local irreducible] Kn in
theorem aq3:Known prog GL 16 adp:=by
 refine ak1.less fun args I R h=>?_
 unfold adp at h
 split at h
 case h_2=>exact h.elim
 obtain ⟨M,rfl,hM,h⟩:=fo h
 have e:({M with st:=jN M.st}:Mc)=M:=by rw [iO]
 refine (aJ.of_eq (Xv M R) ⟨⟨by rw [iO],by rw [iO]; exact hM.2⟩,by rw [a8,azq],?_⟩).out
 rw [e]
 exact h
end cH
namespace bm
open bR (sT sF)
open Go Go.Nx pk ln hd lb sv
theorem byT {x:Int} (h:0<=x∧x<256):∃ m,m<256∧x=azi m:=⟨x.toNat,by omega,by show x=((x.toNat:Nat):Int); omega⟩
noncomputable def zf:FuncId->Option au:=aE [(135,fP.qE)]
theorem DQ:∀ f T,zf f=some T->Known prog GL f T:=(aq.cons (bX fP.yY) .nil).get
noncomputable def zg:au:=fun args I=>aD prog GL zf [] f136 args I
theorem Ko:Known prog GL 136 zg:=ah func136 rfl (by kernel_rfl) mixed DQ (by kernel_rfl)
theorem uL (b:Int) (R:Out->Prop):(zg [.c (.i .u8 b)] []).run R=((0<=IntKind.i64.wrap b∧IntKind.i64.wrap b<9223372036854775808)∧R (oB ((fP.bl (IntKind.i64.wrap b).toNat:Int).tmod 2==1))):=by kernel_rfl
theorem zh:∀ m<256,fP.par m 8=BK (azi m):=by decide +kernel
noncomputable def zi:au:=fun args I=>match args,I with
 | [.c (.i .u8 b)],[]=>.aF (0<=b∧b<256) (.ret (oB (BK b)))
 | _,_=>.fail
theorem DR {b:Int} (h:0<=b∧b<256):((fP.bl (IntKind.i64.wrap b).toNat:Int).tmod 2==1)=BK b:=by
 obtain ⟨m,hm,rfl⟩:=byT h
 have hw:IntKind.i64.wrap (azi m)=azi m:=by rw [ay']; show ((m:Int)+_) % _ - _=(m:Int); omega
 rw [hw,show (azi m).toNat=m from rfl,<- zh m hm]
 have hp:=fP.y4 8 m (by omega)
 rw [azJ (by omega)]
 cases h2:fP.par m 8 with
 | true=>
   rw [h2] at hp
   have hp:fP.bl m % 2=1:=hp
   rw [beq_iff_eq]
   omega
 | false=>
   rw [h2] at hp
   have hp:fP.bl m % 2=0:=hp
   rw [beq_eq_false_iff_ne]
   omega
theorem Xw:Known prog GL 136 zi:=by
 refine Ko.less fun args I R h=>aJ.out ?_
 unfold zi at h
 split at h
 case h_2=>exact h.elim
 rename_i b
 have h1:=h.1
 have h2:R (oB (BK b)):=h.2
 clear h
 refine aJ.of_eq (uL b R) ⟨?_,by rw [DR h1]; exact h2⟩
 rw [ay']
 omega
noncomputable def Hp:FuncId->Option au:=aE [(136,zi)]
theorem Kp:∀ f T,Hp f=some T->Known prog GL f T:=(aq.cons Xw .nil).get
noncomputable def Hq:au:=fun args I=>aD prog GL Hp [] f95 args I
theorem Xx:Known prog GL 95 Hq:=ah func95 rfl (by kernel_rfl) mixed Kp (by kernel_rfl)
theorem zj (c:Int) (R:Out->Prop):(Hq [.c (.i .u8 c)] []).run R=((0<=aU c 127∧aU c 127<256)∧af (BK (aU c 127)) (R ⟨.v (.c (.i .u8 (aU c 127))),[]⟩) (R ⟨.v (.c (.i .u8 (oU (aU c 127) 128))),[]⟩)):=by kernel_rfl
theorem Nj:Known prog GL 95 Kc:=by
 refine Xx.less fun args I R h=>aJ.out ?_
 unfold Kc at h
 split at h
 case h_2=>exact h.elim
 rename_i c
 have h2:R ⟨.v (.c (.i .u8 (y9 c))),[]⟩:=h
 clear h
 refine aJ.of_eq (zj c R) ⟨Ww _ _,?_⟩
 unfold y9 at h2
 cases hc:BK (aU c 127) with
 | true=>rw [hc] at h2; exact bz rfl h2
 | false=>rw [hc] at h2; exact cm rfl h2
noncomputable abbrev Nk:=f41
noncomputable def Xy:FuncId->Option au:=aE [(95,Kc)]
theorem Xz:∀ f T,Xy f=some T->Known prog GL f T:=(aq.cons Nj .nil).get
noncomputable def ahj:Cx:={P:=prog,con:=Xy,glob:=GL,m:=0,loops:=[]}
def arU (xs:List Int):aG:=⟨1,5,.ints .u8 xs⟩
noncomputable def ouC:Option (List Int × Nat)->NC
 | none=>.sn
 | some x=>.h 0 0 x.2
noncomputable def ouR:Option (List Int × Nat)->List (Option aG)
 | none=>[]
 | some x=>[some (arU x.1)]
noncomputable def sOd (bs:List Int) (n i:Int) (o:Option (List Int × Nat)):St:={fr:=frame 27 [(0,.v (.c (.l .u8 bs))),(1,.v (.c (.i .i64 n))),(4,.v (.c .sn)),(5,.v (.c (ouC o))),(6,.v (.c (.i .i64 i)))],rg:=ouR o}
noncomputable def dOd (o:Option (List Int × Nat)):St:={fr:=frame 27 [(5,.v (.c (ouC o)))],rg:=ouR o}
noncomputable def rOd (s:St):Tr RO:=bu ahj 0 [0,1,4,5,6] [5] (ae Nk 0) s
def qa (i:Int) (l:Nat) (A:Prop):Prop:=af (decide (0<=i)) (af (decide (i<(l:Int))) (af (decide (i.toNat<l)) A False) False) False
def apU (m:Nat) (A:Prop):Prop:=af (decide (0+m<=m)) (af (decide ((m+1) * bf prog 5<=140737488355328)) (af (decide (m+1<=9223372036854775807)) A False) False) False
noncomputable def QN (bs:List Int) (n i:Int) (R:RO->Prop) (xs:List Int) (m:Nat):Prop:=R (.next (sOd bs n (IntKind.i64.wrap (i+1)) (some (xs,m))))
theorem avA (bs:List Int) (n i:Int) (R:RO->Prop):(rOd (sOd bs n i none)).run R =
 af (decide (i<n)) (af (decide (i<(bs.length:Int))) (qa i bs.length (QN bs n i R [y9 (bs.getD i.toNat 0)] 1)) (QN bs n i R [y9 32] 1)) (R (.done .normal (dOd none))):=by kernel_rfl
theorem avB (bs:List Int) (n i:Int) (xs:List Int) (R:RO->Prop):(rOd (sOd bs n i (some (xs,xs.length)))).run R =
 af (decide (i<n)) (af (decide (i<(bs.length:Int))) (qa i bs.length (apU xs.length (QN bs n i R (azo xs.length xs++[y9 (bs.getD i.toNat 0)]) (xs.length+1)))) (apU xs.length (QN bs n i R (azo xs.length xs++[y9 32]) (xs.length+1)))) (R (.done .normal (dOd (some (xs,xs.length))))):=by kernel_rfl
noncomputable def rF (bs:List Int) (k:Nat):List Int:=(axy k).map fun i=>y9 (bs.getD i 32)
theorem kX (bs:List Int) (k:Nat):(rF bs k).length=k:=by unfold rF; rw [azq,List.length_range]
theorem XA (bs:List Int) (k:Nat):rF bs (k+1)=rF bs k++[y9 (bs.getD k 32)]:=by unfold rF; rw [List.range_succ,List.map_append]; rfl
noncomputable def oOd (bs:List Int):Nat->Option (List Int × Nat)
 | 0=>none
 | k+1=>some (rF bs (k+1),k+1)
theorem XB:bf prog 5=1:=by kernel_rfl
theorem XC {m:Nat} {A:Prop} (hm:m<=1000) (h:A):apU m A:=by
 unfold apU
 rw [XB]
 exact sT (axv (by omega)) (sT (axv (by omega)) (sT (axv (by omega)) h))
theorem cU {i:Int} {l:Nat} {A:Prop} (h:0<=i∧i<(l:Int)) (hA:A):qa i l A:=sT (axv h.1) (sT (axv h.2) (sT (axv (by omega)) hA))
def avC (s:St):Option (List Int × Int):=match s.fr[(0:Nat)]?,s.fr[(1:Nat)]? with
 | some (.v (.c (.l _ bs))),some (.v (.c (.i _ n)))=>some (bs,n)
 | _,_=>none
noncomputable def lOd (s:St):Tr (aj × St):=match avC s with
 | some x=>.aF (s=sOd x.1 x.2 0 none∧0<x.2∧x.2<=100) (.ret (.normal,dOd (some (rF x.1 x.2.toNat,x.2.toNat))))
 | none=>.fail
structure AOd where
 bs:List Int
 n:Int
 k:Nat
noncomputable def hOd (a:AOd):St:=sOd a.bs a.n (a.k:Int) (oOd a.bs a.k)
def XD (a:AOd) (R:aj × St->Prop):Prop:=((a.k:Int)<=a.n∧0<a.n∧a.n<=100)∧R (.normal,dOd (some (rF a.bs a.n.toNat,a.n.toNat)))
def ahk (a:AOd) (R:aj × St->Prop) (o:RO):Prop:=match o with
 | .next s=>∃ y,s=hOd y∧(y.n - y.k).toNat<(a.n - a.k).toNat∧XD y R
 | .done e s=>R (e,s)
theorem p9 {bs:List Int} {k:Nat} (h:k<bs.length):bs.getD k 32=bs.getD k 0:=by
 rw [axF,axF,axP h]; rfl
theorem Hr {bs:List Int} {k:Nat} (h:¬ k<bs.length):bs.getD k 32=32:=by
 rw [axF,List.getElem?_eq_none (by omega)]; rfl
theorem aq4 (a:AOd) (R:aj × St->Prop) (h:XD a R):aJ ((rOd (hOd a)).run (ahk a R)):=by
 obtain ⟨bs,n,k⟩:=a
 obtain ⟨⟨h1,h2,h3⟩,hR⟩:=h
 simp only at h1 h2 h3 hR
 have hw:IntKind.i64.wrap ((k:Int)+1)=((k+1:Nat):Int):=by rw [ay']; omega
 have nx:∀ xs m,(k:Int)<n->xs=rF bs (k+1)->m=k+1->QN bs n (k:Int) (ahk ⟨bs,n,k⟩ R) xs m:=by
  rintro xs m hk rfl rfl
  unfold QN
  rw [hw]
  exact ⟨⟨bs,n,k+1⟩,rfl,by simp only; omega,⟨by simp only; omega,h2,h3⟩,hR⟩
 match k,h1,hw,nx with
 | 0,h1,hw,nx=>
   have e:rF bs 1=[y9 (bs.getD 0 32)]:=rfl
   refine aJ.of_eq (avA bs n 0 _) (sT (axv h2) ?_)
   by_cases hb:0<bs.length
   ·exact sT (axv (by omega)) (cU ⟨by omega,by omega⟩ (nx _ _ h2 (by rw [e,p9 hb]; rfl) rfl))
   ·exact sF (axw (by omega)) (nx _ _ h2 (by rw [e,Hr hb]) rfl)
 | k+1,h1,hw,nx=>
   have hl:=kX bs (k+1)
   have e:=XA bs (k+1)
   have ha:hOd ⟨bs,n,k+1⟩=sOd bs n ((k+1:Nat):Int) (some (rF bs (k+1),(rF bs (k+1)).length)):=by
    show sOd bs n _ (some (rF bs (k+1),k+1))=_
    rw [hl]
   rw [ha]
   refine aJ.of_eq (avB bs n _ _ _) ?_
   by_cases hk:((k+1:Nat):Int)<n
   ·refine sT (axv hk) ?_
    rw [List.take_length,hl]
    by_cases hb:k+1<bs.length
    ·exact sT (axv (by omega)) (cU ⟨by omega,by omega⟩ (XC (by omega) (nx _ _ hk (by rw [e,p9 hb]; rfl) rfl)))
    ·exact sF (axw (by omega)) (XC (by omega) (nx _ _ hk (by rw [e,Hr hb]) rfl))
   ·refine sF (axw hk) ?_
    have hn:n.toNat=k+1:=by omega
    rw [hn] at hR
    rw [hl]
    exact hR
theorem adq:jL prog GL 0 0 (ae Nk 0) lOd:=by
 refine cf (X:=ahj) Xz mixed (aM.none (by kernel_rfl)) [0,1,4,5,6] [5] hOd (fun a=>(a.n - a.k).toNat) XD ?_ ?_
 ·intro s R h
  unfold lOd at h
  split at h
  case h_2=>exact h.elim
  rename_i x hx
  obtain ⟨⟨hs,h1,h2⟩,hR⟩:=h
  exact ⟨⟨x.1,x.2,0⟩,hs,⟨by simp only; omega,h1,h2⟩,hR⟩
 ·intro a R h
  exact Tr.aN _ (fun o ho=>ho) (aq4 a R h).out
noncomputable def XE:au:=fun args I=>if I.length=0 then aD prog GL Xy [(0,[0,1,4,5,6],lOd)] Nk args I else .fail
theorem ak2:Known prog GL 41 XE:=av 0 func41 rfl (by kernel_rfl) mixed Xz (aM.one (id:=0) (body:=ae Nk 0) (by kernel_rfl) rfl adq)
noncomputable def Kq:au:=da [] [0] [] [] 0 XE
theorem ak3:Known prog GL 41 Kq:=ak2.soft [] [0] [] [] 0
noncomputable def Ar (xs:List Int):Out:=⟨.v (.c (.l .u8 xs)),[]⟩
theorem yU (bs:List Int) (n:Int) (R:Out->Prop):(Kq [.c (.l .u8 bs),.c (.i .i64 n)] []).run R=((sOd bs n 0 none=sOd bs n 0 none∧0<n∧n<=100)∧(n.toNat=(rF bs n.toNat).length∧R (Ar (rF bs n.toNat)))):=by kernel_rfl
noncomputable def Nl:au:=fun args I=>match args,I with
 | [.c (.l _ bs),.c (.i _ n)],[]=>.aF (args=[.c (.l .u8 bs),.c (.i .i64 n)]∧0<n∧n<=100) (.ret (Ar (rF bs n.toNat)))
 | _,_=>.fail
attribute [local irreducible] Kq in
theorem ahl:Known prog GL 41 Nl:=by
 refine ak3.less fun args I R h=>?_
 unfold Nl at h
 split at h
 case h_2=>exact h.elim
 rename_i _ bs _ n
 obtain ⟨⟨h1,h2,h3⟩,h⟩:=h
 rw [h1]
 exact (aJ.of_eq (yU bs n R) ⟨⟨rfl,h2,h3⟩,(kX _ _).symm,h⟩).out
end bm
end Go.Proofs.YthknkidbonfbnaaGreatDoor
