/-
  Joined: RvD, RvE, RvF, RvG, BmA, BmB, BmC, BmD, BmE, BmG, BmF, FiA, GrA, GrB, GrC, GrD, GrE, GrF, GrG, GrH, GrI, GrJ, GrK, WfA, SuC, GrL, GrM, GrN, HoA.
-/
import Derived.Test.YthknkidbonfbnaaGreatDoorHo5
import Derived.Lib.BytesEntry
import Derived.Lib.Strings
import Derived.WalkKit
set_option maxRecDepth 100000
set_option linter.unusedVariables false
namespace Go.Proofs.YthknkidbonfbnaaGreatDoor
namespace rv
open Go Go.Nx pk ac sto pge dec mac
theorem k_clI0:KnownF Tryz.prog GL 106 (fun args regs=>nfun Tryz.prog GL (fun _=>Option.none) [] Tryz.f106 args regs):=known_inlF Tryz.func106 rfl (by kernel_rfl) mixed con_none (by kernel_rfl)
noncomputable def t_clI:Con:=softT [] [0] [(0,0,0,.l .i64 [])] [] 0 (fun args regs=>nfun Tryz.prog GL (fun _=>Option.none) [] Tryz.f106 args regs)
theorem kt_clI:Known Tryz.prog GL 106 t_clI:=k_clI0.soft [] [0] [(0,0,0,.l .i64 [])] [] 0
theorem clI_tree (xs:List Int) (R:Out→Prop):(t_clI [.c (.l .i64 xs)] []).run R =
 sel xs.isEmpty (∀ y:Bool,True→sel y (R ⟨.v (.c (.l .i64 [])),[]⟩) (sel (decide ((0+xs.length) * bytesT Tryz.prog 3≤140737488355328)) (sel (decide (0+xs.length≤9223372036854775807)) (0+xs.length=xs.length∧R ⟨.v (.c (.l .i64 xs)),[]⟩) False) False))
  (sel (decide ((0+xs.length) * bytesT Tryz.prog 3≤140737488355328)) (sel (decide (0+xs.length≤9223372036854775807)) (0+xs.length=xs.length∧R ⟨.v (.c (.l .i64 xs)),[]⟩) False) False):=by kernel_rfl
theorem bytesI:bytesT Tryz.prog 3=8:=by kernel_rfl
noncomputable def tclIV:Con:=fun args regs=>match args,regs with
 | [.c (.l _ xs)],[]=>.must (args=[.c (.l .i64 xs)]∧xs.length≤1000000) (.ret ⟨.v (.c (.l .i64 xs)),[]⟩)
 | _,_=>.fail
theorem kclIV:Known Tryz.prog GL 106 tclIV:=by
 refine kt_clI.less fun args regs R h=>Box.out ?_
 unfold tclIV at h
 split at h
 case h_2=>exact h.elim
 rename_i xs
 obtain ⟨⟨h1,hl⟩,h⟩:=h
 rw [h1]
 refine Box.of_eq (clI_tree xs R) ?_
 have hb:=bytesI
 have key:sel (decide ((0+xs.length) * bytesT Tryz.prog _≤140737488355328)) (sel (decide (0+xs.length≤9223372036854775807)) (0+xs.length=xs.length∧R ⟨.v (.c (.l .i64 xs)),[]⟩) False) False:=sT (decide_eq_true (by rw [hb]; omega)) (sT (decide_eq_true (by omega)) ⟨by omega,h⟩)
 cases hx:xs.isEmpty with
 | false=>exact sF rfl key
 | true=>
   refine sT rfl fun y _=>?_
   have e:xs=[]:=List.isEmpty_iff.1 hx
   subst e
   cases y with
   | true=>exact sT rfl h
   | false=>exact sF rfl key
noncomputable def arI (xs:List Int):Reg:=⟨1,3,.ints .i64 xs⟩
noncomputable def t_clH:Con:=canonT 1 [] (some (arI [])) (fun args regs=>nfun Tryz.prog GL (fun _=>Option.none) [] Tryz.f106 args regs)
theorem kt_clH:KnownF Tryz.prog GL 106 t_clH:=k_clI0.canon 1 [] (some (arI []))
noncomputable def oClH (xs:List Int):Out:=⟨.v (.c (.hz 1 xs.length)),[none,some (arI xs)]⟩
theorem clH_tree (xs:List Int) (R:Out→Prop):(t_clH [.c (.l .i64 xs)] []).run R =
 sel xs.isEmpty (∀ y:Bool,True→sel y (R (oClH [])) (sel (decide ((0+xs.length) * bytesT Tryz.prog 3≤140737488355328)) (sel (decide (0+xs.length≤9223372036854775807)) (R ⟨.v (.c (.hz 1 (0+xs.length))),[none,some (arI xs)]⟩) False) False))
  (sel (decide ((0+xs.length) * bytesT Tryz.prog 3≤140737488355328)) (sel (decide (0+xs.length≤9223372036854775807)) (R ⟨.v (.c (.hz 1 (0+xs.length))),[none,some (arI xs)]⟩) False) False):=by kernel_rfl
noncomputable def tclH:Con:=fun args regs=>match args,regs with
 | [.c (.l _ xs)],[]=>.must (args=[.c (.l .i64 xs)]∧xs.length≤1000000) (.ret (oClH xs))
 | _,_=>.fail
theorem kclH:KnownF Tryz.prog GL 106 tclH:=by
 refine kt_clH.less fun args regs R h=>Box.out ?_
 unfold tclH at h
 split at h
 case h_2=>exact h.elim
 rename_i xs
 obtain ⟨⟨h1,hl⟩,h⟩:=h
 rw [h1]
 refine Box.of_eq (clH_tree xs R) ?_
 have hb:=bytesI
 have h' : R ⟨.v (.c (.hz 1 (0+xs.length))),[none,some (arI xs)]⟩:=by rw [Nat.zero_add]; exact h
 have key:sel (decide ((0+xs.length) * bytesT Tryz.prog _≤140737488355328)) (sel (decide (0+xs.length≤9223372036854775807)) (R ⟨.v (.c (.hz 1 (0+xs.length))),[none,some (arI xs)]⟩) False) False:=sT (decide_eq_true (by rw [hb]; omega)) (sT (decide_eq_true (by omega)) h')
 cases hx:xs.isEmpty with
 | false=>exact sF rfl key
 | true=>
   refine sT rfl fun y _=>?_
   have e:xs=[]:=List.isEmpty_iff.1 hx
   subst e
   cases y with
   | true=>exact sT rfl h
   | false=>exact sF rfl key
noncomputable def c_hnum:FuncId→Option Con:=conOf [(113,t_pmg)]
theorem kc_hnum:∀ f T,c_hnum f=some T→Known Tryz.prog GL f T:=(Knowns.cons k_pmg .nil).get
noncomputable def t_hnum:Con:=fun args regs=>nfun Tryz.prog GL c_hnum [] Tryz.f165 args regs
theorem k_hnum:Known Tryz.prog GL 165 t_hnum:=known_inl Tryz.func165 rfl (by kernel_rfl) mixed kc_hnum (by kernel_rfl)
noncomputable def t_hpl:Con:=fun args regs=>nfun Tryz.prog GL (fun _=>Option.none) [] Tryz.f139 args regs
theorem k_hpl:Known Tryz.prog GL 139 t_hpl:=known_inl Tryz.func139 rfl (by kernel_rfl) mixed con_none (by kernel_rfl)
noncomputable def plc (n:Int):Ky:=match decide (n<100)||decide (n > 899) with
 | true=>(0,0,0)
 | false=>(IntKind.i64.wrap (n.tdiv 100),bits .or .i64 (shlv .i64 ((IntKind.i64.wrap (n.tdiv 10)).tmod 10) 4) (n.tmod 10),16255)
def plcB (n:Int):Bool:=!(decide (n<100)||decide (n > 899))
noncomputable def oPlc (x:Ky × Bool):Out:=⟨.tu [.ag (kyNC x.1),.c (.b x.2)],[]⟩
theorem hpl_tree (n:Int) (R:Out→Prop):(t_hpl [.c (.i .i64 n)] []).run R=sel (decide (n<100)) (R (oPlc ((0,0,0),false))) (sel (decide (n > 899)) (R (oPlc ((0,0,0),false))) (R (oPlc ((IntKind.i64.wrap (n.tdiv 100),bits .or .i64 (shlv .i64 ((IntKind.i64.wrap (n.tdiv 10)).tmod 10) 4) (n.tmod 10),16255),true)))):=by kernel_rfl
noncomputable def tHpl:Con:=fun args regs=>match args,regs with
 | [.c (.i _ n)],[]=>.must (args=[.c (.i .i64 n)]) (.ret (oPlc (plc n,plcB n)))
 | _,_=>.fail
theorem kHpl:Known Tryz.prog GL 139 tHpl:=by
 refine k_hpl.less fun args regs R h=>?_
 unfold tHpl at h
 split at h
 case h_2=>exact h.elim
 rename_i n
 obtain ⟨h1,h⟩:=h
 rw [h1]
 refine (Box.of_eq (hpl_tree n R) ?_).out
 have h:R (oPlc (plc n,plcB n)):=h
 unfold plc plcB at h
 cases h2:decide (n<100) with
 | true=>rw [h2] at h; exact sT rfl h
 | false=>
   cases h3:decide (n > 899) with
   | true=>rw [h2,h3] at h; exact sF rfl (sT rfl h)
   | false=>rw [h2,h3] at h; exact sF rfl (sF rfl h)
noncomputable def t_goes:Con:=fun args regs=>nfun Tryz.prog GL (fun _=>Option.none) [] Tryz.f140 args regs
theorem k_goes:Known Tryz.prog GL 140 t_goes:=known_inl Tryz.func140 rfl (by kernel_rfl) mixed con_none (by kernel_rfl)
noncomputable def c_rnum:FuncId→Option Con:=conOf [(165,t_hnum)]
theorem kc_rnum:∀ f T,c_rnum f=some T→Known Tryz.prog GL f T:=(Knowns.cons k_hnum .nil).get
noncomputable def t_rnum:Con:=fun args regs=>nfun Tryz.prog GL c_rnum [] Tryz.f142 args regs
theorem k_rnum:Known Tryz.prog GL 142 t_rnum:=known_inl Tryz.func142 rfl (by kernel_rfl) mixed kc_rnum (by kernel_rfl)
noncomputable def c_lsome:FuncId→Option Con:=conOf [(113,t_pmg)]
theorem kc_lsome:∀ f T,c_lsome f=some T→Known Tryz.prog GL f T:=(Knowns.cons k_pmg .nil).get
noncomputable def t_lsome:Con:=fun args regs=>nfun Tryz.prog GL c_lsome [] Tryz.f141 args regs
theorem k_lsome:Known Tryz.prog GL 141 t_lsome:=known_inl Tryz.func141 rfl (by kernel_rfl) mixed kc_lsome (by kernel_rfl)
noncomputable def c_foll:FuncId→Option Con:=conOf [(141,t_lsome),(140,t_goes)]
theorem kc_foll:∀ f T,c_foll f=some T→Known Tryz.prog GL f T:=(Knowns.cons k_lsome (.cons k_goes .nil)).get
noncomputable def t_foll:Con:=fun args regs=>nfun Tryz.prog GL c_foll [] Tryz.f108 args regs
theorem k_foll:Known Tryz.prog GL 108 t_foll:=known_inl Tryz.func108 rfl (by kernel_rfl) mixed kc_foll (by kernel_rfl)
noncomputable def c_subd:FuncId→Option Con:=conOf [(106,tclH)]
theorem kc_subd:∀ f T,c_subd f=some T→Known Tryz.prog GL f T:=(Knowns.cons kclH.known .nil).get
noncomputable def X_subd:Cx:={P:=Tryz.prog,con:=c_subd,glob:=GL,m:=0,loops:=[]}
noncomputable def t_subd:Con:=fun args regs=>if regs.length=0 then nfun Tryz.prog GL c_subd [(0,[2,4,6,23,24,25],unroll X_subd 0 [2,4,6,23,24,25] [2,4,6] (bodyLoop Tryz.f138 0) 5)] Tryz.f138 args regs else .fail
theorem k_subd:Known Tryz.prog GL 138 t_subd:=known_loops 0 Tryz.func138 rfl (by kernel_rfl) mixed kc_subd (LAll.one (id:=0) (body:=bodyLoop Tryz.f138 0) (by kernel_rfl) rfl (unroll_ok (X:=X_subd) kc_subd mixed (LAll.none (by kernel_rfl)) [2,4,6,23,24,25] [2,4,6] 5))
def rdRm:List NC→Option Rm
 | [.i _ a,.i _ b,.i _ c,.l _ ds,.l _ su,.b sub,.b hd,.b rv,.b mx]=>some ⟨a,b,c,ds,su,sub,hd,rv,mx⟩
 | _=>none
def nilsR:List (Nat × Nat × Nat × NC):=[(0,0,3,.l .i64 []),(0,0,4,.l .i64 [])]
noncomputable def t_subdC:Con:=softT [] [0] nilsR [] 0 t_subd
theorem k_subdC:Known Tryz.prog GL 138 t_subdC:=k_subd.soft [] [0] nilsR [] 0
noncomputable def oRm (x:Rm × Bool):Out:=⟨.tu [.ag x.1.nc,.c (.b x.2)],[]⟩
noncomputable def sub4 (xs:List Int):Int:=bits .and .i64 (IntKind.i64.wrap (shlv .i64 (IntKind.i64.wrap (shlv .i64 (IntKind.i64.wrap (shlv .i64 (IntKind.i64.wrap (0+xs.getD 0 0)) 4+xs.getD 1 0)) 4+xs.getD 2 0)) 4+xs.getD 3 0)) 16255
def snoc (xs:List Int) (d:Int):List Int:=List.take xs.length xs++List.take 1 (List.drop 0 [d])
theorem snoc_eq (xs:List Int) (d:Int):snoc xs d=xs++[d]:=by unfold snoc; rw [List.take_length]; rfl
noncomputable def apT (xs:List Int) (N:Prop):Prop:=sel (decide (xs.length≤xs.length)) (sel (decide ((xs.length+1) * bytesT Tryz.prog 3≤140737488355328)) (sel (decide (xs.length+1≤9223372036854775807)) N False) False) False
theorem apT_in {xs:List Int} {N:Prop} (h:xs.length≤1000) (hN:N):apT xs N:=by
 unfold apT
 rw [bytesI]
 exact sT (decide_eq_true (Nat.le_refl _)) (sT (decide_eq_true (by omega)) (sT (decide_eq_true (by omega)) hN))
noncomputable def subdT (s:Rm) (d:Int) (R:Out→Prop):Prop:=([NV.c (.l .i64 s.su)]=[.c (.l .i64 s.su)]∧s.su.length≤1000000)∧apT s.su
 (sel (decide (((s.su.length+1:Nat):Int)<4)) (s.su.length+1=(snoc s.su d).length∧R (oRm ({s with su:=snoc s.su d},false)))
   (sel (decide ((4:Int)≤((s.su.length+1:Nat):Int))) (sel (decide (0<(snoc s.su d).length)) (sel (decide (1<(snoc s.su d).length)) (sel (decide (2<(snoc s.su d).length)) (sel (decide (3<(snoc s.su d).length)) (R (oRm ({s with sb:=sub4 (snoc s.su d),su:=[],sub:=false},true))) False) False) False) False) False))
theorem subd_tree (s:Rm) (d:Int) (R:Out→Prop):(t_subdC [.ag s.nc,.c (.i .i64 d)] []).run R=subdT s d R:=by kernel_rfl
noncomputable def Rm.subd (s:Rm) (d:Int):Rm × Bool:=match decide (s.su.length<3) with
 | true=>({s with su:=s.su++[d]},false)
 | false=>({s with sb:=sub4 (s.su++[d]),su:=[],sub:=false},true)
noncomputable def tSubd:Con:=fun args regs=>match args,regs with
 | [.ag xs,.c (.i _ d)],[]=>(match rdRm xs with
   | some s=>.must (args=[.ag s.nc,.c (.i .i64 d)]∧s.su.length≤3) (.ret (oRm (s.subd d)))
   | none=>.fail)
 | _,_=>.fail
attribute [local irreducible] t_subdC in
theorem kSubd:Known Tryz.prog GL 138 tSubd:=by
 refine k_subdC.less fun args regs R h=>?_
 unfold tSubd at h
 split at h
 case h_2=>exact h.elim
 split at h
 case h_2=>exact h.elim
 rename_i s _
 obtain ⟨⟨h1,hl⟩,h⟩:=h
 rw [h1]
 refine (Box.of_eq (subd_tree s _ R) ⟨⟨rfl,by omega⟩,apT_in (by omega) ?_⟩).out
 rw [snoc_eq,List.length_append]
 unfold Rm.subd at h
 by_cases hc:s.su.length<3
 ·rw [decide_eq_true hc] at h
  exact sT (decide_eq_true (by omega)) ⟨rfl,h⟩
 ·rw [decide_eq_false hc] at h
  have e:([‹Int›]:List Int).length=1:=rfl
  exact sF (decide_eq_false (by omega)) (sT (decide_eq_true (by omega)) (sT (decide_eq_true (by omega)) (sT (decide_eq_true (by omega)) (sT (decide_eq_true (by omega)) (sT (decide_eq_true (by omega)) h)))))
noncomputable def c_dig:FuncId→Option Con:=conOf [(106,tclH),(138,tSubd),(139,tHpl),(140,t_goes)]
theorem kc_dig:∀ f T,c_dig f=some T→Known Tryz.prog GL f T:=(Knowns.cons kclH.known (.cons kSubd (.cons kHpl (.cons k_goes .nil)))).get
noncomputable def X_dig:Cx:={P:=Tryz.prog,con:=c_dig,glob:=GL,m:=0,loops:=[]}
noncomputable def t_dig:Con:=fun args regs=>if regs.length=0 then nfun Tryz.prog GL c_dig [(1,[2,4,6,47,48,49],unroll X_dig 1 [2,4,6,47,48,49] [2,4,6] (bodyLoop Tryz.f107 1) 4)] Tryz.f107 args regs else .fail
theorem k_dig:Known Tryz.prog GL 107 t_dig:=known_loops 0 Tryz.func107 rfl (by kernel_rfl) mixed kc_dig (LAll.one (id:=1) (body:=bodyLoop Tryz.f107 1) (by kernel_rfl) rfl (unroll_ok (X:=X_dig) kc_dig mixed (LAll.none (by kernel_rfl)) [2,4,6,47,48,49] [2,4,6] 4))
noncomputable def num3 (xs:List Int):Int:=IntKind.i64.wrap (IntKind.i64.wrap (10 * IntKind.i64.wrap (IntKind.i64.wrap (10 * IntKind.i64.wrap (IntKind.i64.wrap (10 * 0)+xs.getD 0 0))+xs.getD 1 0))+xs.getD 2 0)
def Rm.gone (s:Rm) (k:Ky):Rm:={s with mg:=k.1,pn:=k.2.1,sb:=k.2.2,ds:=[],hd:=false,rv:=false}
noncomputable def t_digC:Con:=softT [] [0] nilsR [] 0 t_dig
theorem k_digC:Known Tryz.prog GL 107 t_digC:=k_dig.soft [] [0] nilsR [] 0
noncomputable def dgM (s:Rm) (d:Int) (R:Out→Prop):Prop:=([NV.c (.l .i64 s.ds)]=[.c (.l .i64 s.ds)]∧s.ds.length≤1000000)∧apT s.ds
 (sel (decide (((s.ds.length+1:Nat):Int)<3)) (s.ds.length+1=(snoc s.ds d).length∧R (oRm ({s with ds:=snoc s.ds d},false)))
   (sel (decide ((3:Int)≤((s.ds.length+1:Nat):Int))) (sel (decide (0<(snoc s.ds d).length)) (sel (decide (1<(snoc s.ds d).length)) (sel (decide (2<(snoc s.ds d).length))
     ([NV.c (.i .i64 (num3 (snoc s.ds d)))]=[.c (.i .i64 (num3 (snoc s.ds d)))]∧sel (decide (s.ds.length+1≤(snoc s.ds d).length)) (R (oRm (s.gone (plc (num3 (snoc s.ds d))),true))) False) False) False) False) False))
noncomputable def digT (s:Rm) (d:Int) (R:Out→Prop):Prop:=sel s.sub (([NV.ag s.nc,.c (.i .i64 d)]=[.ag s.nc,.c (.i .i64 d)]∧s.su.length≤3)∧R (oRm (s.subd d)))
 (sel ((s.ds.length:Int)==0) (sel (decide (d<1)) (R (oRm (s,false))) (sel (decide (d > 8)) (R (oRm (s,false))) (dgM s d R))) (dgM s d R))
theorem dig_tree (s:Rm) (d:Int) (R:Out→Prop):(t_digC [.ag s.nc,.c (.i .i64 d)] []).run R=digT s d R:=by kernel_rfl
noncomputable def Rm.dig2 (s:Rm) (d:Int):Rm × Bool:=match s.ds.isEmpty&&(decide (d<1)||decide (d > 8)) with
 | true=>(s,false)
 | false=>match decide (s.ds.length<2) with
   | true=>({s with ds:=s.ds++[d]},false)
   | false=>(s.gone (plc (num3 (s.ds++[d]))),true)
noncomputable def Rm.dig (s:Rm) (d:Int):Rm × Bool:=match s.sub with
 | true=>s.subd d
 | false=>s.dig2 d
noncomputable def tDig:Con:=fun args regs=>match args,regs with
 | [.ag xs,.c (.i _ d)],[]=>(match rdRm xs with
   | some s=>.must (args=[.ag s.nc,.c (.i .i64 d)]∧s.su.length≤3∧s.ds.length≤2) (.ret (oRm (s.dig d)))
   | none=>.fail)
 | _,_=>.fail
theorem dgM_in {s:Rm} {d:Int} {R:Out→Prop} (hl:s.ds.length≤2) (h:R (oRm (match decide (s.ds.length<2) with | true=>({s with ds:=s.ds++[d]},false) | false=>(s.gone (plc (num3 (s.ds++[d]))),true)))):dgM s d R:=by
 refine ⟨⟨rfl,by omega⟩,apT_in (by omega) ?_⟩
 have e:(s.ds++[d]).length=s.ds.length+1:=by rw [List.length_append]; rfl
 rw [snoc_eq,e]
 by_cases hc:s.ds.length<2
 ·rw [decide_eq_true hc] at h
  exact sT (decide_eq_true (by omega)) ⟨rfl,h⟩
 ·rw [decide_eq_false hc] at h
  exact sF (decide_eq_false (by omega)) (sT (decide_eq_true (by omega)) (sT (decide_eq_true (by omega)) (sT (decide_eq_true (by omega)) (sT (decide_eq_true (by omega)) ⟨rfl,sT (decide_eq_true (Nat.le_refl _)) h⟩))))
attribute [local irreducible] t_digC in
theorem kDig:Known Tryz.prog GL 107 tDig:=by
 refine k_digC.less fun args regs R h=>?_
 unfold tDig at h
 split at h
 case h_2=>exact h.elim
 split at h
 case h_2=>exact h.elim
 rename_i d _ s _
 obtain ⟨⟨h1,hs,hl⟩,h⟩:=h
 rw [h1]
 refine (Box.of_eq (dig_tree s d R) ?_).out
 unfold digT
 have h:R (oRm (s.dig d)):=h
 unfold Rm.dig at h
 cases h2:s.sub with
 | true=>rw [h2] at h; exact sT rfl ⟨⟨rfl,hs⟩,h⟩
 | false=>
   rw [h2] at h
   have h:R (oRm (s.dig2 d)):=h
   unfold Rm.dig2 at h
   refine sF rfl ?_
   have e:((s.ds.length:Int)==0)=s.ds.isEmpty:=by
    cases s.ds with
    | nil=>rfl
    | cons x l=>rw [beq_eq_false_iff_ne.2 (by rw [List.length_cons]; omega)]; rfl
   rw [e]
   cases h3:s.ds.isEmpty with
   | false=>rw [h3] at h; exact sF rfl (dgM_in hl h)
   | true=>
     rw [h3] at h
     refine sT rfl ?_
     cases h4:decide (d<1) with
     | true=>rw [h4] at h; exact sT rfl h
     | false=>
       cases h5:decide (d > 8) with
       | true=>rw [h4,h5] at h; exact sF rfl (sT rfl h)
       | false=>rw [h4,h5] at h; exact sF rfl (sF rfl (dgM_in hl h))
def nine (n:Int):Int:=bif decide (9<n) then 9 else n
noncomputable def nmQ (a b:Int):Int:=bits .or .i64 (shlv .i64 (nine a) 4) (nine b)
noncomputable def nmH (pn:Int):Int:=nmQ (bits .and .i64 (shrv .i64 pn 4) 15) (bits .and .i64 pn 15)
noncomputable def nmV (mg q:Int):Int:=IntKind.i64.wrap (IntKind.i64.wrap (IntKind.i64.wrap (100 * mg)+IntKind.i64.wrap (10 * shrv .i64 q 4))+bits .and .i64 q 15)
noncomputable def oN (n:Int):Out:=⟨.v (.c (.i .i64 n)),[]⟩
noncomputable def rnumT (mg q:Int) (R:Out→Prop):Prop:=sel (decide (mg ≥ 1)) (sel (!decide (mg≤8)) (R (oN 0)) (sel (decide (q<0)) (R (oN 0)) (sel (decide (shrv .i64 q 4 ≥ 10)) (R (oN 0)) (sel (decide (bits .and .i64 q 15 ≥ 10)) (R (oN 0)) (R (oN (nmV mg q))))))) (R (oN 0))
theorem rnum_tree (mg pn sb:Int) (R:Out→Prop):(t_rnum [.ag (kyNC (mg,pn,sb))] []).run R=rnumT mg (nmH pn) R:=by kernel_rfl
def numW (mg pn:Int):Int:=match decide (1≤mg∧mg≤8) with
 | true=>100 * mg+10 * nine (pn / 16 % 16)+nine (pn % 16)
 | false=>0
theorem nm_all:∀ m<9,∀ a<16,∀ b<16,0≤nmQ (Int.ofNat a) (Int.ofNat b)∧shrv .i64 (nmQ (Int.ofNat a) (Int.ofNat b)) 4<10∧bits .and .i64 (nmQ (Int.ofNat a) (Int.ofNat b)) 15<10∧nmV (Int.ofNat m) (nmQ (Int.ofNat a) (Int.ofNat b))=100 * Int.ofNat m+10 * nine (Int.ofNat a)+nine (Int.ofNat b):=by decide +kernel
theorem nat_of {n:Int} {k:Nat} (h:0≤n∧n<(k:Int)):∃ m<k,n=Int.ofNat m:=⟨n.toNat,by omega,by show n=((n.toNat:Nat):Int); omega⟩
theorem nmH_eq (pn:Int):nmH pn=nmQ (pn / 16 % 16) (pn % 16):=by
 have e1:bits .and .i64 (shrv .i64 pn 4) 15=(shrv .i64 pn 4) % 16:=and_mask64 _ 4 (by decide)
 have e2:bits .and .i64 pn 15=pn % 16:=and_mask64 _ 4 (by decide)
 have e3:shrv .i64 pn 4=pn / 16:=shrv64 pn 4 (by decide)
 unfold nmH
 rw [e1,e2,e3]
noncomputable def tRnum:Con:=fun args regs=>match args,regs with
 | [.ag [.i _ mg,.i _ pn,.i _ sb]],[]=>.must (args=[.ag (kyNC (mg,pn,sb))]) (.ret (oN (numW mg pn)))
 | _,_=>.fail
attribute [local irreducible] t_rnum in
theorem kRnum:Known Tryz.prog GL 142 tRnum:=by
 refine k_rnum.less fun args regs R h=>?_
 unfold tRnum at h
 split at h
 case h_2=>exact h.elim
 rename_i _ mg _ pn _ sb
 obtain ⟨h1,h⟩:=h
 rw [h1]
 refine (Box.of_eq (rnum_tree mg pn sb R) ?_).out
 have h:R (oN (numW mg pn)):=h
 unfold rnumT
 unfold numW at h
 by_cases hm:1≤mg∧mg≤8
 ·rw [decide_eq_true hm] at h
  obtain ⟨m,hm9,rfl⟩:=nat_of (n:=mg) (k:=9) ⟨by omega,by omega⟩
  obtain ⟨x,hx,ex⟩:=nat_of (n:=pn / 16 % 16) (k:=16) ⟨by omega,by omega⟩
  obtain ⟨y,hy,ey⟩:=nat_of (n:=pn % 16) (k:=16) ⟨by omega,by omega⟩
  rw [nmH_eq,ex,ey]
  rw [ex,ey] at h
  obtain ⟨k1,k2,k3,k4⟩:=nm_all m hm9 x hx y hy
  refine sT (decide_eq_true hm.1) (sF (by rw [decide_eq_true hm.2]; rfl) (sF (decide_eq_false (by omega)) (sF (decide_eq_false (by omega)) (sF (decide_eq_false (by omega)) ?_))))
  rw [k4]
  exact h
 ·rw [decide_eq_false hm] at h
  by_cases h1:mg ≥ 1
  ·exact sT (decide_eq_true h1) (sT (by rw [decide_eq_false (show ¬ mg≤8 by omega)]; rfl) h)
  ·exact sF (decide_eq_false h1) h
noncomputable def c_turns:FuncId→Option Con:=conOf [(142,tRnum),(139,tHpl),(140,t_goes)]
theorem kc_turns:∀ f T,c_turns f=some T→Known Tryz.prog GL f T:=(Knowns.cons kRnum (.cons kHpl (.cons k_goes .nil))).get
noncomputable def t_turns:Con:=fun args regs=>nfun Tryz.prog GL c_turns [] Tryz.f109 args regs
theorem k_turns:Known Tryz.prog GL 109 t_turns:=known_inl Tryz.func109 rfl (by kernel_rfl) mixed kc_turns (by kernel_rfl)
noncomputable def t_turnC:Con:=softT [] [0] nilsR [] 0 t_turns
theorem k_turnC:Known Tryz.prog GL 109 t_turnC:=k_turns.soft [] [0] nilsR [] 0
noncomputable def goT (s:Rm) (n:Int) (R:Out→Prop):Prop:=[NV.c (.i .i64 n)]=[.c (.i .i64 n)]∧R (oRm (s.gone (plc n),true))
noncomputable def goN (s:Rm) (n:Int) (R:Out→Prop):Prop:=sel (decide (n > 899)) (goT s 100 R) (sel (decide (n<100)) (goT s 899 R) (goT s n R))
noncomputable def turnT (s:Rm) (by' : Int) (R:Out→Prop):Prop:=[NV.ag (kyNC s.ky)]=[.ag (kyNC s.ky)]∧sel (numW s.mg s.pn==0) (goN s (IntKind.i64.wrap (100+by')) R) (goN s (IntKind.i64.wrap (numW s.mg s.pn+by')) R)
theorem turn_tree (s:Rm) (n:Int) (R:Out→Prop):(t_turnC [.ag s.nc,.c (.i .i64 n)] []).run R=turnT s n R:=by kernel_rfl
noncomputable def turnN (mg pn by' : Int):Int:=
 match decide ((bif numW mg pn==0 then 100 else numW mg pn)+by' > 899) with
 | true=>100
 | false=>match decide ((bif numW mg pn==0 then 100 else numW mg pn)+by'<100) with
   | true=>899
   | false=>(bif numW mg pn==0 then 100 else numW mg pn)+by'
noncomputable def Rm.turn (s:Rm) (by' : Int):Rm × Bool:=(s.gone (plc (turnN s.mg s.pn by')),true)
theorem goN_in {s:Rm} {n:Int} {R:Out→Prop} (h:R (oRm (s.gone (plc (match decide (n > 899) with | true=>100 | false=>match decide (n<100) with | true=>899 | false=>n)),true))):goN s n R:=by
 unfold goN
 cases h1:decide (n > 899) with
 | true=>rw [h1] at h; exact sT rfl ⟨rfl,h⟩
 | false=>
   rw [h1] at h
   cases h2:decide (n<100) with
   | true=>rw [h2] at h; exact sF rfl (sT rfl ⟨rfl,h⟩)
   | false=>rw [h2] at h; exact sF rfl (sF rfl ⟨rfl,h⟩)
theorem nine_le {n:Int} (h:0≤n):0≤nine n∧nine n≤9:=by
 unfold nine
 by_cases h1:9<n
 ·rw [decide_eq_true h1]; show (0:Int)≤9∧(9:Int)≤9; omega
 ·rw [decide_eq_false h1]; show 0≤n∧n≤9; omega
theorem numW_le (mg pn:Int):0≤numW mg pn∧numW mg pn≤899:=by
 unfold numW
 by_cases hm:1≤mg∧mg≤8
 ·rw [decide_eq_true hm]
  have h1:=nine_le (n:=pn / 16 % 16) (by omega)
  have h2:=nine_le (n:=pn % 16) (by omega)
  show 0≤100 * mg+10 * nine (pn / 16 % 16)+nine (pn % 16)∧100 * mg+10 * nine (pn / 16 % 16)+nine (pn % 16)≤899
  omega
 ·rw [decide_eq_false hm]
  show (0:Int)≤0∧(0:Int)≤899
  omega
noncomputable def tTurn:Con:=fun args regs=>match args,regs with
 | [.ag xs,.c (.i _ n)],[]=>(match rdRm xs with
   | some s=>.must (args=[.ag s.nc,.c (.i .i64 n)]∧(n=1∨n=-1)) (.ret (oRm (s.turn n)))
   | none=>.fail)
 | _,_=>.fail
attribute [local irreducible] t_turnC in
theorem kTurn:Known Tryz.prog GL 109 tTurn:=by
 refine k_turnC.less fun args regs R h=>?_
 unfold tTurn at h
 split at h
 case h_2=>exact h.elim
 split at h
 case h_2=>exact h.elim
 rename_i n _ s _
 obtain ⟨⟨h1,hn⟩,h⟩:=h
 rw [h1]
 refine (Box.of_eq (turn_tree s n R) ⟨rfl,?_⟩).out
 have h:R (oRm (s.turn n)):=h
 unfold Rm.turn turnN at h
 have hb:=numW_le s.mg s.pn
 cases hz:numW s.mg s.pn==0 with
 | true=>
   rw [hz] at h
   have hw:IntKind.i64.wrap (100+n)=100+n:=by rw [IntKind.wrap_i64]; omega
   rw [hw]
   exact sT rfl (goN_in h)
 | false=>
   rw [hz] at h
   have hw:IntKind.i64.wrap (numW s.mg s.pn+n)=numW s.mg s.pn+n:=by rw [IntKind.wrap_i64]; omega
   rw [hw]
   exact sF rfl (goN_in h)
noncomputable def t_follC:Con:=softT [] [0] nilsR [] 0 t_foll
theorem k_follC:Known Tryz.prog GL 108 t_follC:=k_foll.soft [] [0] nilsR [] 0
noncomputable def follT (s:Rm) (k:Ky) (ln:Bool) (R:Out→Prop):Prop:=sel (!ln) (R (oRm (s,false))) (sel (decide (k.1 ≥ 1)) (sel (decide (k.1≤8)) (sel (!(k.2.1 !=255)) (R (oRm (s,false))) (R (oRm (s.gone k,true)))) (R (oRm (s,false)))) (R (oRm (s,false))))
def lkNC (l:List (List Sc)):NV:=.ag (rowsNC K3 l)
section
variable (s:Rm) (r0 r1 r2 r3 r4 r5:List Sc) (ln:Bool) (R:Out→Prop)
theorem foll_0:(t_follC [.ag s.nc,.c (.i .i64 0),lkNC [r0,r1,r2,r3,r4,r5],.c (.b ln)] []).run R=follT s (toKy r0) ln R:=by kernel_rfl
theorem foll_1:(t_follC [.ag s.nc,.c (.i .i64 1),lkNC [r0,r1,r2,r3,r4,r5],.c (.b ln)] []).run R=follT s (toKy r1) ln R:=by kernel_rfl
theorem foll_2:(t_follC [.ag s.nc,.c (.i .i64 2),lkNC [r0,r1,r2,r3,r4,r5],.c (.b ln)] []).run R=follT s (toKy r2) ln R:=by kernel_rfl
theorem foll_3:(t_follC [.ag s.nc,.c (.i .i64 3),lkNC [r0,r1,r2,r3,r4,r5],.c (.b ln)] []).run R=follT s (toKy r3) ln R:=by kernel_rfl
theorem foll_4:(t_follC [.ag s.nc,.c (.i .i64 4),lkNC [r0,r1,r2,r3,r4,r5],.c (.b ln)] []).run R=follT s (toKy r4) ln R:=by kernel_rfl
theorem foll_5:(t_follC [.ag s.nc,.c (.i .i64 5),lkNC [r0,r1,r2,r3,r4,r5],.c (.b ln)] []).run R=follT s (toKy r5) ln R:=by kernel_rfl
end
def Rm.foll (s:Rm) (k:Ky) (ln:Bool):Rm × Bool:=match ln&&(decide (1≤k.1∧k.1≤8)&&(k.2.1 !=255)) with
 | true=>(s.gone k,true)
 | false=>(s,false)
theorem foll_in {s:Rm} {k:Ky} {ln:Bool} {R:Out→Prop} (h:R (oRm (s.foll k ln))):follT s k ln R:=by
 unfold Rm.foll at h
 unfold follT
 cases ln with
 | false=>exact h
 | true=>
   refine sF rfl ?_
   by_cases h1:k.1 ≥ 1
   ·refine sT (decide_eq_true h1) ?_
    by_cases h2:k.1≤8
    ·refine sT (decide_eq_true h2) ?_
     rw [decide_eq_true (show 1≤k.1∧k.1≤8 from ⟨h1,h2⟩)] at h
     cases h3:(k.2.1 !=255) with
     | true=>rw [h3] at h; exact h
     | false=>rw [h3] at h; exact h
    ·rw [decide_eq_false (fun hh:1≤k.1∧k.1≤8=>h2 hh.2)] at h
     exact sF (decide_eq_false h2) h
   ·rw [decide_eq_false (fun hh:1≤k.1∧k.1≤8=>h1 hh.1)] at h
    exact sF (decide_eq_false h1) h
noncomputable def tFoll (lk:List (List Sc)):Con:=fun args regs=>match args,regs with
 | [.ag xs,.c (.i _ k),v,.c (.b ln)],[]=>(match rdRm xs with
   | some s=>.must (args=[.ag s.nc,.c (.i .i64 k),lkNC lk,.c (.b ln)]∧lk.length=6∧0≤k∧k≤5) (.ret (oRm (s.foll (toKy (lk.getD k.toNat [])) ln)))
   | none=>.fail)
 | _,_=>.fail
theorem list6 {α:Type} {l:List α} (h:l.length=6):∃ a b c d e f,l=[a,b,c,d,e,f]:=by
 match l,h with
 | [a,b,c,d,e,f],_=>exact ⟨a,b,c,d,e,f,rfl⟩
attribute [local irreducible] t_follC in
theorem kFoll (lk:List (List Sc)):Known Tryz.prog GL 108 (tFoll lk):=by
 refine k_follC.less fun args regs R h=>?_
 unfold tFoll at h
 split at h
 case h_2=>exact h.elim
 split at h
 case h_2=>exact h.elim
 rename_i k v ln _ s _
 obtain ⟨⟨h1,hl,h0,h5⟩,h⟩:=h
 rw [h1]
 obtain ⟨r0,r1,r2,r3,r4,r5,rfl⟩:=list6 hl
 have hk:k=0∨k=1∨k=2∨k=3∨k=4∨k=5:=by omega
 rcases hk with rfl | rfl | rfl | rfl | rfl | rfl
 ·exact (Box.of_eq (foll_0 s r0 r1 r2 r3 r4 r5 ln R) (foll_in h)).out
 ·exact (Box.of_eq (foll_1 s r0 r1 r2 r3 r4 r5 ln R) (foll_in h)).out
 ·exact (Box.of_eq (foll_2 s r0 r1 r2 r3 r4 r5 ln R) (foll_in h)).out
 ·exact (Box.of_eq (foll_3 s r0 r1 r2 r3 r4 r5 ln R) (foll_in h)).out
 ·exact (Box.of_eq (foll_4 s r0 r1 r2 r3 r4 r5 ln R) (foll_in h)).out
 ·exact (Box.of_eq (foll_5 s r0 r1 r2 r3 r4 r5 ln R) (foll_in h)).out
noncomputable def c_key (lk:List (List Sc)):FuncId→Option Con:=conOf [(106,tclIV),(107,tDig),(108,tFoll lk),(109,tTurn)]
theorem kc_key (lk:List (List Sc)):∀ f T,c_key lk f=some T→Known Tryz.prog GL f T:=(Knowns.cons kclIV (.cons kDig (.cons (kFoll lk) (.cons kTurn .nil)))).get
noncomputable def t_key (lk:List (List Sc)):Con:=fun args regs=>nfun Tryz.prog GL (c_key lk) [] Tryz.f62 args regs
theorem k_key (lk:List (List Sc)):Known Tryz.prog GL 62 (t_key lk):=known_inl Tryz.func62 rfl (by kernel_rfl) mixed (kc_key lk) (by kernel_rfl)
noncomputable def t_keyC (lk:List (List Sc)):Con:=softT [] [0,1] nilsR [] 0 (t_key lk)
theorem k_keyC (lk:List (List Sc)):Known Tryz.prog GL 62 (t_keyC lk):=(k_key lk).soft [] [0,1] nilsR [] 0
def K2 (s:Rm) (N:Prop):Prop:=([NV.c (.l .i64 s.ds)]=[.c (.l .i64 s.ds)]∧s.ds.length≤1000000)∧(([NV.c (.l .i64 s.su)]=[.c (.l .i64 s.su)]∧s.su.length≤1000000)∧N)
section
variable (s:Rm) (r0 r1 r2 r3 r4 r5:List Sc) (ln:Bool) (k:Int) (R:Out→Prop)
noncomputable abbrev KT (s:Rm) (r0 r1 r2 r3 r4 r5:List Sc) (ln:Bool) (k:Int):Tr Out:=t_keyC [r0,r1,r2,r3,r4,r5] [.ag s.nc,.c (.i .i64 k),lkNC [r0,r1,r2,r3,r4,r5],.c (.b ln)] []
def digA (s:Rm) (k:Int) (N:Prop):Prop:=([NV.ag s.nc,.c (.i .i64 k)]=[.ag s.nc,.c (.i .i64 k)]∧s.su.length≤3∧s.ds.length≤2)∧N
def folA (s:Rm) (l:List (List Sc)) (ln:Bool) (k:Int) (N:Prop):Prop:=([NV.ag s.nc,.c (.i .i64 k),lkNC l,.c (.b ln)]=[.ag s.nc,.c (.i .i64 k),lkNC l,.c (.b ln)]∧l.length=6∧0≤k∧k≤5)∧N
def trnA (s:Rm) (n:Int) (N:Prop):Prop:=([NV.ag s.nc,.c (.i .i64 n)]=[.ag s.nc,.c (.i .i64 n)]∧(n=1∨n=-1))∧N
theorem key_0:(KT s r0 r1 r2 r3 r4 r5 ln 0).run R=K2 s (digA s 0 (R (oRm (s.dig 0)))):=by kernel_rfl
theorem key_1:(KT s r0 r1 r2 r3 r4 r5 ln 1).run R=K2 s (digA s 1 (R (oRm (s.dig 1)))):=by kernel_rfl
theorem key_2:(KT s r0 r1 r2 r3 r4 r5 ln 2).run R=K2 s (digA s 2 (R (oRm (s.dig 2)))):=by kernel_rfl
theorem key_3:(KT s r0 r1 r2 r3 r4 r5 ln 3).run R=K2 s (digA s 3 (R (oRm (s.dig 3)))):=by kernel_rfl
theorem key_4:(KT s r0 r1 r2 r3 r4 r5 ln 4).run R=K2 s (digA s 4 (R (oRm (s.dig 4)))):=by kernel_rfl
theorem key_5:(KT s r0 r1 r2 r3 r4 r5 ln 5).run R=K2 s (digA s 5 (R (oRm (s.dig 5)))):=by kernel_rfl
theorem key_6:(KT s r0 r1 r2 r3 r4 r5 ln 6).run R=K2 s (digA s 6 (R (oRm (s.dig 6)))):=by kernel_rfl
theorem key_7:(KT s r0 r1 r2 r3 r4 r5 ln 7).run R=K2 s (digA s 7 (R (oRm (s.dig 7)))):=by kernel_rfl
theorem key_8:(KT s r0 r1 r2 r3 r4 r5 ln 8).run R=K2 s (digA s 8 (R (oRm (s.dig 8)))):=by kernel_rfl
theorem key_9:(KT s r0 r1 r2 r3 r4 r5 ln 9).run R=K2 s (digA s 9 (R (oRm (s.dig 9)))):=by kernel_rfl
theorem key_10:(KT s r0 r1 r2 r3 r4 r5 ln 10).run R=K2 s (R (oRm ({s with hd:=!s.hd},!!s.hd))):=by kernel_rfl
theorem key_11:(KT s r0 r1 r2 r3 r4 r5 ln 11).run R=K2 s (R (oRm ({s with rv:=!s.rv},false))):=by kernel_rfl
theorem key_12:(KT s r0 r1 r2 r3 r4 r5 ln 12).run R=K2 s (R (oRm ({s with mx:=!s.mx},false))):=by kernel_rfl
theorem key_13:(KT s r0 r1 r2 r3 r4 r5 ln 13).run R=K2 s (trnA s 1 (R (oRm (s.turn 1)))):=by kernel_rfl
theorem key_14:(KT s r0 r1 r2 r3 r4 r5 ln 14).run R=K2 s (trnA s (-1) (R (oRm (s.turn (-1))))):=by kernel_rfl
theorem key_15:(KT s r0 r1 r2 r3 r4 r5 ln 15).run R=K2 s (folA s [r0,r1,r2,r3,r4,r5] ln 0 (R (oRm (s.foll (toKy r0) ln)))):=by kernel_rfl
theorem key_16:(KT s r0 r1 r2 r3 r4 r5 ln 16).run R=K2 s (folA s [r0,r1,r2,r3,r4,r5] ln 1 (R (oRm (s.foll (toKy r1) ln)))):=by kernel_rfl
theorem key_17:(KT s r0 r1 r2 r3 r4 r5 ln 17).run R=K2 s (folA s [r0,r1,r2,r3,r4,r5] ln 2 (R (oRm (s.foll (toKy r2) ln)))):=by kernel_rfl
theorem key_18:(KT s r0 r1 r2 r3 r4 r5 ln 18).run R=K2 s (folA s [r0,r1,r2,r3,r4,r5] ln 3 (R (oRm (s.foll (toKy r3) ln)))):=by kernel_rfl
theorem key_19:(KT s r0 r1 r2 r3 r4 r5 ln 19).run R=K2 s (folA s [r0,r1,r2,r3,r4,r5] ln 5 (R (oRm (s.foll (toKy r5) ln)))):=by kernel_rfl
theorem key_20:(KT s r0 r1 r2 r3 r4 r5 ln 20).run R=K2 s (R (oRm ({s with sub:=true,su:=[],ds:=[]},false))):=by kernel_rfl
theorem key_21:(KT s r0 r1 r2 r3 r4 r5 ln 21).run R=K2 s (R (oRm ({s with sub:=false,mx:=false,su:=[],ds:=[]},false))):=by kernel_rfl
def w_lo (s:Rm) (k:Int):List RC:=[.m ([NV.c (.l .i64 s.ds)]=[.c (.l .i64 s.ds)]∧s.ds.length≤1000000),.m ([NV.c (.l .i64 s.su)]=[.c (.l .i64 s.su)]∧s.su.length≤1000000),.f (decide (k ≥ 0)),.F 3,.f (decide (k ≥ 15)),.F 3,.f (k==10),.f (k==11),.f (k==12),.f (k==13),.f (k==14),.f (k==19),.f (k==20),.f (k==21)]
def w_hi (s:Rm) (k:Int):List RC:=[.m ([NV.c (.l .i64 s.ds)]=[.c (.l .i64 s.ds)]∧s.ds.length≤1000000),.m ([NV.c (.l .i64 s.su)]=[.c (.l .i64 s.su)]∧s.su.length≤1000000),.t (decide (k ≥ 0)),.T 2,.f (decide (k≤9)),.t (decide (k ≥ 15)),.T 2,.f (decide (k≤18)),.f (k==10),.f (k==11),.f (k==12),.f (k==13),.f (k==14),.f (k==19),.f (k==20),.f (k==21)]
theorem key_lo:((KT s r0 r1 r2 r3 r4 r5 ln k).fol (scr (w_lo s k))).run R=road (w_lo s k) (R (oRm (s,false))):=by kernel_rfl
theorem key_hi:((KT s r0 r1 r2 r3 r4 r5 ln k).fol (scr (w_hi s k))).run R=road (w_hi s k) (R (oRm (s,false))):=by kernel_rfl
end
noncomputable def Rm.keyN (s:Rm) (lk:List (List Sc)) (ln:Bool):Nat→Rm × Bool
 | 10=>({s with hd:=!s.hd},!!s.hd)
 | 11=>({s with rv:=!s.rv},false)
 | 12=>({s with mx:=!s.mx},false)
 | 13=>s.turn 1
 | 14=>s.turn (-1)
 | 15=>s.foll (toKy (lk.getD 0 [])) ln
 | 16=>s.foll (toKy (lk.getD 1 [])) ln
 | 17=>s.foll (toKy (lk.getD 2 [])) ln
 | 18=>s.foll (toKy (lk.getD 3 [])) ln
 | 19=>s.foll (toKy (lk.getD 5 [])) ln
 | 20=>({s with sub:=true,su:=[],ds:=[]},false)
 | 21=>({s with sub:=false,mx:=false,su:=[],ds:=[]},false)
 | n=>match decide (n<10) with
   | true=>s.dig (n:Int)
   | false=>(s,false)
noncomputable def Rm.key (s:Rm) (k:Int) (lk:List (List Sc)) (ln:Bool):Rm × Bool:=match decide (0≤k) with
 | true=>s.keyN lk ln k.toNat
 | false=>(s,false)
structure Rm.ok (s:Rm):Prop where
 ds:s.ds.length≤2
 su:s.su.length≤3
noncomputable def tKey (lk:List (List Sc)):Con:=fun args regs=>match args,regs with
 | [.ag xs,.c (.i _ k),v,.c (.b ln)],[]=>(match rdRm xs with
   | some s=>.must (args=[.ag s.nc,.c (.i .i64 k),lkNC lk,.c (.b ln)]∧lk.length=6∧s.ok) (.ret (oRm (s.key k lk ln)))
   | none=>.fail)
 | _,_=>.fail
theorem K2_in {s:Rm} {N:Prop} (h:s.ok) (hN:N):K2 s N:=⟨⟨rfl,by have:=h.ds; omega⟩,⟨rfl,by have:=h.su; omega⟩,hN⟩
attribute [local irreducible] t_keyC in
theorem key_in (s:Rm) (r0 r1 r2 r3 r4 r5:List Sc) (ln:Bool) (k:Int) (R:Out→Prop) (hs:s.ok) (h:R (oRm (s.key k [r0,r1,r2,r3,r4,r5] ln))):Box ((KT s r0 r1 r2 r3 r4 r5 ln k).run R):=by
 by_cases h0:k<0
 ·have e:s.key k [r0,r1,r2,r3,r4,r5] ln=(s,false):=by unfold Rm.key; rw [decide_eq_false (show ¬ 0≤k by omega)]
  rw [e] at h
  refine ⟨by_road (key_lo s r0 r1 r2 r3 r4 r5 ln k R) ?_ h⟩
  refine ⟨⟨rfl,by have:=hs.ds; omega⟩,⟨rfl,by have:=hs.su; omega⟩,decide_eq_false (by omega),decide_eq_false (by omega),?_⟩
  refine ⟨?_,?_,?_,?_,?_,?_,?_,?_,trivial⟩ <;> exact beq_eq_false_iff_ne.2 (by omega)
 ·by_cases h1:22≤k
  ·have e:s.key k [r0,r1,r2,r3,r4,r5] ln=(s,false):=by
    unfold Rm.key
    rw [decide_eq_true (show 0≤k by omega)]
    show s.keyN [r0,r1,r2,r3,r4,r5] ln k.toNat=(s,false)
    obtain ⟨n,hn⟩:∃ n,k.toNat=n+22:=⟨k.toNat - 22,by omega⟩
    rw [hn]
    rfl
   rw [e] at h
   refine ⟨by_road (key_hi s r0 r1 r2 r3 r4 r5 ln k R) ?_ h⟩
   refine ⟨⟨rfl,by have:=hs.ds; omega⟩,⟨rfl,by have:=hs.su; omega⟩,decide_eq_true (by omega),decide_eq_false (by omega),decide_eq_true (by omega),decide_eq_false (by omega),?_⟩
   refine ⟨?_,?_,?_,?_,?_,?_,?_,?_,trivial⟩ <;> exact beq_eq_false_iff_ne.2 (by omega)
  ·have hk:k=0∨k=1∨k=2∨k=3∨k=4∨k=5∨k=6∨k=7∨k=8∨k=9∨k=10∨k=11∨k=12∨k=13∨k=14∨k=15∨k=16∨k=17∨k=18∨k=19∨k=20∨k=21:=by omega
   clear h0 h1
   have dg:∀ n:Int,digA s n (R (oRm (s.dig n)))↔R (oRm (s.dig n)):=fun n=>⟨fun x=>x.2,fun x=>⟨⟨rfl,hs.su,hs.ds⟩,x⟩⟩
   rcases hk with rfl | rfl | rfl | rfl | rfl | rfl | rfl | rfl | rfl | rfl | rfl | rfl | rfl | rfl | rfl | rfl | rfl | rfl | rfl | rfl | rfl | rfl
   ·exact Box.of_eq (key_0 s r0 r1 r2 r3 r4 r5 ln R) (K2_in hs ((dg 0).2 h))
   ·exact Box.of_eq (key_1 s r0 r1 r2 r3 r4 r5 ln R) (K2_in hs ((dg 1).2 h))
   ·exact Box.of_eq (key_2 s r0 r1 r2 r3 r4 r5 ln R) (K2_in hs ((dg 2).2 h))
   ·exact Box.of_eq (key_3 s r0 r1 r2 r3 r4 r5 ln R) (K2_in hs ((dg 3).2 h))
   ·exact Box.of_eq (key_4 s r0 r1 r2 r3 r4 r5 ln R) (K2_in hs ((dg 4).2 h))
   ·exact Box.of_eq (key_5 s r0 r1 r2 r3 r4 r5 ln R) (K2_in hs ((dg 5).2 h))
   ·exact Box.of_eq (key_6 s r0 r1 r2 r3 r4 r5 ln R) (K2_in hs ((dg 6).2 h))
   ·exact Box.of_eq (key_7 s r0 r1 r2 r3 r4 r5 ln R) (K2_in hs ((dg 7).2 h))
   ·exact Box.of_eq (key_8 s r0 r1 r2 r3 r4 r5 ln R) (K2_in hs ((dg 8).2 h))
   ·exact Box.of_eq (key_9 s r0 r1 r2 r3 r4 r5 ln R) (K2_in hs ((dg 9).2 h))
   ·exact Box.of_eq (key_10 s r0 r1 r2 r3 r4 r5 ln R) (K2_in hs h)
   ·exact Box.of_eq (key_11 s r0 r1 r2 r3 r4 r5 ln R) (K2_in hs h)
   ·exact Box.of_eq (key_12 s r0 r1 r2 r3 r4 r5 ln R) (K2_in hs h)
   ·exact Box.of_eq (key_13 s r0 r1 r2 r3 r4 r5 ln R) (K2_in hs ⟨⟨rfl,.inl rfl⟩,h⟩)
   ·exact Box.of_eq (key_14 s r0 r1 r2 r3 r4 r5 ln R) (K2_in hs ⟨⟨rfl,.inr rfl⟩,h⟩)
   ·exact Box.of_eq (key_15 s r0 r1 r2 r3 r4 r5 ln R) (K2_in hs ⟨⟨rfl,rfl,by decide,by decide⟩,h⟩)
   ·exact Box.of_eq (key_16 s r0 r1 r2 r3 r4 r5 ln R) (K2_in hs ⟨⟨rfl,rfl,by decide,by decide⟩,h⟩)
   ·exact Box.of_eq (key_17 s r0 r1 r2 r3 r4 r5 ln R) (K2_in hs ⟨⟨rfl,rfl,by decide,by decide⟩,h⟩)
   ·exact Box.of_eq (key_18 s r0 r1 r2 r3 r4 r5 ln R) (K2_in hs ⟨⟨rfl,rfl,by decide,by decide⟩,h⟩)
   ·exact Box.of_eq (key_19 s r0 r1 r2 r3 r4 r5 ln R) (K2_in hs ⟨⟨rfl,rfl,by decide,by decide⟩,h⟩)
   ·exact Box.of_eq (key_20 s r0 r1 r2 r3 r4 r5 ln R) (K2_in hs h)
   ·exact Box.of_eq (key_21 s r0 r1 r2 r3 r4 r5 ln R) (K2_in hs h)
attribute [local irreducible] t_keyC in
theorem kKey (lk:List (List Sc)):Known Tryz.prog GL 62 (tKey lk):=by
 refine (k_keyC lk).less fun args regs R h=>?_
 unfold tKey at h
 split at h
 case h_2=>exact h.elim
 split at h
 case h_2=>exact h.elim
 rename_i k v ln _ s _
 obtain ⟨⟨h1,hl,hs⟩,h⟩:=h
 rw [h1]
 obtain ⟨r0,r1,r2,r3,r4,r5,rfl⟩:=list6 hl
 exact (key_in s r0 r1 r2 r3 r4 r5 ln k R hs h).out
noncomputable def rcN (V:Rv):Reg:=rcReg 1 V.s.nc pgZ .sn V.fd V.tk
noncomputable def inVn (V:Rv):List Reg:=[rcN V,mcG 2 V.m.v V.m.inf,stN 3 V.m.st.sto,ac.mpReg V.m.st.sto.m,ordReg (kyRows V.m.st.sto.l)]
def rdRn:List Reg→Option Rv
 | ⟨_,_,.sg [.cells [.p _ _ _,.i _ a,.i _ b,.i _ c,.l _ ds,.l _ su,.b sub,.b hd,.b rv,.b mx,.i _ _,.i _ _,.i _ _],.recs _ _ _,.cells [.i _ _],.ints _ _ _,.recs _ _ _,.cells [.sn],.recs _ _ _,.cells [.b _,.i _ _,.b fd,.i _ tk]]⟩::rest=>(match rdMc rest with
   | some M=>some ⟨M,⟨a,b,c,ds,su,sub,hd,rv,mx⟩,pgZ,fd,tk⟩
   | none=>none)
 | _=>none
noncomputable def showN (V:Rv) (q:Pg) (is:Bool) (R:Out→Prop):Prop:=sel is ((inM V.m=inM (mac.bk V.m)∧(mac.bk V.m).ok)∧[NV.c (.p 0 0 0),.ag (kyNC (kyP q))]=[.c (.p 0 0 0),.ag (kyNC (kyP q))]∧R (oRv (V.bk.shown (q,true)))) (R ⟨.tu [],(inVn V).map some⟩)
theorem show_treeN (V:Rv) (q:Pg) (is:Bool) (R:Out→Prop):(t_show [.c (.p 0 0 0),pgV q,.c (.b is)] (inVn V)).run R=showN V q is R:=by kernel_rfl
noncomputable def tShowN:Con:=fun args regs=>match args with
 | [.c (.p 0 0 0),v,.c (.b is)]=>(match sto.rdPg v,rdRn regs with
   | some q,some V=>.must (args=[.c (.p 0 0 0),pgV q,.c (.b is)]∧regs=inVn V∧V.m.ok) (.br is (.ret (oRv (V.shown (q,true)))) (.ret ⟨.tu [],(inVn V).map some⟩))
   | _,_=>.fail)
 | _=>.fail
attribute [local irreducible] t_show in
theorem kShowN:Known Tryz.prog GL 64 tShowN:=by
 refine k_show.less fun args regs R h=>?_
 unfold tShowN at h
 split at h
 case h_2=>exact h.elim
 rename_i v is
 split at h
 case h_2=>exact h.elim
 rename_i q V _ _
 obtain ⟨⟨h1,h2,hV⟩,h⟩:=h
 rw [h1,h2]
 refine (Box.of_eq (show_treeN V q is R) ?_).out
 unfold showN
 rw [V.bk_eq hV.1,mac.bk_eq _ hV.1]
 have h:sel is (R (oRv (V.shown (q,true)))) (R ⟨.tu [],(inVn V).map some⟩):=h
 cases is with
 | true=>exact sT rfl ⟨⟨rfl,hV⟩,rfl,h⟩
 | false=>exact sF rfl h
noncomputable def shAny:Bool→Con
 | true=>tShow
 | false=>tShowN
noncomputable def tShowA:Con:=fun args regs=>match rdRv regs with
 | some _=>tShow args regs
 | none=>tShowN args regs
theorem kShowA:Known Tryz.prog GL 64 tShowA:=by
 refine Known_any (T:=shAny) true (fun b=>by cases b; exact kShowN; exact kShow) fun args regs R h=>?_
 unfold tShowA at h
 split at h
 ·exact ⟨true,h⟩
 ·exact ⟨false,h⟩
noncomputable def c_rkey (lk:List (List Sc)):FuncId→Option Con:=conOf [(62,tKey lk),(63,tMfree),(18,tFd),(64,tShowA)]
theorem kc_rkey (lk:List (List Sc)):∀ f T,c_rkey lk f=some T→Known Tryz.prog GL f T:=(Knowns.cons (kKey lk) (.cons kMfree (.cons kFd (.cons kShowA .nil)))).get
noncomputable def t_rkey (lk:List (List Sc)):Con:=fun args regs=>nfun Tryz.prog GL (c_rkey lk) [] Tryz.f23 args regs
theorem k_rkey (lk:List (List Sc)):Known Tryz.prog GL 23 (t_rkey lk):=known_inl Tryz.func23 rfl (by kernel_rfl) mixed (kc_rkey lk) (by kernel_rfl)
noncomputable def t_rkeyC (lk:List (List Sc)):Con:=softT [] [] [] [(0,5,0,.lr K3 [])] 5 (t_rkey lk)
theorem k_rkeyC (lk:List (List Sc)):Known Tryz.prog GL 23 (t_rkeyC lk):=(k_rkey lk).soft [] [] [] [(0,5,0,.lr K3 [])] 5
def Rv.with (V:Rv) (s:Rm):Rv:={V with s:=s}
def Rv.fresh (V:Rv) (s:Rm):Rv:={V with s:=s,p:=pgZ,fd:=false,m:=Mc.freed V.m}
noncomputable def Rv.key (V:Rv) (k:Int):Rv:=match (V.s.key k V.p.lk (V.fd&&V.p.ld)).2 with
 | true=>(V.fresh (V.s.key k V.p.lk (V.fd&&V.p.ld)).1).shown ((Mc.freed V.m).find (V.s.key k V.p.lk (V.fd&&V.p.ld)).1.ky)
 | false=>V.with (V.s.key k V.p.lk (V.fd&&V.p.ld)).1
noncomputable def askT (V:Rv) (M:Mc) (s:Rm) (R:Out→Prop):Prop:=(inM M=inM (mac.bk M)∧(mac.bk M).ok)∧(([NV.c (.p 0 0 0),.ag (kyNC s.ky)]=[.c (.p 0 0 0),.ag (kyNC s.ky)]∧(mac.bk M).good)∧
 (([NV.c (.p 0 0 0),pgV ((mac.bk M).find s.ky).1,.c (.b ((mac.bk M).find s.ky).2)]=[.c (.p 0 0 0),pgV ((mac.bk M).find s.ky).1,.c (.b ((mac.bk M).find s.ky).2)]∧inVn ⟨mac.bk M,s,pgZ,false,V.tk⟩=inVn (Rv.bk ⟨mac.bk M,s,pgZ,false,V.tk⟩)∧(Rv.bk ⟨mac.bk M,s,pgZ,false,V.tk⟩).m.ok)∧
   sel ((mac.bk M).find s.ky).2 (R (oRv ((Rv.bk ⟨mac.bk M,s,pgZ,false,V.tk⟩).shown (((mac.bk M).find s.ky).1,true)))) (R (oRv (Rv.bk ⟨mac.bk M,s,pgZ,false,V.tk⟩)))))
noncomputable def keyP (V:Rv) (lk:List (List Sc)) (k:Int) (ln:Bool) (R:Out→Prop):Prop:=([NV.ag V.s.nc,.c (.i .i64 k),lkNC lk,.c (.b ln)]=[.ag V.s.nc,.c (.i .i64 k),lkNC lk,.c (.b ln)]∧lk.length=6∧V.s.ok)∧
 sel (V.s.key k lk ln).2 ((inM V.m=inM (mac.bk V.m)∧(mac.bk V.m).ok)∧askT V (Mc.freed (mac.bk V.m)) (V.s.key k lk ln).1 R) (R (oRv (V.with (V.s.key k lk ln).1)))
def Rv.lks (V:Rv) (l:List (List Sc)):Rv:={V with p:={V.p with lk:=l}}
noncomputable def rkeyT (V:Rv) (lk:List (List Sc)) (k:Int) (R:Out→Prop):Prop:=sel V.fd (keyP V lk k V.p.ld R) (keyP V lk k false R)
theorem rkey_tree (V:Rv) (r0 r1 r2 r3 r4 r5:List Sc) (k:Int) (R:Out→Prop):(t_rkeyC [r0,r1,r2,r3,r4,r5] [.c (.p 0 0 0),.c (.i .i64 k)] (inV (V.lks [r0,r1,r2,r3,r4,r5]))).run R=rkeyT (V.lks [r0,r1,r2,r3,r4,r5]) [r0,r1,r2,r3,r4,r5] k R:=by kernel_rfl
theorem freed_good {M:Mc} (h:M.good):(Mc.freed M).good:=⟨h.far,h.nd,h.m1,h.m8,h.len,h.fit,h.vfit,h.txt⟩
theorem pinned_good {M:Mc} (h:M.good) (k:Ky):(Mc.pinned M k).good:=⟨h.far,h.nd,h.m1,h.m8,h.len,h.fit,h.vfit,h.txt⟩
theorem askT_in {V:Rv} {M:Mc} {s:Rm} {R:Out→Prop} (hM:M.good) (h:R (oRv (Rv.shown ⟨M,s,pgZ,false,V.tk⟩ (M.find s.ky)))):askT V M s R:=by
 unfold askT
 have e:Rv.bk ⟨M,s,pgZ,false,V.tk⟩=⟨M,s,pgZ,false,V.tk⟩:=Rv.bk_eq _ hM.far
 rw [hM.bk,e]
 refine ⟨⟨rfl,hM.ok⟩,⟨rfl,hM⟩,⟨rfl,rfl,hM.ok⟩,?_⟩
 unfold Rv.shown at h
 cases hf:(M.find s.ky).2 with
 | true=>rw [hf] at h; exact sT rfl h
 | false=>rw [hf] at h; exact sF rfl h
theorem keyP_in {V:Rv} {k:Int} {ln:Bool} {R:Out→Prop} (hl:V.p.lk.length=6) (hs:V.s.ok) (hM:V.m.good)
  (h:R (oRv (match (V.s.key k V.p.lk ln).2 with
    | true=>(V.fresh (V.s.key k V.p.lk ln).1).shown ((Mc.freed V.m).find (V.s.key k V.p.lk ln).1.ky)
    | false=>V.with (V.s.key k V.p.lk ln).1))):keyP V V.p.lk k ln R:=by
 refine ⟨⟨rfl,hl,hs⟩,?_⟩
 rw [hM.bk]
 cases hk:(V.s.key k V.p.lk ln).2 with
 | true=>rw [hk] at h; exact sT rfl ⟨⟨rfl,hM.ok⟩,askT_in (freed_good hM) h⟩
 | false=>rw [hk] at h; exact sF rfl h
theorem rkey_in {V:Rv} {k:Int} {R:Out→Prop} (hl:V.p.lk.length=6) (hs:V.s.ok) (hM:V.m.good) (h:R (oRv (V.key k))):rkeyT V V.p.lk k R:=by
 unfold rkeyT
 unfold Rv.key at h
 cases hf:V.fd with
 | true=>rw [hf] at h; exact sT rfl (keyP_in hl hs hM h)
 | false=>rw [hf] at h; exact sF rfl (keyP_in hl hs hM h)
noncomputable def tRkey:Con:=fun args regs=>match args with
 | [.c (.p 0 0 0),.c (.i _ k)]=>onV regs fun V=>.must (args=[.c (.p 0 0 0),.c (.i .i64 k)]∧V.p.lk.length=6∧V.s.ok∧V.m.good) (.ret (oRv (V.key k)))
 | _=>.fail
attribute [local irreducible] t_rkeyC in
theorem kRkey:Known Tryz.prog GL 23 tRkey:=by
 refine Known_any (T:=t_rkeyC) [] k_rkeyC fun args regs R h=>?_
 unfold tRkey at h
 split at h
 case h_2=>exact h.elim
 rename_i _ k
 obtain ⟨V,rfl,hV,⟨h1,hl,hs,hg⟩,h⟩:=onV_elim h
 rw [h1]
 refine ⟨V.p.lk,?_⟩
 obtain ⟨r0,r1,r2,r3,r4,r5,hr⟩:=list6 hl
 have e:V=V.lks [r0,r1,r2,r3,r4,r5]:=by unfold Rv.lks; rw [← hr]
 have hh:=rkey_in (R:=R) hl hs hg h
 rw [hr] at hh ⊢
 have t:=rkey_tree V r0 r1 r2 r3 r4 r5 k R
 rw [← e] at t
 exact (Box.of_eq t hh).out
noncomputable def t_rline0:Con:=fun args regs=>nfun Tryz.prog GL (fun _=>Option.none) [] Tryz.f65 args regs
theorem k_rline0:Known Tryz.prog GL 65 t_rline0:=known_inl Tryz.func65 rfl (by kernel_rfl) mixed con_none (by kernel_rfl)
def hexD:ByteArray:=⟨#[48,49,50,51,52,53,54,55,56,57,97,98,99,100,101,102]⟩
def qd (a:Int):Int:=(IntKind.i64.wrap (a.tmod 10+10)).tmod 10
noncomputable def nib4 (p:Int):Int:=bits .and .i64 (shrv .i64 p 4) 15
noncomputable def nib0 (p:Int):Int:=bits .and .i64 p 15
noncomputable def line0 (m p:Int):ByteArray:=⟨#[80]⟩++strOfNums [byteAt hexD (qd m).toNat,byteAt hexD (nib4 p).toNat,byteAt hexD (nib0 p).toNat]++⟨#[32,32,32,32]⟩
noncomputable def oS (s:ByteArray):Out:=⟨.v (.c (.s s)),[]⟩
noncomputable def rlT (m p:Int) (R:Out→Prop):Prop:=sel (decide (0≤qd m)) (sel (decide (qd m<16)) (sel (decide (0≤nib4 p)) (sel (decide (nib4 p<16)) (sel (decide (0≤nib0 p)) (sel (decide (nib0 p<16)) (R (oS (line0 m p))) False) False) False) False) False) False
theorem rline_tree (m p u:Int) (su:List Int) (h r x:Bool) (R:Out→Prop):(t_rline0 [.ag (Rm.nc ⟨m,p,u,[],su,false,h,r,x⟩)] []).run R=rlT m p R:=by kernel_rfl
noncomputable def tLine0:Con:=fun args regs=>match args,regs with
 | [.ag xs],[]=>(match rdRm xs with
   | some s=>.must (args=[.ag s.nc]∧s.sub=false∧s.ds=[]) (.ret (oS (line0 s.mg s.pn)))
   | none=>.fail)
 | _,_=>.fail
theorem qd_in (m:Int):0≤qd m∧qd m<16:=by
 have hk:∀ k<19,0≤((Int.ofNat k+1).tmod 10)∧((Int.ofNat k+1).tmod 10)<16:=by decide
 have h1:=Int.tmod_lt_of_pos m (show (0:Int)<10 by decide)
 have h2 : -10<m.tmod 10:=by
  have:=Int.lt_tmod_of_pos m (show (0:Int)<10 by decide)
  omega
 unfold qd
 have hw:IntKind.i64.wrap (m.tmod 10+10)=m.tmod 10+10:=by rw [IntKind.wrap_i64]; omega
 rw [hw]
 have:=hk (m.tmod 10+9).toNat (by omega)
 have e:Int.ofNat (m.tmod 10+9).toNat+1=m.tmod 10+10:=by show (((m.tmod 10+9).toNat:Nat):Int)+1=_; omega
 rw [e] at this
 exact this
theorem nib_in (n:Int):0≤bits .and .i64 n 15∧bits .and .i64 n 15<16:=by
 have e:bits .and .i64 n 15=n % 16:=and_mask64 _ 4 (by decide)
 rw [e]
 omega
attribute [local irreducible] t_rline0 in
theorem kLine0:Known Tryz.prog GL 65 tLine0:=by
 refine k_rline0.less fun args regs R h=>?_
 unfold tLine0 at h
 split at h
 case h_2=>exact h.elim
 split at h
 case h_2=>exact h.elim
 rename_i s _
 obtain ⟨⟨h1,h2,h3⟩,h⟩:=h
 rw [h1]
 obtain ⟨m,p,u,ds,su,sub,hd,rv,mx⟩:=s
 simp only at h2 h3
 subst h2 h3
 refine (Box.of_eq (rline_tree m p u su hd rv mx R) ?_).out
 have q1:=qd_in m
 have q2:=nib_in (shrv .i64 p 4)
 have q3:=nib_in p
 exact sT (decide_eq_true q1.1) (sT (decide_eq_true q1.2) (sT (decide_eq_true q2.1) (sT (decide_eq_true q2.2) (sT (decide_eq_true q3.1) (sT (decide_eq_true q3.2) h)))))
noncomputable def c_stat0:FuncId→Option Con:=conOf [(65,tLine0),(16,tPgs)]
theorem kc_stat0:∀ f T,c_stat0 f=some T→Known Tryz.prog GL f T:=(Knowns.cons kLine0 (.cons kPgs .nil)).get
noncomputable def t_stat0:Con:=fun args regs=>nfun Tryz.prog GL c_stat0 [] Tryz.f25 args regs
theorem k_stat0:Known Tryz.prog GL 25 t_stat0:=known_inl Tryz.func25 rfl (by kernel_rfl) mixed kc_stat0 (by kernel_rfl)
noncomputable def stNC (V:Rv) (l:ByteArray):List NC:=[.i .i64 V.s.mg,.i .i64 V.s.pn,.i .i64 V.s.sb,.b V.fd,.i .i64 V.p.mg,.i .i64 V.p.pn,.i .i64 V.p.sb,.s l,.i .i64 (kyRows (V.m.st.L.map kyP)).length,.i .i64 V.tk]
noncomputable def stat0T (V:Rv) (R:Out→Prop):Prop:=([NV.ag V.s.nc]=[.ag V.s.nc]∧V.s.sub=false∧V.s.ds=[])∧((inM V.m=inM (mac.bk V.m)∧(mac.bk V.m).ok)∧(some (mcG 2 V.m.v V.m.inf)=some (mcG 2 V.bk.m.v V.bk.m.inf)∧(some (stN 3 V.m.st.sto)=some (stN 3 V.bk.m.st.sto)∧(some (ac.mpReg V.m.st.sto.m)=some (ac.mpReg V.bk.m.st.sto.m)∧(some (ordReg (kyRows V.m.st.sto.l))=some (ordReg (kyRows V.bk.m.st.sto.l))∧R ⟨.v (.ag (stNC V.bk (line0 V.s.mg V.s.pn))),(inV V).map some⟩)))))
theorem stat0_tree (V:Rv) (R:Out→Prop):(t_stat0 [.c (.p 0 0 0)] (inV V)).run R=stat0T V R:=by kernel_rfl
noncomputable def oSv (V:Rv) (l:ByteArray):Out:=⟨.v (.ag [.i .i64 V.s.mg,.i .i64 V.s.pn,.i .i64 V.s.sb,.b V.fd,.i .i64 V.p.mg,.i .i64 V.p.pn,.i .i64 V.p.sb,.s l,.i .i64 V.m.st.L.length,.i .i64 V.tk]),(inV V).map some⟩
noncomputable def tStat0:Con:=fun args regs=>match args with
 | [.c (.p 0 0 0)]=>onV regs fun V=>.must (V.s.sub=false∧V.s.ds=[]) (.ret (oSv V (line0 V.s.mg V.s.pn)))
 | _=>.fail
attribute [local irreducible] t_stat0 in
theorem kStat0:Known Tryz.prog GL 25 tStat0:=by
 refine k_stat0.less fun args regs R h=>?_
 unfold tStat0 at h
 split at h
 case h_2=>exact h.elim
 obtain ⟨V,rfl,hV,hs,h⟩:=onV_elim h
 refine (Box.of_eq (stat0_tree V R) ?_).out
 unfold stat0T
 rw [V.bk_eq hV.1,mac.bk_eq _ hV.1]
 refine ⟨⟨rfl,hs⟩,⟨rfl,hV⟩,rfl,rfl,rfl,rfl,?_⟩
 have e:(kyRows (V.m.st.L.map kyP)).length=V.m.st.L.length:=by rw [kyRows_length,List.length_map]
 have h:R (oSv V (line0 V.s.mg V.s.pn)):=h
 unfold oSv at h
 unfold stNC
 rw [e]
 exact h
noncomputable def c_f19:FuncId→Option Con:=conOf [(21,tNewV),(25,tStat0),(60,t_tmach)]
theorem kc_f19:∀ f T,c_f19 f=some T→Known Tryz.prog GL f T:=(Knowns.cons kNewV (.cons kStat0 (.cons k_tmach .nil))).get
noncomputable def t_f19:Con:=fun args regs=>nfun Tryz.prog GL c_f19 [] Tryz.f20 args regs
theorem k_f19:Known Tryz.prog GL 20 t_f19:=known_inl Tryz.func20 rfl (by kernel_rfl) mixed kc_f19 (by kernel_rfl)
noncomputable def f19T (R:Out→Prop):Prop:=[NV.c (.i .i64 1)]=[NV.c (.i .i64 1)]∧((inV (rvN 1)=inV (rvN 1).bk∧(rvN 1).bk.m.ok)∧(((rvN 1).bk.s.sub=false∧(rvN 1).bk.s.ds=[])∧R ⟨.v (.c (.b true)),[]⟩))
theorem f19_tree (R:Out→Prop):(t_f19 [] []).run R=f19T R:=by kernel_rfl
noncomputable def tF19:Con:=fun args regs=>match args,regs with
 | [],[]=>.ret ⟨.v (.c (.b true)),[]⟩
 | _,_=>.fail
attribute [local irreducible] t_f19 in
theorem kF19:Known Tryz.prog GL 20 tF19:=by
 refine k_f19.less fun args regs R h=>?_
 unfold tF19 at h
 split at h
 case h_2=>exact h.elim
 have hg:=mcN_good (n:=1) (by omega) (by omega)
 refine (Box.of_eq (f19_tree R) ?_).out
 unfold f19T
 rw [Rv.bk_eq _ hg.far]
 exact ⟨rfl,⟨rfl,hg.ok⟩,⟨rfl,rfl⟩,h⟩
end rv
namespace bm
open sto (sT sF)
open Go Go.Nx pk ln hd lb sv
theorem byT {x:Int} (h:0≤x∧x<256):∃ m,m<256∧x=Int.ofNat m:=⟨x.toNat,by omega,by show x=((x.toNat:Nat):Int); omega⟩
noncomputable def c_rodd:FuncId→Option Con:=conOf [(135,ones.tOnes)]
theorem kc_rodd:∀ f T,c_rodd f=some T→Known Tryz.prog GL f T:=(Knowns.cons (known_gl ones.kOnes) .nil).get
noncomputable def t_rodd:Con:=fun args regs=>nfun Tryz.prog GL c_rodd [] Tryz.f136 args regs
theorem k_rodd:Known Tryz.prog GL 136 t_rodd:=known_inl Tryz.func136 rfl (by kernel_rfl) mixed kc_rodd (by kernel_rfl)
theorem rodd_tree (b:Int) (R:Out→Prop):(t_rodd [.c (.i .u8 b)] []).run R=((0≤IntKind.i64.wrap b∧IntKind.i64.wrap b<9223372036854775808)∧R (oB ((ones.bl (IntKind.i64.wrap b).toNat:Int).tmod 2==1))):=by kernel_rfl
theorem rodd_all:∀ m<256,ones.par m 8=odd (Int.ofNat m):=by decide +kernel
noncomputable def tROdd:Con:=fun args regs=>match args,regs with
 | [.c (.i .u8 b)],[]=>.must (0≤b∧b<256) (.ret (oB (odd b)))
 | _,_=>.fail
theorem rodd_in {b:Int} (h:0≤b∧b<256):((ones.bl (IntKind.i64.wrap b).toNat:Int).tmod 2==1)=odd b:=by
 obtain ⟨m,hm,rfl⟩:=byT h
 have hw:IntKind.i64.wrap (Int.ofNat m)=Int.ofNat m:=by rw [IntKind.wrap_i64]; show ((m:Int)+_) % _ - _=(m:Int); omega
 rw [hw,show (Int.ofNat m).toNat=m from rfl,← rodd_all m hm]
 have hp:=ones.bl_par 8 m (by omega)
 rw [Int.tmod_eq_emod_of_nonneg (by omega)]
 cases h2:ones.par m 8 with
 | true=>
   rw [h2] at hp
   have hp:ones.bl m % 2=1:=hp
   rw [beq_iff_eq]
   omega
 | false=>
   rw [h2] at hp
   have hp:ones.bl m % 2=0:=hp
   rw [beq_eq_false_iff_ne]
   omega
theorem kROdd:Known Tryz.prog GL 136 tROdd:=by
 refine k_rodd.less fun args regs R h=>Box.out ?_
 unfold tROdd at h
 split at h
 case h_2=>exact h.elim
 rename_i b
 have h1:=h.1
 have h2:R (oB (odd b)):=h.2
 clear h
 refine Box.of_eq (rodd_tree b R) ⟨?_,by rw [rodd_in h1]; exact h2⟩
 rw [IntKind.wrap_i64]
 omega
noncomputable def c_rmk:FuncId→Option Con:=conOf [(136,tROdd)]
theorem kc_rmk:∀ f T,c_rmk f=some T→Known Tryz.prog GL f T:=(Knowns.cons kROdd .nil).get
noncomputable def t_rmk:Con:=fun args regs=>nfun Tryz.prog GL c_rmk [] Tryz.f95 args regs
theorem k_rmk:Known Tryz.prog GL 95 t_rmk:=known_inl Tryz.func95 rfl (by kernel_rfl) mixed kc_rmk (by kernel_rfl)
theorem rmk_tree (c:Int) (R:Out→Prop):(t_rmk [.c (.i .u8 c)] []).run R=((0≤aU c 127∧aU c 127<256)∧sel (odd (aU c 127)) (R ⟨.v (.c (.i .u8 (aU c 127))),[]⟩) (R ⟨.v (.c (.i .u8 (oU (aU c 127) 128))),[]⟩)):=by kernel_rfl
theorem kRMkO:Known Tryz.prog GL 95 tMkO:=by
 refine k_rmk.less fun args regs R h=>Box.out ?_
 unfold tMkO at h
 split at h
 case h_2=>exact h.elim
 rename_i c
 have h2:R ⟨.v (.c (.i .u8 (mkO c))),[]⟩:=h
 clear h
 refine Box.of_eq (rmk_tree c R) ⟨aU_in _ _,?_⟩
 unfold mkO at h2
 cases hc:odd (aU c 127) with
 | true=>rw [hc] at h2; exact selT rfl h2
 | false=>rw [hc] at h2; exact selF rfl h2
noncomputable abbrev f_odd:=Tryz.f41
noncomputable def c_odd:FuncId→Option Con:=conOf [(95,tMkO)]
theorem kc_odd:∀ f T,c_odd f=some T→Known Tryz.prog GL f T:=(Knowns.cons kRMkO .nil).get
noncomputable def X_odd:Cx:={P:=Tryz.prog,con:=c_odd,glob:=GL,m:=0,loops:=[]}
def arU (xs:List Int):Reg:=⟨1,5,.ints .u8 xs⟩
noncomputable def ouC:Option (List Int × Nat)→NC
 | none=>.sn
 | some x=>.h 0 0 x.2
noncomputable def ouR:Option (List Int × Nat)→List (Option Reg)
 | none=>[]
 | some x=>[some (arU x.1)]
noncomputable def sOd (bs:List Int) (n i:Int) (o:Option (List Int × Nat)):St:={fr:=frame 27 [(0,.v (.c (.l .u8 bs))),(1,.v (.c (.i .i64 n))),(4,.v (.c .sn)),(5,.v (.c (ouC o))),(6,.v (.c (.i .i64 i)))],rg:=ouR o}
noncomputable def dOd (o:Option (List Int × Nat)):St:={fr:=frame 27 [(5,.v (.c (ouC o)))],rg:=ouR o}
noncomputable def rOd (s:St):Tr RO:=roundT X_odd 0 [0,1,4,5,6] [5] (bodyLoop f_odd 0) s
def ixU (i:Int) (l:Nat) (A:Prop):Prop:=sel (decide (0≤i)) (sel (decide (i<(l:Int))) (sel (decide (i.toNat<l)) A False) False) False
def apU (m:Nat) (A:Prop):Prop:=sel (decide (0+m≤m)) (sel (decide ((m+1) * bytesT Tryz.prog 5≤140737488355328)) (sel (decide (m+1≤9223372036854775807)) A False) False) False
noncomputable def nxOd (bs:List Int) (n i:Int) (R:RO→Prop) (xs:List Int) (m:Nat):Prop:=R (.next (sOd bs n (IntKind.i64.wrap (i+1)) (some (xs,m))))
theorem od_0 (bs:List Int) (n i:Int) (R:RO→Prop):(rOd (sOd bs n i none)).run R =
 sel (decide (i<n)) (sel (decide (i<(bs.length:Int))) (ixU i bs.length (nxOd bs n i R [mkO (bs.getD i.toNat 0)] 1)) (nxOd bs n i R [mkO 32] 1)) (R (.done .normal (dOd none))):=by kernel_rfl
theorem od_1 (bs:List Int) (n i:Int) (xs:List Int) (R:RO→Prop):(rOd (sOd bs n i (some (xs,xs.length)))).run R =
 sel (decide (i<n)) (sel (decide (i<(bs.length:Int))) (ixU i bs.length (apU xs.length (nxOd bs n i R (List.take xs.length xs++[mkO (bs.getD i.toNat 0)]) (xs.length+1)))) (apU xs.length (nxOd bs n i R (List.take xs.length xs++[mkO 32]) (xs.length+1)))) (R (.done .normal (dOd (some (xs,xs.length))))):=by kernel_rfl
noncomputable def odV (bs:List Int) (k:Nat):List Int:=(List.range k).map fun i=>mkO (bs.getD i 32)
theorem odV_len (bs:List Int) (k:Nat):(odV bs k).length=k:=by unfold odV; rw [List.length_map,List.length_range]
theorem odV_succ (bs:List Int) (k:Nat):odV bs (k+1)=odV bs k++[mkO (bs.getD k 32)]:=by unfold odV; rw [List.range_succ,List.map_append]; rfl
noncomputable def oOd (bs:List Int):Nat→Option (List Int × Nat)
 | 0=>none
 | k+1=>some (odV bs (k+1),k+1)
theorem bytesU:bytesT Tryz.prog 5=1:=by kernel_rfl
theorem apU_in {m:Nat} {A:Prop} (hm:m≤1000) (h:A):apU m A:=by
 unfold apU
 rw [bytesU]
 exact sT (decide_eq_true (by omega)) (sT (decide_eq_true (by omega)) (sT (decide_eq_true (by omega)) h))
theorem ixU_in {i:Int} {l:Nat} {A:Prop} (h:0≤i∧i<(l:Int)) (hA:A):ixU i l A:=sT (decide_eq_true h.1) (sT (decide_eq_true h.2) (sT (decide_eq_true (by omega)) hA))
def rdOd (s:St):Option (List Int × Int):=match s.fr[(0:Nat)]?,s.fr[(1:Nat)]? with
 | some (.v (.c (.l _ bs))),some (.v (.c (.i _ n)))=>some (bs,n)
 | _,_=>none
noncomputable def lOd (s:St):Tr (NExit × St):=match rdOd s with
 | some x=>.must (s=sOd x.1 x.2 0 none∧0<x.2∧x.2≤100) (.ret (.normal,dOd (some (odV x.1 x.2.toNat,x.2.toNat))))
 | none=>.fail
structure AOd where
 bs:List Int
 n:Int
 k:Nat
noncomputable def hOd (a:AOd):St:=sOd a.bs a.n (a.k:Int) (oOd a.bs a.k)
def preOd (a:AOd) (R:NExit × St→Prop):Prop:=((a.k:Int)≤a.n∧0<a.n∧a.n≤100)∧R (.normal,dOd (some (odV a.bs a.n.toNat,a.n.toNat)))
def nxtOd (a:AOd) (R:NExit × St→Prop) (o:RO):Prop:=match o with
 | .next s=>∃ y,s=hOd y∧(y.n - y.k).toNat<(a.n - a.k).toNat∧preOd y R
 | .done e s=>R (e,s)
theorem getD_in {bs:List Int} {k:Nat} (h:k<bs.length):bs.getD k 32=bs.getD k 0:=by
 rw [List.getD_eq_getElem?_getD,List.getD_eq_getElem?_getD,List.getElem?_eq_getElem h]; rfl
theorem getD_out {bs:List Int} {k:Nat} (h:¬ k<bs.length):bs.getD k 32=32:=by
 rw [List.getD_eq_getElem?_getD,List.getElem?_eq_none (by omega)]; rfl
theorem od_in (a:AOd) (R:NExit × St→Prop) (h:preOd a R):Box ((rOd (hOd a)).run (nxtOd a R)):=by
 obtain ⟨bs,n,k⟩:=a
 obtain ⟨⟨h1,h2,h3⟩,hR⟩:=h
 simp only at h1 h2 h3 hR
 have hw:IntKind.i64.wrap ((k:Int)+1)=((k+1:Nat):Int):=by rw [IntKind.wrap_i64]; omega
 have nx:∀ xs m,(k:Int)<n→xs=odV bs (k+1)→m=k+1→nxOd bs n (k:Int) (nxtOd ⟨bs,n,k⟩ R) xs m:=by
  rintro xs m hk rfl rfl
  unfold nxOd
  rw [hw]
  exact ⟨⟨bs,n,k+1⟩,rfl,by simp only; omega,⟨by simp only; omega,h2,h3⟩,hR⟩
 match k,h1,hw,nx with
 | 0,h1,hw,nx=>
   have e:odV bs 1=[mkO (bs.getD 0 32)]:=rfl
   refine Box.of_eq (od_0 bs n 0 _) (sT (decide_eq_true h2) ?_)
   by_cases hb:0<bs.length
   ·exact sT (decide_eq_true (by omega)) (ixU_in ⟨by omega,by omega⟩ (nx _ _ h2 (by rw [e,getD_in hb]; rfl) rfl))
   ·exact sF (decide_eq_false (by omega)) (nx _ _ h2 (by rw [e,getD_out hb]) rfl)
 | k+1,h1,hw,nx=>
   have hl:=odV_len bs (k+1)
   have e:=odV_succ bs (k+1)
   have ha:hOd ⟨bs,n,k+1⟩=sOd bs n ((k+1:Nat):Int) (some (odV bs (k+1),(odV bs (k+1)).length)):=by
    show sOd bs n _ (some (odV bs (k+1),k+1))=_
    rw [hl]
   rw [ha]
   refine Box.of_eq (od_1 bs n _ _ _) ?_
   by_cases hk:((k+1:Nat):Int)<n
   ·refine sT (decide_eq_true hk) ?_
    rw [List.take_length,hl]
    by_cases hb:k+1<bs.length
    ·exact sT (decide_eq_true (by omega)) (ixU_in ⟨by omega,by omega⟩ (apU_in (by omega) (nx _ _ hk (by rw [e,getD_in hb]; rfl) rfl)))
    ·exact sF (decide_eq_false (by omega)) (apU_in (by omega) (nx _ _ hk (by rw [e,getD_out hb]) rfl))
   ·refine sF (decide_eq_false hk) ?_
    have hn:n.toNat=k+1:=by omega
    rw [hn] at hR
    rw [hl]
    exact hR
theorem loop_od:LOk Tryz.prog GL 0 0 (bodyLoop f_odd 0) lOd:=by
 refine loop_ok (X:=X_odd) kc_odd mixed (LAll.none (by kernel_rfl)) [0,1,4,5,6] [5] hOd (fun a=>(a.n - a.k).toNat) preOd ?_ ?_
 ·intro s R h
  unfold lOd at h
  split at h
  case h_2=>exact h.elim
  rename_i x hx
  obtain ⟨⟨hs,h1,h2⟩,hR⟩:=h
  exact ⟨⟨x.1,x.2,0⟩,hs,⟨by simp only; omega,h1,h2⟩,hR⟩
 ·intro a R h
  exact Tr.run_mono _ (fun o ho=>ho) (od_in a R h).out
noncomputable def t_odd0:Con:=fun args regs=>if regs.length=0 then nfun Tryz.prog GL c_odd [(0,[0,1,4,5,6],lOd)] f_odd args regs else .fail
theorem k_odd0:Known Tryz.prog GL 41 t_odd0:=known_loops 0 Tryz.func41 rfl (by kernel_rfl) mixed kc_odd (LAll.one (id:=0) (body:=bodyLoop f_odd 0) (by kernel_rfl) rfl loop_od)
noncomputable def t_oddC:Con:=softT [] [0] [] [] 0 t_odd0
theorem k_oddC:Known Tryz.prog GL 41 t_oddC:=k_odd0.soft [] [0] [] [] 0
noncomputable def oLu (xs:List Int):Out:=⟨.v (.c (.l .u8 xs)),[]⟩
theorem odd_tree (bs:List Int) (n:Int) (R:Out→Prop):(t_oddC [.c (.l .u8 bs),.c (.i .i64 n)] []).run R=((sOd bs n 0 none=sOd bs n 0 none∧0<n∧n≤100)∧(n.toNat=(odV bs n.toNat).length∧R (oLu (odV bs n.toNat)))):=by kernel_rfl
noncomputable def tOddB:Con:=fun args regs=>match args,regs with
 | [.c (.l _ bs),.c (.i _ n)],[]=>.must (args=[.c (.l .u8 bs),.c (.i .i64 n)]∧0<n∧n≤100) (.ret (oLu (odV bs n.toNat)))
 | _,_=>.fail
attribute [local irreducible] t_oddC in
theorem kOddB:Known Tryz.prog GL 41 tOddB:=by
 refine k_oddC.less fun args regs R h=>?_
 unfold tOddB at h
 split at h
 case h_2=>exact h.elim
 rename_i _ bs _ n
 obtain ⟨⟨h1,h2,h3⟩,h⟩:=h
 rw [h1]
 exact (Box.of_eq (odd_tree bs n R) ⟨⟨rfl,h2,h3⟩,(odV_len _ _).symm,h⟩).out
open pge (Hx)
noncomputable def c_pl0:FuncId→Option Con:=conOf [(8,num.tNumV)]
theorem kc_pl0:∀ f T,c_pl0 f=some T→Known Tryz.prog GL f T:=(Knowns.cons (known_gl num.kNumV) .nil).get
noncomputable def t_pl0:Con:=fun args regs=>nfun Tryz.prog GL c_pl0 [] Tryz.f22 args regs
theorem k_pl0:Known Tryz.prog GL 22 t_pl0:=known_inl Tryz.func22 rfl (by kernel_rfl) mixed kc_pl0 (by kernel_rfl)
noncomputable def t_rright:Con:=fun args regs=>nfun Tryz.prog GL (fun _=>Option.none) [] Tryz.f92 args regs
theorem k_rright:Known Tryz.prog GL 92 t_rright:=known_inl Tryz.func92 rfl (by kernel_rfl) mixed con_none (by kernel_rfl)
noncomputable def c_rplaced:FuncId→Option Con:=conOf [(94,tRPut)]
theorem kc_rplaced:∀ f T,c_rplaced f=some T→Known Tryz.prog GL f T:=(Knowns.cons kg_rput .nil).get
noncomputable def t_rplaced:Con:=fun args regs=>nfun Tryz.prog GL c_rplaced [] Tryz.f93 args regs
theorem k_rplaced:Known Tryz.prog GL 93 t_rplaced:=known_inl Tryz.func93 rfl (by kernel_rfl) mixed kc_rplaced (by kernel_rfl)
noncomputable def c_rpkd:FuncId→Option Con:=conOf [(94,tRPut)]
theorem kc_rpkd:∀ f T,c_rpkd f=some T→Known Tryz.prog GL f T:=(Knowns.cons kg_rput .nil).get
noncomputable def t_rpkd:Con:=fun args regs=>nfun Tryz.prog GL c_rpkd [] Tryz.f42 args regs
theorem k_rpkd:Known Tryz.prog GL 42 t_rpkd:=known_inl Tryz.func42 rfl (by kernel_rfl) mixed kc_rpkd (by kernel_rfl)
noncomputable abbrev f_hb:=Tryz.f40
noncomputable def c_hb:FuncId→Option Con:=conOf [(92,t_rright),(93,t_rplaced),(94,tRPut),(42,t_rpkd)]
theorem kc_hb:∀ f T,c_hb f=some T→Known Tryz.prog GL f T:=(Knowns.cons k_rright (.cons k_rplaced (.cons kg_rput (.cons k_rpkd .nil)))).get
noncomputable def X_hb:Cx:={P:=Tryz.prog,con:=c_hb,glob:=GL,m:=0,loops:=[]}
def alB (h:Hx):Nat→Bool
 | 0=>h.c0
 | 1=>h.c1
 | 2=>h.c2
 | 3=>h.c3
 | 4=>h.c4
 | 5=>h.c5
 | 6=>h.c6
 | 7=>h.c7
 | 8=>h.c8
 | 9=>h.c9
 | 10=>h.c10
 | _=>false
def pw (k:Nat):Int:=Int.ofNat (2 ^ k)
noncomputable def alV (h:Hx):Nat→Int
 | 0=>0
 | k+1=>bif alB h k then bits .or .i64 (alV h k) (pw k) else alV h k
noncomputable def hxR (h:Hx):Reg:=⟨15,48,.cells h.nc⟩
noncomputable def sHB (xs:List Int) (h:Hx) (all:Int) (i:Int):St:={fr:=frame 55 [(1,.v (.c (.l .u8 xs))),(2,.v (.c (.p 0 0 0))),(4,.v (.c .sn)),(5,.v (.c (.i .i64 0))),(6,.v (.c (.i .i64 all))),(7,.v (.c (.i .i64 i)))],rg:=[some (hxR h)]}
noncomputable def dHB (xs:List Int) (h:Hx) (all:Int):St:={fr:=frame 55 [(1,.v (.c (.l .u8 xs))),(2,.v (.c (.p 0 0 0))),(4,.v (.c .sn)),(5,.v (.c (.i .i64 0))),(6,.v (.c (.i .i64 all)))],rg:=[some (hxR h)]}
noncomputable def rHB (s:St):Tr RO:=roundT X_hb 0 [1,2,4,5,6,7] [1,2,4,5,6] (bodyLoop f_hb 0) s
noncomputable def nHB (xs:List Int) (h:Hx) (all:Int) (k:Nat) (R:RO→Prop):Prop:=sel (alB h k) (R (.next (sHB xs h (bits .or .i64 all (pw k)) (Int.ofNat (k+1))))) (R (.next (sHB xs h all (Int.ofNat (k+1)))))
theorem hb_0 (xs:List Int) (h:Hx) (all:Int) (R:RO→Prop):(rHB (sHB xs h all 0)).run R=nHB xs h all 0 R:=by kernel_rfl
theorem hb_1 (xs:List Int) (h:Hx) (all:Int) (R:RO→Prop):(rHB (sHB xs h all 1)).run R=nHB xs h all 1 R:=by kernel_rfl
theorem hb_2 (xs:List Int) (h:Hx) (all:Int) (R:RO→Prop):(rHB (sHB xs h all 2)).run R=nHB xs h all 2 R:=by kernel_rfl
theorem hb_3 (xs:List Int) (h:Hx) (all:Int) (R:RO→Prop):(rHB (sHB xs h all 3)).run R=nHB xs h all 3 R:=by kernel_rfl
theorem hb_4 (xs:List Int) (h:Hx) (all:Int) (R:RO→Prop):(rHB (sHB xs h all 4)).run R=nHB xs h all 4 R:=by kernel_rfl
theorem hb_5 (xs:List Int) (h:Hx) (all:Int) (R:RO→Prop):(rHB (sHB xs h all 5)).run R=nHB xs h all 5 R:=by kernel_rfl
theorem hb_6 (xs:List Int) (h:Hx) (all:Int) (R:RO→Prop):(rHB (sHB xs h all 6)).run R=nHB xs h all 6 R:=by kernel_rfl
theorem hb_7 (xs:List Int) (h:Hx) (all:Int) (R:RO→Prop):(rHB (sHB xs h all 7)).run R=nHB xs h all 7 R:=by kernel_rfl
theorem hb_8 (xs:List Int) (h:Hx) (all:Int) (R:RO→Prop):(rHB (sHB xs h all 8)).run R=nHB xs h all 8 R:=by kernel_rfl
theorem hb_9 (xs:List Int) (h:Hx) (all:Int) (R:RO→Prop):(rHB (sHB xs h all 9)).run R=nHB xs h all 9 R:=by kernel_rfl
theorem hb_10 (xs:List Int) (h:Hx) (all:Int) (R:RO→Prop):(rHB (sHB xs h all 10)).run R=nHB xs h all 10 R:=by kernel_rfl
theorem hb_11 (xs:List Int) (h:Hx) (all:Int) (R:RO→Prop):(rHB (sHB xs h all 11)).run R=R (.done .normal (dHB xs h all)):=by kernel_rfl
theorem hb_k (xs:List Int) (h:Hx) (all:Int) (R:RO→Prop):∀ k<11,(rHB (sHB xs h all (Int.ofNat k))).run R=nHB xs h all k R
 | 0,_=>hb_0 xs h all R
 | 1,_=>hb_1 xs h all R
 | 2,_=>hb_2 xs h all R
 | 3,_=>hb_3 xs h all R
 | 4,_=>hb_4 xs h all R
 | 5,_=>hb_5 xs h all R
 | 6,_=>hb_6 xs h all R
 | 7,_=>hb_7 xs h all R
 | 8,_=>hb_8 xs h all R
 | 9,_=>hb_9 xs h all R
 | 10,_=>hb_10 xs h all R
 | k+11,hk=>absurd hk (by omega)
def rdHB (s:St):Option (List Int × Hx):=match s.fr[(1:Nat)]?,s.rg[(0:Nat)]? with
 | some (.v (.c (.l _ xs))),some (some {body:=.cells [.i _ mg,.i _ pn,.i _ sb,.b c0,.b c1,.b c2,.b c3,.b c4,.b c5,.b c6,.b c7,.b c8,.b c9,.b c10,.i _ op],..})=>some (xs,⟨mg,pn,sb,c0,c1,c2,c3,c4,c5,c6,c7,c8,c9,c10,op⟩)
 | _,_=>none
noncomputable def lHB (s:St):Tr (NExit × St):=match rdHB s with
 | some x=>.must (s=sHB x.1 x.2 0 0) (.ret (.normal,dHB x.1 x.2 (alV x.2 11)))
 | none=>.fail
structure AHB where
 xs:List Int
 h:Hx
 k:Nat
noncomputable def hHB (a:AHB):St:=sHB a.xs a.h (alV a.h a.k) (Int.ofNat a.k)
def preHB (a:AHB) (R:NExit × St→Prop):Prop:=a.k≤11∧R (.normal,dHB a.xs a.h (alV a.h 11))
def nxtHB (a:AHB) (R:NExit × St→Prop) (o:RO):Prop:=match o with
 | .next s=>∃ y,s=hHB y∧11 - y.k<11 - a.k∧preHB y R
 | .done e s=>R (e,s)
theorem hb_in (a:AHB) (R:NExit × St→Prop) (h:preHB a R):Box ((rHB (hHB a)).run (nxtHB a R)):=by
 obtain ⟨xs,h',k⟩:=a
 obtain ⟨h1,hR⟩:=h
 simp only at h1 hR
 by_cases hk:k<11
 ·refine Box.of_eq (hb_k xs h' _ _ k hk) ?_
  unfold nHB
  have e:alV h' (k+1)=bif alB h' k then bits .or .i64 (alV h' k) (pw k) else alV h' k:=rfl
  have nx:∀ all,all=alV h' (k+1)→nxtHB ⟨xs,h',k⟩ R (.next (sHB xs h' all (Int.ofNat (k+1)))):=by
   rintro _ rfl
   exact ⟨⟨xs,h',k+1⟩,rfl,by simp only; omega,by simp only [preHB]; exact ⟨by omega,hR⟩⟩
  cases hb:alB h' k with
  | true=>exact sT rfl (nx _ (by rw [e,hb]; rfl))
  | false=>exact sF rfl (nx _ (by rw [e,hb]; rfl))
 ·have hk:k=11:=by omega
  subst hk
  exact Box.of_eq (hb_11 xs h' _ _) hR
theorem loop_hb:LOk Tryz.prog GL 0 0 (bodyLoop f_hb 0) lHB:=by
 refine loop_ok (X:=X_hb) kc_hb mixed (LAll.none (by kernel_rfl)) [1,2,4,5,6,7] [1,2,4,5,6] hHB (fun a=>11 - a.k) preHB ?_ ?_
 ·intro s R h
  unfold lHB at h
  split at h
  case h_2=>exact h.elim
  rename_i x hx
  obtain ⟨hs,hR⟩:=h
  exact ⟨⟨x.1,x.2,0⟩,hs,by simp only; omega,hR⟩
 ·intro a R h
  exact Tr.run_mono _ (fun o ho=>ho) (hb_in a R h).out
noncomputable def t_hb0:Con:=fun args regs=>if regs.length=0 then nfun Tryz.prog GL c_hb [(0,[1,2,4,5,6,7],lHB)] f_hb args regs else .fail
theorem k_hb0:Known Tryz.prog GL 40 t_hb0:=known_loops 0 Tryz.func40 rfl (by kernel_rfl) mixed kc_hb (LAll.one (id:=0) (body:=bodyLoop f_hb 0) (by kernel_rfl) rfl loop_hb)
def e16 (x:Int):Prop:=0≤x∧x<16
noncomputable def pl6 (pn sb b:Int):List Int:=[put (bits .and .i64 pn 15),put (shrv .i64 pn 4),put (bits .and .i64 sb 15),put (bits .or .i64 (bits .and .i64 (shrv .i64 sb 4) 7) (shlv .i64 (bits .and .i64 b 1) 3)),put (bits .and .i64 (shrv .i64 sb 8) 15),put (bits .or .i64 (bits .and .i64 (shrv .i64 sb 12) 3) (shlv .i64 (shrv .i64 b 1) 2))]
noncomputable def m6 (pn sb b:Int) (A:Prop):Prop:=e16 (bits .and .i64 pn 15)∧e16 (shrv .i64 pn 4)∧e16 (bits .and .i64 sb 15)∧e16 (bits .or .i64 (bits .and .i64 (shrv .i64 sb 4) 7) (shlv .i64 (bits .and .i64 b 1) 3))∧e16 (bits .and .i64 (shrv .i64 sb 8) 15)∧e16 (bits .or .i64 (bits .and .i64 (shrv .i64 sb 12) 3) (shlv .i64 (shrv .i64 b 1) 2))∧A
noncomputable def t8 (all:Int):List Int:=[put (bits .and .i64 (shrv .i64 all 3) 15),put (bits .and .i64 (shrv .i64 all 7) 15)]
noncomputable def hdD (h:Hx) (all:Int) (xs:List Int):List Int:=pl6 h.pn h.sb (bits .and .i64 all 7)++t8 all++xs
noncomputable def hdT (h:Hx) (all:Int) (xs:List Int):List Int:=List.take (8+xs.length) (hdD h all xs)
noncomputable def adr (mg row:Int):Int:=bits .or .i64 (mg.tmod 8) (shlv .i64 (bits .and .i64 row 1) 3)
noncomputable def pkB (mg row:Int) (ds:List Int):List Int:=[put (adr mg row),put (shrv .i64 row 1)]++ds
noncomputable def oPr (x:NC) (e:Int):Out:=⟨.tu [.c x,.c (.i .i64 e)],[]⟩
def zz2 (n m:Nat) (A:Prop):Prop:=sel (decide ((n+m) * bytesT Tryz.prog 5≤140737488355328)) (sel (decide (n+m≤9223372036854775807)) A False) False
noncomputable def hbI (h:Hx) (all:Int) (xs:List Int) (R:Out→Prop):Prop:=
 m6 h.pn h.sb (bits .and .i64 all 7) (e16 (bits .and .i64 (shrv .i64 all 3) 15)∧(e16 (bits .and .i64 (shrv .i64 all 7) 15)∧zz2 8 xs.length (sel (decide (0+(8+xs.length)≤(hdD h all xs).length)) (
  e16 (adr h.mg 0)∧(e16 0∧zz2 2 (hdT h all xs).length (2+(hdT h all xs).length=(pkB h.mg 0 (hdT h all xs)).length∧R (oPr (.l .u8 (pkB h.mg 0 (hdT h all xs))) 0)))) False)))
noncomputable def hbT (h:Hx) (xs:List Int) (R:Out→Prop):Prop:=
 sel (decide (h.mg ≥ 1)) (sel (decide (h.mg≤8)) (sel (decide (h.pn ≥ 0)) (sel (decide (h.pn≤255)) (sel (decide (h.sb ≥ 0)) (sel (!(bits .andNot .i64 h.sb 16255==0)) (R (oPr .sn 101)) (sel ((xs.length:Int) !=32) (R (oPr .sn 102))
  (sHB xs h 0 0=sHB xs h 0 0∧hbI h (alV h 11) xs R))) (R (oPr .sn 101))) (R (oPr .sn 101))) (R (oPr .sn 101))) (R (oPr .sn 101))) (R (oPr .sn 101))
noncomputable def t_hbC:Con:=softT [] [0] [] [] 0 t_hb0
theorem k_hbC:Known Tryz.prog GL 40 t_hbC:=k_hb0.soft [] [0] [] [] 0
theorem hbc_tree (h:Hx) (xs:List Int) (R:Out→Prop):(t_hbC [.ag h.nc,.c (.l .u8 xs)] []).run R=hbT h xs R:=by kernel_rfl
def right (m p s:Int):Prop:=(1≤m∧m≤8)∧(0≤p∧p≤255)∧0≤s∧bits .andNot .i64 s 16255=0
theorem adr_all:∀ g<8,∀ r<32,0≤adr (Int.ofNat g+1) (Int.ofNat r)∧adr (Int.ofNat g+1) (Int.ofNat r)<16:=by decide +kernel
theorem adr_in {m r:Int} (hm:1≤m∧m≤8) (hr:0≤r∧r<32):e16 (adr m r):=by
 have:=adr_all (m - 1).toNat (by omega) r.toNat (by omega)
 have e1:Int.ofNat (m - 1).toNat+1=m:=by show (((m - 1).toNat:Nat):Int)+1=m; omega
 have e2:Int.ofNat r.toNat=r:=by show ((r.toNat:Nat):Int)=r; omega
 rw [e1,e2] at this
 exact this
theorem m6_in {p s b:Int} {A:Prop} (hp:0≤p∧p≤255) (hb:0≤b∧b<8) (h:A):m6 p s b A:=by
 have c1:e16 (aI p 15):=by rw [aI_15]; exact ⟨by omega,by omega⟩
 have c2:e16 (shrv .i64 p 4):=by rw [sh_4]; exact ⟨by omega,by omega⟩
 have c3:e16 (aI s 15):=by rw [aI_15]; exact ⟨by omega,by omega⟩
 have c4:e16 (nb3 s (aI b 1)):=by rw [aI_1,nb3_eq _ _ (by omega)]; exact ⟨by omega,by omega⟩
 have c5:e16 (nb4 s):=by rw [nb4_eq]; exact ⟨by omega,by omega⟩
 have c6:e16 (nb5 s (shrv .i64 b 1)):=by rw [sh_1,nb5_eq _ _ (by omega)]; exact ⟨by omega,by omega⟩
 exact ⟨c1,c2,c3,c4,c5,c6,h⟩
theorem zz2_in {n m:Nat} {A:Prop} (h:n+m≤10000) (hA:A):zz2 n m A:=by
 unfold zz2
 rw [bytesU]
 exact sT (decide_eq_true (by omega)) (sT (decide_eq_true (by omega)) hA)
theorem hdD_len (h:Hx) (all:Int) (xs:List Int):(hdD h all xs).length=8+xs.length:=by
 unfold hdD
 rw [List.length_append]
 rfl
theorem hdT_eq (h:Hx) (all:Int) (xs:List Int):hdT h all xs=hdD h all xs:=by
 unfold hdT
 rw [← hdD_len h all xs,List.take_length]
noncomputable def hbV (h:Hx) (xs:List Int):List Int:=pkB h.mg 0 (hdD h (alV h 11) xs)
attribute [local irreducible] zz2 in
theorem hbI_in {h:Hx} {all:Int} {xs:List Int} {R:Out→Prop} (hr:right h.mg h.pn h.sb) (hl:xs.length=32) (hR:R (oPr (.l .u8 (pkB h.mg 0 (hdD h all xs))) 0)):hbI h all xs R:=by
 have ha:0≤bits .and .i64 all 7∧bits .and .i64 all 7<8:=by
  have e:bits .and .i64 all 7=all % 8:=and_mask64 all 3 (by decide)
  rw [e]
  omega
 have k3:e16 (bits .and .i64 (shrv .i64 all 3) 15):=by
  have e:bits .and .i64 (shrv .i64 all 3) 15=(shrv .i64 all 3) % 16:=and_mask64 _ 4 (by decide)
  rw [e]
  exact ⟨by omega,by omega⟩
 have k7:e16 (bits .and .i64 (shrv .i64 all 7) 15):=by
  have e:bits .and .i64 (shrv .i64 all 7) 15=(shrv .i64 all 7) % 16:=and_mask64 _ 4 (by decide)
  rw [e]
  exact ⟨by omega,by omega⟩
 have hd:=hdD_len h all xs
 have hp:(pkB h.mg 0 (hdD h all xs)).length=2+(hdD h all xs).length:=by unfold pkB; rw [List.length_append]; rfl
 have h40:8+xs.length≤10000:=by omega
 have h41:0+(8+xs.length)≤(hdD h all xs).length:=by omega
 have h42:2+(hdD h all xs).length≤10000:=by omega
 have h43:e16 (adr h.mg 0):=adr_in hr.1 ⟨by decide,by decide⟩
 have h44:e16 0:=⟨by decide,by decide⟩
 unfold hbI
 rw [hdT_eq]
 refine m6_in hr.2.1 ha (And.intro k3 (And.intro k7 ?_))
 refine zz2_in (n:=8) (m:=xs.length) h40 ?_
 refine sT (decide_eq_true h41) (And.intro h43 (And.intro h44 ?_))
 exact zz2_in (n:=2) (m:=(hdD h all xs).length) h42 (And.intro hp.symm hR)
noncomputable def tHB:Con:=fun args regs=>match args,regs with
 | [.ag [.i _ mg,.i _ pn,.i _ sb,.b c0,.b c1,.b c2,.b c3,.b c4,.b c5,.b c6,.b c7,.b c8,.b c9,.b c10,.i _ op],.c (.l _ xs)],[]=>
   .must (args=[.ag (Hx.nc ⟨mg,pn,sb,c0,c1,c2,c3,c4,c5,c6,c7,c8,c9,c10,op⟩),.c (.l .u8 xs)]∧right mg pn sb∧xs.length=32) (.ret (oPr (.l .u8 (hbV ⟨mg,pn,sb,c0,c1,c2,c3,c4,c5,c6,c7,c8,c9,c10,op⟩ xs)) 0))
 | _,_=>.fail
attribute [local irreducible] t_hbC in
theorem kHB:Known Tryz.prog GL 40 tHB:=by
 refine k_hbC.less fun args regs R h=>?_
 unfold tHB at h
 split at h
 case h_2=>exact h.elim
 rename_i _ mg _ pn _ sb c0 c1 c2 c3 c4 c5 c6 c7 c8 c9 c10 _ op _ xs
 obtain ⟨⟨h1,hr,hl⟩,h⟩:=h
 rw [h1]
 refine (Box.of_eq (hbc_tree ⟨mg,pn,sb,c0,c1,c2,c3,c4,c5,c6,c7,c8,c9,c10,op⟩ xs R) ?_).out
 unfold hbT
 exact sT (decide_eq_true hr.1.1) (sT (decide_eq_true hr.1.2) (sT (decide_eq_true hr.2.1.1) (sT (decide_eq_true hr.2.1.2) (sT (decide_eq_true hr.2.2.1) (sF (by rw [Bool.not_eq_false',beq_iff_eq]; exact hr.2.2.2) (sF (by rw [bne_eq_false_iff_eq]; omega) ⟨rfl,hbI_in hr hl h⟩))))))
def pgs8:List Int:=[0,1,2,35,153,255,26,16]
def sub4:List Int:=[0,1,2,16255]
def plP (b:Int):Int:=pgs8.getD (b % 8).toNat 0
def plS (c:Int):Int:=sub4.getD (c % 4).toNat 0
def i83 (n:Int) (l:Nat) (A:Prop):Prop:=sel (decide (0≤n)) (sel (decide (n<(l:Int))) (sel (decide (0+n.toNat<l)) A False) False) False
theorem pl_tree (a b c:Int) (R:Out→Prop):(t_pl0 [.c (.i .i64 a),.c (.i .i64 b),.c (.i .i64 c)] []).run R =
 (((0:Int)<3∧(3:Int)<4611686018427387904)∧(((0:Int)<8∧(8:Int)<4611686018427387904)∧i83 (b % 8) 8 (((0:Int)<4∧(4:Int)<4611686018427387904)∧i83 (c % 4) 4
   (R ⟨.v (.ag [.i .i64 (IntKind.i64.wrap (a % 3+1)),.i .i64 (pgs8.getD (0+(b % 8).toNat) 0),.i .i64 (sub4.getD (0+(c % 4).toNat) 0)]),[]⟩)))):=by kernel_rfl
noncomputable def oPl (a b c:Int):Out:=⟨.v (.ag [.i .i64 (a % 3+1),.i .i64 (plP b),.i .i64 (plS c)]),[]⟩
noncomputable def tPl:Con:=fun args regs=>match args,regs with
 | [.c (.i _ a),.c (.i _ b),.c (.i _ c)],[]=>.must (args=[.c (.i .i64 a),.c (.i .i64 b),.c (.i .i64 c)]) (.ret (oPl a b c))
 | _,_=>.fail
theorem i83_in {n:Int} {l:Nat} {A:Prop} (h:0≤n∧n<(l:Int)) (hA:A):i83 n l A:=sT (decide_eq_true h.1) (sT (decide_eq_true h.2) (sT (decide_eq_true (by omega)) hA))
attribute [local irreducible] t_pl0 in
theorem kPl:Known Tryz.prog GL 22 tPl:=by
 refine k_pl0.less fun args regs R h=>?_
 unfold tPl at h
 split at h
 case h_2=>exact h.elim
 rename_i _ a _ b _ c
 obtain ⟨h1,h⟩:=h
 rw [h1]
 refine (Box.of_eq (pl_tree a b c R) ⟨⟨by decide,by decide⟩,⟨by decide,by decide⟩,i83_in ⟨by omega,by show b % 8<8; omega⟩ ⟨⟨by decide,by decide⟩,i83_in ⟨by omega,by show c % 4<4; omega⟩ ?_⟩⟩).out
 have hw:IntKind.i64.wrap (a % 3+1)=a % 3+1:=by rw [IntKind.wrap_i64]; omega
 rw [hw,Nat.zero_add,Nat.zero_add]
 exact h
theorem plP_in (b:Int):0≤plP b∧plP b≤255:=by
 have key:∀ n<8,0≤pgs8.getD n 0∧pgs8.getD n 0≤255:=by decide
 exact key _ (by omega)
theorem pl_right (a b c:Int):right (a % 3+1) (plP b) (plS c):=by
 have key:∀ n<4,0≤sub4.getD n 0∧bits .andNot .i64 (sub4.getD n 0) 16255=0:=by decide +kernel
 have h:=key (c % 4).toNat (by omega)
 exact ⟨⟨by omega,by omega⟩,plP_in b,h.1,h.2⟩
noncomputable abbrev f_by:=Tryz.f12
noncomputable def t_tof:Con:=fun args regs=>nfun Tryz.prog GL (fun _=>Option.none) [] Tryz.f43 args regs
theorem k_tof:Known Tryz.prog GL 43 t_tof:=known_inl Tryz.func43 rfl (by kernel_rfl) mixed con_none (by kernel_rfl)
noncomputable def c_by:FuncId→Option Con:=conOf [(8,num.tNumV),(22,tPl),(41,tOddB),(40,tHB),(42,t_rpkd),(43,t_tof),(44,ts.tRTBg)]
theorem kc_by:∀ f T,c_by f=some T→Known Tryz.prog GL f T:=(Knowns.cons (known_gl num.kNumV) (.cons kPl (.cons kOddB (.cons kHB (.cons k_rpkd (.cons k_tof (.cons ts.kRTBg .nil))))))).get
noncomputable def X_by:Cx:={P:=Tryz.prog,con:=c_by,glob:=GL,m:=0,loops:=[]}
noncomputable def lp1:St→Tr (NExit × St):=unroll X_by 1 [1,2,3,4,5,6] [1,2,3,4,5] (bodyLoop f_by 1) 12
noncomputable def t_by:Con:=fun args regs=>if regs.length=0 then nfun Tryz.prog GL c_by [(1,[1,2,3,4,5,6],lp1)] f_by args regs else .fail
theorem by_loops:(loopsIn (f_by.body.getD .skip)).filter (fun p=>p.1==1)=[(1,bodyLoop f_by 1)]:=by kernel_rfl
theorem by_ranges:rangesIn (f_by.body.getD .skip)=[]:=by kernel_rfl
theorem k_by:Known Tryz.prog GL 12 t_by:=by
 refine known_loops (c:=f_by.body.getD .skip) 0 Tryz.func12 (by kernel_rfl) (by kernel_rfl) mixed kc_by ⟨fun i b hb x hf=>?_,fun i b hb x hf=>?_⟩
 ·have hx:x=(1,[1,2,3,4,5,6],lp1):=by
   have:=List.mem_of_find?_eq_some hf
   simpa using this
  have hi:i=1:=by
   have:=List.find?_some hf
   rw [hx] at this
   exact (eq_of_beq this).symm
  have hm:(i,b)∈(loopsIn (f_by.body.getD .skip)).filter (fun p=>p.1==1):=List.mem_filter.2 ⟨hb,by rw [hi]; rfl⟩
  rw [by_loops,List.mem_singleton] at hm
  cases hm
  rw [hx]
  exact unroll_ok (X:=X_by) kc_by mixed (LAll.none (by kernel_rfl)) [1,2,3,4,5,6] [1,2,3,4,5] 12
 ·rw [by_ranges] at hb
  cases hb
noncomputable def t_byC:Con:=softT [] [0] [(0,0,0,.l .u8 [])] [] 0 t_by
theorem k_byC:Known Tryz.prog GL 12 t_byC:=k_by.soft [] [0] [(0,0,0,.l .u8 [])] [] 0
structure Dv where
 k:Int
 mag:Int
 pg:Int
 sb:Int
 n:Int
 L:List Int
 T:List Int
 W:List Int
 B:List Int
def Dv.nv (d:Dv):NV:=.ag [.i .i64 d.k,.i .i64 d.mag,.i .i64 d.pg,.i .i64 d.sb,.i .i64 d.n,.l .i64 d.L,.l .u8 d.T,.l .u8 d.W,.l .i64 d.B]
noncomputable def cbit (n:Int) (k:Nat):Bool:=bits .and .i64 (shrv .i64 n (Int.ofNat k)) 1==1
noncomputable def hxOf (d:Dv):Hx:=⟨d.mag % 3+1,plP d.pg,plS d.sb,cbit d.n 0,cbit d.n 1,cbit d.n 2,cbit d.n 3,cbit d.n 4,cbit d.n 5,cbit d.n 6,cbit d.n 7,cbit d.n 8,cbit d.n 9,cbit d.n 10,0⟩
def plA (d:Dv):Prop:=[NV.c (.i .i64 d.mag),.c (.i .i64 d.pg),.c (.i .i64 d.sb)]=[NV.c (.i .i64 d.mag),.c (.i .i64 d.pg),.c (.i .i64 d.sb)]
def nmA (m:Int):Prop:=0<m∧m<4611686018427387904
def odA (T:List Int) (n:Int):Prop:=[NV.c (.l .u8 T),.c (.i .i64 n)]=[NV.c (.l .u8 T),.c (.i .i64 n)]∧0<n∧n≤100
theorem by_1 (mag pg sb n:Int) (L T W B:List Int) (R:Out→Prop):(t_byC [Dv.nv ⟨1,mag,pg,sb,n,L,T,W,B⟩] []).run R =
 (plA ⟨1,mag,pg,sb,n,L,T,W,B⟩∧(odA T 32∧(([NV.ag (hxOf ⟨1,mag,pg,sb,n,L,T,W,B⟩).nc,.c (.l .u8 (odV T 32))]=[NV.ag (hxOf ⟨1,mag,pg,sb,n,L,T,W,B⟩).nc,.c (.l .u8 (odV T 32))]∧right (mag % 3+1) (plP pg) (plS sb)∧(odV T 32).length=32)∧R (oLu (hbV (hxOf ⟨1,mag,pg,sb,n,L,T,W,B⟩) (odV T 32)))))):=by kernel_rfl
theorem by_2 (mag pg sb n:Int) (L T W B:List Int) (R:Out→Prop):(t_byC [Dv.nv ⟨2,mag,pg,sb,n,L,T,W,B⟩] []).run R =
 (plA ⟨2,mag,pg,sb,n,L,T,W,B⟩∧(nmA 25∧(odA T 40∧(e16 (adr (mag % 3+1) (n % 25))∧(e16 (shrv .i64 (n % 25) 1)∧(42=42∧R (oLu (pkB (mag % 3+1) (n % 25) (odV T 40))))))))):=by kernel_rfl
noncomputable def opt (n sb:Int):Int:=bits .or .i64 (shlv .i64 (n % 16) 10) (IntKind.i64.wrap ((sb % 5).tdiv 4))
noncomputable def trR (v:Int):List Sc:=[.i (bits .and .i64 v 63),.i (bits .and .i64 (shrv .i64 v 6) 31),.i (bits .and .i64 (shrv .i64 v 11) 127)]
noncomputable def trO (n sb:Int):List (List Sc):=trR (opt n sb)::List.replicate 12 [.i 0,.i 0,.i 0]
noncomputable def cdO (pg:Int):Int:=IntKind.i64.wrap (IntKind.i64.wrap ((pg % 3).tdiv 2) * 3)
noncomputable def trB (mg row cd:Int) (rows:List (List Sc)):List Int:=adr0 mg row::adr1 row::ts.LTg cd rows
theorem by_5 (mag pg sb n:Int) (L T W B:List Int) (R:Out→Prop):(t_byC [Dv.nv ⟨5,mag,pg,sb,n,L,T,W,B⟩] []).run R =
 (plA ⟨5,mag,pg,sb,n,L,T,W,B⟩∧(nmA 16∧(nmA 5∧(nmA 3∧sel (ts.okTB (mag % 3+1) 28 (cdO pg)) (42=42∧R (oLu (trB (mag % 3+1) 28 (cdO pg) (trO n sb)))) (R (oLu [])))))):=by kernel_rfl
theorem by_6 (mag pg sb n:Int) (L T W B:List Int) (R:Out→Prop):(t_byC [Dv.nv ⟨6,mag,pg,sb,n,L,T,W,B⟩] []).run R =
 (plA ⟨6,mag,pg,sb,n,L,T,W,B⟩∧(nmA 16∧(nmA 5∧(nmA 3∧sel (ts.okTB (mag % 3+1) 29 (cdO pg)) (42=42∧R (oLu (trB (mag % 3+1) 29 (cdO pg) (trO n sb)))) (R (oLu [])))))):=by kernel_rfl
noncomputable def byV (d:Dv):List Int:=
 bif d.k==1 then hbV (hxOf d) (odV d.T 32) else bif d.k==2 then pkB (d.mag % 3+1) (d.n % 25) (odV d.T 40)
 else bif d.k==5 then trB (d.mag % 3+1) 28 (cdO d.pg) (trO d.n d.sb) else trB (d.mag % 3+1) 29 (cdO d.pg) (trO d.n d.sb)
def okD (d:Dv):Prop:=d.k=1∨d.k=2∨d.k=5∨d.k=6
theorem cdO_in (pg:Int):0≤cdO pg∧cdO pg≤3:=by
 have key:∀ n<3,0≤IntKind.i64.wrap (IntKind.i64.wrap ((Int.ofNat n).tdiv 2) * 3)∧IntKind.i64.wrap (IntKind.i64.wrap ((Int.ofNat n).tdiv 2) * 3)≤3:=by decide +kernel
 have h:=key (pg % 3).toNat (by omega)
 have e:Int.ofNat (pg % 3).toNat=pg % 3:=by show (((pg % 3).toNat:Nat):Int)=pg % 3; omega
 rw [e] at h
 exact h
theorem okTB_of {mg row cd:Int} (hm:1≤mg∧mg≤8) (hc:0≤cd∧cd≤3) (hr:row=28∨row=29∨row=26):ts.okTB mg row cd=true:=by
 unfold ts.okTB
 rw [decide_eq_true (show 1≤mg∧mg≤8∧0≤cd∧cd≤15 from ⟨hm.1,hm.2,hc.1,by omega⟩)]
 rcases hr with rfl | rfl | rfl <;> rfl
noncomputable def tBy:Con:=fun args regs=>match args,regs with
 | [.ag [.i _ k,.i _ mag,.i _ pg,.i _ sb,.i _ n,.l _ L,.l _ T,.l _ W,.l _ B]],[]=>.must (args=[Dv.nv ⟨k,mag,pg,sb,n,L,T,W,B⟩]∧okD ⟨k,mag,pg,sb,n,L,T,W,B⟩) (.ret (oLu (byV ⟨k,mag,pg,sb,n,L,T,W,B⟩)))
 | _,_=>.fail
attribute [local irreducible] t_byC in
theorem kBy:Known Tryz.prog GL 12 tBy:=by
 refine k_byC.less fun args regs R h=>?_
 unfold tBy at h
 split at h
 case h_2=>exact h.elim
 rename_i _ k _ mag _ pg _ sb _ n _ L _ T _ W _ B
 obtain ⟨⟨h1,hk⟩,h⟩:=h
 rw [h1]
 have hm:1≤mag % 3+1∧mag % 3+1≤8:=⟨by omega,by omega⟩
 have n16:nmA 16:=⟨by decide,by decide⟩
 have n5:nmA 5:=⟨by decide,by decide⟩
 have n3:nmA 3:=⟨by decide,by decide⟩
 have n25:nmA 25:=⟨by decide,by decide⟩
 have hk' : k=1∨k=2∨k=5∨k=6:=hk
 rcases hk' with rfl | rfl | rfl | rfl
 ·exact (Box.of_eq (by_1 mag pg sb n L T W B R) ⟨rfl,⟨rfl,by decide,by decide⟩,⟨rfl,pl_right mag pg sb,odV_len _ _⟩,h⟩).out
 ·have e1:e16 (adr (mag % 3+1) (n % 25)):=adr_in hm ⟨by omega,by omega⟩
  have e2:e16 (shrv .i64 (n % 25) 1):=by rw [sh_1]; exact ⟨by omega,by omega⟩
  exact (Box.of_eq (by_2 mag pg sb n L T W B R) ⟨rfl,n25,⟨rfl,by decide,by decide⟩,e1,e2,rfl,h⟩).out
 ·exact (Box.of_eq (by_5 mag pg sb n L T W B R) ⟨rfl,n16,n5,n3,sT (okTB_of hm (cdO_in pg) (.inl rfl)) ⟨rfl,h⟩⟩).out
 ·exact (Box.of_eq (by_6 mag pg sb n L T W B R) ⟨rfl,n16,n5,n3,sT (okTB_of hm (cdO_in pg) (.inr (.inl rfl))) ⟨rfl,h⟩⟩).out
end bm
namespace df
open sto (sT sF)
open Go Go.Nx pk mac bm
def B8 (b:Int):Prop:=0≤b∧b<256
theorem put_in (n:Int):B8 (put n):=by
 have key:∀ m<16,0≤putL.getD m 0∧putL.getD m 0<256:=by decide +kernel
 exact key (n % 16).toNat (by omega)
theorem u8_in (v:BitVec 8):B8 (u8 v):=by
 have:=v.isLt
 unfold B8 u8
 omega
theorem odV_in (T:List Int) (k:Nat):∀ b∈odV T k,B8 b:=by
 intro b hb
 unfold odV at hb
 obtain ⟨i,-,rfl⟩:=List.mem_map.1 hb
 exact sv.mkO_in _
theorem app_in {l m:List Int} (h1:∀ b∈l,B8 b) (h2:∀ b∈m,B8 b):∀ b∈l++m,B8 b:=fun b hb=>(List.mem_append.1 hb).elim (h1 b) (h2 b)
theorem pkB_in {mg row:Int} {ds:List Int} (h:∀ b∈ds,B8 b):∀ b∈pkB mg row ds,B8 b:=List.forall_mem_cons.2 ⟨put_in _,List.forall_mem_cons.2 ⟨put_in _,h⟩⟩
theorem hbV_in (h:pge.Hx) {xs:List Int} (hx:∀ b∈xs,B8 b):∀ b∈hbV h xs,B8 b:=by
 refine pkB_in (app_in (app_in ?_ ?_) hx)
 ·unfold pl6
  repeat (refine List.forall_mem_cons.2 ⟨put_in _,?_⟩)
  intro b hb; cases hb
 ·unfold t8
  repeat (refine List.forall_mem_cons.2 ⟨put_in _,?_⟩)
  intro b hb; cases hb
theorem tw_in (r:List Sc):∀ b∈tr.tw r,B8 b:=by
 unfold tr.tw
 repeat (refine List.forall_mem_cons.2 ⟨u8_in _,?_⟩)
 intro b hb; cases hb
theorem trB_in (mg row cd:Int) (rows:List (List Sc)):∀ b∈trB mg row cd rows,B8 b:=by
 refine List.forall_mem_cons.2 ⟨put_in _,List.forall_mem_cons.2 ⟨put_in _,?_⟩⟩
 unfold ts.LTg tr.LT
 refine List.forall_mem_cons.2 ⟨put_in _,?_⟩
 iterate 12 (refine app_in (tw_in _) ?_)
 exact tw_in _
theorem byV_in (d:Dv):∀ b∈byV d,B8 b:=by
 unfold byV
 cases d.k==1 with
 | true=>exact hbV_in _ (odV_in _ _)
 | false=>
   cases d.k==2 with
   | true=>exact pkB_in (odV_in _ _)
   | false=>
     cases d.k==5 with
     | true=>exact trB_in _ _ _ _
     | false=>exact trB_in _ _ _ _
end df
namespace rv
open sto (sT sF Ky Sp kyP kyNC)
open ac (Pg pgZ)
open Go Go.Nx pk mac bm rv
def argT (ls:List (Nat × Nat × Nat × NC)) (T:Con):Con:=fun args regs=>T (mapVs (nilOf ls) 0 args) regs
theorem Known_args {P:Program} {gl:List Nat} {f:FuncId} {T:Con} (h:Known P gl f T) (ls:List (Nat × Nat × Nat × NC)):Known P gl f (argT ls T):=
 ⟨h.goes,fun args regs R hr Γ w vs hw hg ha ho=>h.sound (mapVs (nilOf ls) 0 args) regs R hr Γ w vs hw hg (mapVs_soft args vs 0 (fun i j k y _=>nilOf_soft Γ ls i j k y) ha) ho⟩
noncomputable def tByN:Con:=argT [(0,0,5,.l .i64 []),(0,0,6,.l .u8 []),(0,0,7,.l .u8 []),(0,0,8,.l .i64 [])] tBy
theorem kByN:Known Tryz.prog GL 12 tByN:=Known_args kBy _
noncomputable def tRpkN:Con:=fun args regs=>match args with
 | [.c (.p 0 0 0),.c (.l _ bs)]=>onV regs fun V=>.must (args=[.c (.p 0 0 0),.c (.l .u8 bs)]∧V.m.good∧(∀ b∈bs,0≤b∧b<256)∧(V.packet bs).2=none) (.ret (oRe (V.packet bs).1 .en))
 | _=>.fail
theorem kRpkN:Known Tryz.prog GL 24 tRpkN:=by
 refine kRpk.less fun args regs R h=>?_
 unfold tRpkN at h
 split at h
 case h_2=>exact h.elim
 rename_i _ bs
 obtain ⟨V,rfl,hV,⟨h1,hg,hb,he⟩,h⟩:=onV_elim h
 rw [h1]
 refine onV_in (f:=fun V=>.must ([NV.c (.p 0 0 0),.c (.l .u8 bs)]=[.c (.p 0 0 0),.c (.l .u8 bs)]∧V.m.good∧∀ b∈bs,0≤b∧b<256) (errV (V.packet bs).2 (V.packet bs).1)) hV ⟨⟨rfl,hg,hb⟩,?_⟩
 rw [he]
 exact h
noncomputable def Rv.pk (V:Rv) (d:Dv):Rv:=(V.packet (byV d)).1
def okK (V:Rv) (d:Dv):Prop:=okD d∧(V.packet (byV d)).2=none
theorem shown_good {V:Rv} (h:V.m.good) (x:Pg × Bool):(V.shown x).m.good:=by
 unfold Rv.shown
 split
 ·exact pinned_good h _
 ·exact h
theorem look_good {V:Rv} (h:V.m.good):V.look.m.good:=by
 unfold Rv.look
 split
 ·exact h
 ·exact shown_good h _
theorem packet_good {V:Rv} (h:V.m.good) {bs:List Int} (hb:∀ b∈bs,0≤b∧b<256):(V.packet bs).1.m.good:=by
 have hg:=step_good h hb
 unfold Rv.packet
 split
 ·exact look_good (V:={V with m:=(V.m.step bs).1}) hg
 ·exact hg
theorem key_good {V:Rv} (h:V.m.good) (k:Int):(V.key k).m.good:=by
 unfold Rv.key
 split
 ·exact shown_good (V:=V.fresh _) (freed_good h) _
 ·exact h
theorem pk_good {V:Rv} (h:V.m.good) (d:Dv):(V.pk d).m.good:=packet_good h (df.byV_in d)
noncomputable def pkK (V:Rv) (d:Dv) (A:Prop):Prop:=([d.nv]=[d.nv]∧okD d)∧((inV V=inV V.bk∧V.bk.m.ok)∧(([NV.c (.p 0 0 0),.c (.l .u8 (byV d))]=[NV.c (.p 0 0 0),.c (.l .u8 (byV d))]∧V.bk.m.good∧(∀ b∈byV d,0≤b∧b<256)∧(V.bk.packet (byV d)).2=none)∧A))
theorem pkK_in {V:Rv} {d:Dv} {A:Prop} (hg:V.m.good) (hk:okK V d) (hA:A):pkK V d A:=by
 unfold pkK
 rw [V.bk_eq hg.far]
 exact ⟨⟨rfl,hk.1⟩,⟨rfl,hg.ok⟩,⟨rfl,hg,df.byV_in d,hk.2⟩,hA⟩
def okKs (V:Rv):List Dv→Prop
 | []=>True
 | d::l=>okK V d∧okKs (V.pk d) l
noncomputable def Rv.pks (V:Rv) (l:List Dv):Rv:=l.foldl Rv.pk V
theorem pks_good:∀ (l:List Dv) {V:Rv},V.m.good→(V.pks l).m.good
 | [],_,h=>h
 | d::l,_,h=>pks_good l (pk_good h d)
def okKb (d:Dv):Bool:=d.k==1||(d.k==2||(d.k==5||d.k==6))
theorem okKb_of {d:Dv} (h:okKb d=true):okD d:=by
 unfold okKb at h
 unfold okD
 simpa only [Bool.or_eq_true,beq_iff_eq] using h
noncomputable def okKsB (V:Rv):List Dv→Bool
 | []=>true
 | d::l=>okKb d&&((V.packet (byV d)).2.isNone&&okKsB (V.pk d) l)
theorem okKs_of:∀ {l:List Dv} {V:Rv},okKsB V l=true→okKs V l
 | [],_,_=>trivial
 | d::l,V,h=>by
   unfold okKsB at h
   rw [Bool.and_eq_true,Bool.and_eq_true] at h
   exact ⟨⟨okKb_of h.1,Option.isNone_iff_eq_none.1 h.2.1⟩,okKs_of h.2.2⟩
end rv
namespace fi
open sto (sT sF Ky Sp kyP kyNC)
open ac (Pg pgZ)
open Go Go.Nx pk mac bm rv
def txO (m:Mv):Prop:=(∀ y∈m.t,0≤y∧y<256)∧(m.bg=true→8≤m.t.length)
def txM (M:Mc):Prop:=∀ k,txO (M.v k)
theorem tx_upd {M:Mc} (h:txM M) {g:Nat} {m:Mv} (hm:txO m):txM {M with v:=upd M.v g m}:=fun k=>by
 by_cases e:k=g
 ·subst e
  show txO (upd M.v k m k)
  rw [upd_same]; exact hm
 ·show txO (upd M.v g m k)
  rw [upd_other e]; exact h k
theorem tx_end {M:Mc} (h:txM M) (g:Nat):txM (M.endM g):=by
 unfold Mc.endM
 split
 ·exact tx_upd (M:={M with st:=Sp.put (M.v g).p M.st}) h (h g)
 ·exact h
theorem tx_ends {c:Bool} {g:Int}:∀ (n i:Nat) {M:Mc},txM M→txM (Mc.ends c g n i M)
 | 0,_,_,h=>h
 | n+1,i,M,h=>by
   unfold Mc.ends
   refine tx_ends n (i+1) ?_
   split
   ·exact tx_end h i
   ·exact h
theorem tx_hdM {M:Mc} (h:txM M) (g:Nat) {ds:List Int} (hd:∀ b∈ds,0≤b∧b<256):txM (M.hdM g ds):=by
 have h1:txM (Mc.ends (dec.hdV g ds).c7 g 8 1 (M.headed g (dec.hdV g ds) (dec.txV ds))):=
  tx_ends 8 1 (tx_upd h (m:={M.v g with h:=dec.hdV g ds,t:=dec.txV ds,bg:=true}) ⟨txV_by hd,fun _=>by show 8≤(dec.txV ds).length; rw [txV_len]; omega⟩)
 unfold Mc.hdM Mc.open'
 split
 ·exact h1
 ·exact tx_upd h1 (h1 g)
theorem part_bg (m:Mv) (p:dec.Px):(m.part p).bg=m.bg:=by
 unfold Mv.part
 split
 ·rfl
 ·split
  ·unfold Mv.extra
   split <;> rfl
  ·split
   ·unfold Mv.linked
    split <;> rfl
   ·split <;> rfl
theorem tx_part {m:Mv} (h:txO m) (p:dec.Px):txO (m.part p):=by
 unfold txO
 rw [part_txt,part_bg]
 exact h
theorem tx_pkM {M:Mc} (h:txM M) {p:dec.Px} (hd:∀ b∈p.ds,0≤b∧b<256):txM (M.pkM p).1:=by
 unfold Mc.pkM
 split
 ·split
  ·exact tx_hdM h _ hd
  ·exact h
 ·split
  ·split
   ·exact tx_upd h (h _)
   ·exact h
  ·split
   ·split
    ·split
     ·split
      ·exact h
      ·exact h
     ·exact h
    ·exact h
   ·unfold Mc.insM
    split
    ·exact tx_upd h (tx_part (h _) p)
    ·exact h
theorem tx_step {M:Mc} (h:txM M) {bs:List Int} (hb:∀ b∈bs,0≤b∧b<256):txM (M.step bs).1:=by
 unfold Mc.step
 split
 ·exact h
 ·rename_i p hp
  exact tx_pkM h (pkV_fine hb hp).by'
theorem tx_new (n:Int):txM (mcN n):=fun _=>⟨fun y hy=>(List.not_mem_nil hy).elim,fun h=>Bool.noConfusion h⟩
theorem tx_shown {V:Rv} (h:txM V.m) (x:Pg × Bool):txM (V.shown x).m:=by
 unfold Rv.shown
 split
 ·exact h
 ·exact h
theorem tx_look {V:Rv} (h:txM V.m):txM V.look.m:=by
 unfold Rv.look
 split
 ·exact h
 ·exact tx_shown h _
theorem tx_packet {V:Rv} (h:txM V.m) {bs:List Int} (hb:∀ b∈bs,0≤b∧b<256):txM (V.packet bs).1.m:=by
 have hg:=tx_step h hb
 unfold Rv.packet
 split
 ·exact tx_look (V:={V with m:=(V.m.step bs).1}) hg
 ·exact hg
theorem tx_pk {V:Rv} (h:txM V.m) (d:Dv):txM (V.pk d).m:=tx_packet h (df.byV_in d)
theorem tx_key {V:Rv} (h:txM V.m) (k:Int):txM (V.key k).m:=by
 unfold Rv.key
 split
 ·exact tx_shown (V:=V.fresh _) h _
 ·exact h
end fi
end Go.Proofs.YthknkidbonfbnaaGreatDoor
namespace Go.Nx
open Go Go.Proofs Go.RowKit
set_option maxHeartbeats 1000000 in
theorem index_byte (b o n c:Nat) (xs:List Int) (cv:Int) (w:World) (hx:xs.length=n) (hc:∀ i,i<n→w.cell? ⟨b,o+i,none⟩=some (.int .u8 (xs.getD i 0))) :
  Calls Tryz.prog 197 #[.slice (some ⟨b,o,none⟩) n c,.int .u8 cv] w fun e w'=>e=.returned (.int .i64 (Lib.indexByte (Lib.bytesOf xs) cv.toNat.toUInt8))∧w'=w:=by
 go_enter Tryz.func197,Tryz.ntmps197
 go_wp2
 rw [run_callFunc_extern Tryz.func201 (by kernel_rfl) (by kernel_rfl) (by kernel_rfl) (e:=Extern.BytealgIndexByte.indexByte) (by kernel_rfl),Lib.run_indexByteSlice w b o n c xs hx hc cv]
 simp only [Result.andThen]
 rw [Oper.upon_value]
 go_wp2
 go_ret
 exact ⟨rfl,rfl⟩
end Go.Nx
namespace Go.Proofs.YthknkidbonfbnaaGreatDoor
namespace gr
open Go Go.Nx pk
def ixT (c:Int):List Int→Int→Tr Out
 | [],_=>.ret ⟨.v (.c (.i .i64 (-1))),[]⟩
 | x::xs,i=>.br (x==c) (.ret ⟨.v (.c (.i .i64 i)),[]⟩) (ixT c xs (i+1))
def ixV (c:Int):List Int→Int→Int
 | [],_=>-1
 | x::xs,i=>bif x==c then i else ixV c xs (i+1)
theorem ixT_run {c:Int} {R:Out→Prop}:∀ {xs:List Int} {i:Int},(ixT c xs i).run R→R ⟨.v (.c (.i .i64 (ixV c xs i))),[]⟩
 | [],_,h=>h
 | x::xs,i,h=>by
   have h:sel (x==c) (R ⟨.v (.c (.i .i64 i)),[]⟩) ((ixT c xs (i+1)).run R):=h
   unfold ixV
   cases hx:x==c with
   | true=>rw [hx] at h; exact h
   | false=>rw [hx] at h; exact ixT_run (xs:=xs) h
def b8 (x:Int):Prop:=0≤x∧x<256
theorem u8_eq {x c:Int} (hx:b8 x) (hc:b8 c):(UInt8.ofNat x.toNat==c.toNat.toUInt8)=(x==c):=by
 unfold b8 at hx hc
 rw [Bool.eq_iff_iff,beq_iff_eq,beq_iff_eq]
 constructor
 ·intro h
  have h:=congrArg UInt8.toNat h
  have e1:(UInt8.ofNat x.toNat).toNat=x.toNat:=by rw [UInt8.toNat_ofNat']; omega
  have e2:(c.toNat.toUInt8).toNat=c.toNat:=by
   show (UInt8.ofNat c.toNat).toNat=c.toNat
   rw [UInt8.toNat_ofNat']; omega
  rw [e1,e2] at h
  omega
 ·rintro rfl
  rfl
theorem ixV_ge (c:Int):∀ (xs:List Int) (i:Int),0≤i→ixV c xs i=-1∨0≤ixV c xs i
 | [],_,_=>.inl rfl
 | x::xs,i,h=>by
   unfold ixV
   cases x==c with
   | true=>exact .inr h
   | false=>exact ixV_ge c xs (i+1) (by omega)
theorem ix_eq {c:Int} (hc:b8 c):∀ (xs:List Int),(∀ x∈xs,b8 x)→∀ i:Int,0≤i→ixV c xs i=bif Lib.indexByte (Lib.bytesOf xs) c.toNat.toUInt8==-1 then -1 else Lib.indexByte (Lib.bytesOf xs) c.toNat.toUInt8+i
 | [],_,_,_=>rfl
 | x::xs,h,i,hi=>by
   have ih:=ix_eq hc xs (fun y hy=>h y (List.mem_cons_of_mem _ hy))
   have e:=u8_eq (h x (List.mem_cons_self ..)) hc
   show (bif x==c then i else ixV c xs (i+1))=_
   have el:Lib.indexByte (Lib.bytesOf (x::xs)) c.toNat.toUInt8=if (UInt8.ofNat x.toNat==c.toNat.toUInt8) then 0 else if Lib.indexByte (Lib.bytesOf xs) c.toNat.toUInt8==-1 then -1 else Lib.indexByte (Lib.bytesOf xs) c.toNat.toUInt8+1:=rfl
   rw [el,e]
   cases x==c with
   | true=>show i=_; simp
   | false=>
     have h0:=ih 0 (by omega)
     have h1:=ih (i+1) (by omega)
     have hg:=ixV_ge c xs 0 (by omega)
     rw [h0] at hg
     show ixV c xs (i+1)=_
     rw [h1]
     cases hb:Lib.indexByte (Lib.bytesOf xs) c.toNat.toUInt8==-1 with
     | true=>simp
     | false=>
       rw [hb] at hg
       have hn:Lib.indexByte (Lib.bytesOf xs) c.toNat.toUInt8≠-1:=by simpa using hb
       have hg:Lib.indexByte (Lib.bytesOf xs) c.toNat.toUInt8+0=-1∨0≤Lib.indexByte (Lib.bytesOf xs) c.toNat.toUInt8+0:=hg
       have h2:(Lib.indexByte (Lib.bytesOf xs) c.toNat.toUInt8+1==-1)=false:=by rw [beq_eq_false_iff_ne]; omega
       simp only [cond_false,Bool.false_eq_true,if_false,h2]
       omega
noncomputable def tIx:Con:=fun args regs=>match args,regs with
 | [.c (.l .u8 xs),.c (.i .u8 c)],[]=>.must (xs≠[]∧(∀ x∈xs,b8 x)∧b8 c) (ixT c xs 0)
 | _,_=>.fail
noncomputable def t_ix0:Con:=fun args regs=>nfun Tryz.prog GL (fun _=>Option.none) [] Tryz.f197 args regs
theorem k_ix0:Known Tryz.prog GL 197 t_ix0:=known_inl Tryz.func197 rfl (by kernel_rfl) mixed con_none (by kernel_rfl)
theorem kIx:Known Tryz.prog GL 197 tIx:=by
 refine ⟨k_ix0.goes,fun args regs R h Γ w vs hw hG ha hout=>?_⟩
 unfold tIx at h
 split at h
 case h_2=>exact h.elim
 rename_i xs c
 obtain ⟨⟨hne,hxs,hc⟩,h⟩:=h
 have hR:=ixT_run h
 clear h
 cases ha with
 | cons r1 r=>
   cases r with
   | cons r2 r=>
     cases r
     obtain ⟨⟨a,cap,rfl,hcap,hro⟩,-⟩:=r1
     obtain ⟨rfl,-⟩:=r2
     rcases hro with rfl | ⟨blk,off,rfl,hb,cs,e,fz,hk,hget⟩
     ·exact (hne rfl).elim
     have hheap:=hw.kp _ _ hk
     have hcell:∀ i,i<xs.length→w.cell? ⟨blk,off+i,none⟩=some (.int .u8 (xs.getD i 0)):=fun i hi=>by
      have:=hget i (.int .u8 (xs.getD i 0)) (by rw [List.getElem?_map,List.getElem?_eq_getElem hi,List.getD_eq_getElem?_getD,List.getElem?_eq_getElem hi]; rfl)
      simp [World.cell?,hheap,this]
     refine (index_byte blk off xs.length cap xs c w rfl hcell).mono ?_
     rintro e' w' ⟨rfl,rfl⟩
     have ev:Lib.indexByte (Lib.bytesOf xs) c.toNat.toUInt8=ixV c xs 0:=by
      have h0:=ix_eq hc xs hxs 0 (by omega)
      rw [h0]
      cases hb:Lib.indexByte (Lib.bytesOf xs) c.toNat.toUInt8==-1 with
      | true=>simpa using hb
      | false=>simp
     rw [ev]
     exact ⟨_,_,Γ,hR,rfl,Ext.refl Γ w',⟨rfl,rfl⟩,hw,Wd.refl w'⟩
noncomputable def t_lAll:Con:=fun args regs=>nfun Tryz.prog GL (fun _=>Option.none) [] Tryz.f200 args regs
theorem k_lAll:Known Tryz.prog GL 200 t_lAll:=known_inl Tryz.func200 rfl (by kernel_rfl) mixed con_none (by kernel_rfl)
noncomputable def t_lPlaces:Con:=fun args regs=>nfun Tryz.prog GL (fun _=>Option.none) [] Tryz.f198 args regs
theorem k_lPlaces:Known Tryz.prog GL 198 t_lPlaces:=known_inl Tryz.func198 rfl (by kernel_rfl) mixed con_none (by kernel_rfl)
noncomputable def c_lOpts:FuncId→Option Con:=conOf [(200,t_lAll)]
theorem kc_lOpts:∀ f T,c_lOpts f=some T→Known Tryz.prog GL f T:=(Knowns.cons k_lAll .nil).get
noncomputable def t_lOpts:Con:=fun args regs=>nfun Tryz.prog GL c_lOpts [] Tryz.f199 args regs
theorem k_lOpts:Known Tryz.prog GL 199 t_lOpts:=known_inl Tryz.func199 rfl (by kernel_rfl) mixed kc_lOpts (by kernel_rfl)
noncomputable def t_lPlain:Con:=fun args regs=>nfun Tryz.prog GL (fun _=>Option.none) [] Tryz.f188 args regs
theorem k_lPlain:Known Tryz.prog GL 188 t_lPlain:=known_inl Tryz.func188 rfl (by kernel_rfl) mixed con_none (by kernel_rfl)
noncomputable def t_lRegs:Con:=fun args regs=>nfun Tryz.prog GL (fun _=>Option.none) [] Tryz.f179 args regs
theorem k_lRegs:Known Tryz.prog GL 179 t_lRegs:=known_inl Tryz.func179 rfl (by kernel_rfl) mixed con_none (by kernel_rfl)
noncomputable def c_lOpt:FuncId→Option Con:=conOf [(179,t_lRegs)]
theorem kc_lOpt:∀ f T,c_lOpt f=some T→Known Tryz.prog GL f T:=(Knowns.cons k_lRegs .nil).get
noncomputable def t_lOpt:Con:=fun args regs=>nfun Tryz.prog GL c_lOpt [] Tryz.f167 args regs
theorem k_lOpt:Known Tryz.prog GL 167 t_lOpt:=known_inl Tryz.func167 rfl (by kernel_rfl) mixed kc_lOpt (by kernel_rfl)
noncomputable def t_mIs:Con:=fun args regs=>nfun Tryz.prog GL (fun _=>Option.none) [] Tryz.f190 args regs
theorem k_mIs:Known Tryz.prog GL 190 t_mIs:=known_inl Tryz.func190 rfl (by kernel_rfl) mixed con_none (by kernel_rfl)
noncomputable def t_mFr:Con:=fun args regs=>nfun Tryz.prog GL (fun _=>Option.none) [] Tryz.f196 args regs
theorem k_mFr:Known Tryz.prog GL 196 t_mFr:=known_inl Tryz.func196 rfl (by kernel_rfl) mixed con_none (by kernel_rfl)
noncomputable def t_mGl:Con:=fun args regs=>nfun Tryz.prog GL (fun _=>Option.none) [] Tryz.f191 args regs
theorem k_mGl:Known Tryz.prog GL 191 t_mGl:=known_inl Tryz.func191 rfl (by kernel_rfl) mixed con_none (by kernel_rfl)
noncomputable def c_mPat:FuncId→Option Con:=conOf [(190,t_mIs),(196,t_mFr)]
theorem kc_mPat:∀ f T,c_mPat f=some T→Known Tryz.prog GL f T:=(Knowns.cons k_mIs (.cons k_mFr .nil)).get
noncomputable def t_mPat:Con:=fun args regs=>nfun Tryz.prog GL c_mPat [] Tryz.f192 args regs
theorem k_mPat:Known Tryz.prog GL 192 t_mPat:=known_inl Tryz.func192 rfl (by kernel_rfl) mixed kc_mPat (by kernel_rfl)
noncomputable def t_aDbl:Con:=fun args regs=>nfun Tryz.prog GL (fun _=>Option.none) [] Tryz.f189 args regs
theorem k_aDbl:Known Tryz.prog GL 189 t_aDbl:=known_inl Tryz.func189 rfl (by kernel_rfl) mixed con_none (by kernel_rfl)
noncomputable def c_aAt:FuncId→Option Con:=conOf [(189,t_aDbl)]
theorem kc_aAt:∀ f T,c_aAt f=some T→Known Tryz.prog GL f T:=(Knowns.cons k_aDbl .nil).get
noncomputable def t_aAt:Con:=fun args regs=>nfun Tryz.prog GL c_aAt [] Tryz.f182 args regs
theorem k_aAt:Known Tryz.prog GL 182 t_aAt:=known_inl Tryz.func182 rfl (by kernel_rfl) mixed kc_aAt (by kernel_rfl)
noncomputable def t_aCol:Con:=fun args regs=>nfun Tryz.prog GL (fun _=>Option.none) [] Tryz.f194 args regs
theorem k_aCol:Known Tryz.prog GL 194 t_aCol:=known_inl Tryz.func194 rfl (by kernel_rfl) mixed con_none (by kernel_rfl)
noncomputable def c_aBeh:FuncId→Option Con:=conOf [(194,t_aCol),(189,t_aDbl)]
theorem kc_aBeh:∀ f T,c_aBeh f=some T→Known Tryz.prog GL f T:=(Knowns.cons k_aCol (.cons k_aDbl .nil)).get
noncomputable def t_aBeh:Con:=fun args regs=>nfun Tryz.prog GL c_aBeh [] Tryz.f184 args regs
theorem k_aBeh:Known Tryz.prog GL 184 t_aBeh:=known_inl Tryz.func184 rfl (by kernel_rfl) mixed kc_aBeh (by kernel_rfl)
noncomputable def tIxJ (j:Int):Con:=fun args regs=>match args,regs with
 | [.c (.l _ xs),.c (.i _ c)],[]=>.must (args=[.c (.l .u8 xs),.c (.i .u8 c)]∧(xs≠[]∧(∀ x∈xs,b8 x)∧b8 c)∧ixV c xs 0=j) (.ret ⟨.v (.c (.i .i64 j)),[]⟩)
 | _,_=>.fail
theorem ixT_in {c:Int} {R:Out→Prop}:∀ {xs:List Int} {i:Int},R ⟨.v (.c (.i .i64 (ixV c xs i))),[]⟩→(ixT c xs i).run R
 | [],_,h=>h
 | x::xs,i,h=>by
   show sel (x==c) (R ⟨.v (.c (.i .i64 i)),[]⟩) ((ixT c xs (i+1)).run R)
   unfold ixV at h
   cases hx:x==c with
   | true=>rw [hx] at h; exact h
   | false=>rw [hx] at h; exact ixT_in (xs:=xs) h
theorem kIxJ (j:Int):Known Tryz.prog GL 197 (tIxJ j):=by
 refine kIx.less fun args regs R h=>?_
 unfold tIxJ at h
 split at h
 case h_2=>exact h.elim
 obtain ⟨⟨h1,h2,h3⟩,h⟩:=h
 rw [h1]
 subst h3
 exact ⟨h2,ixT_in h⟩
noncomputable def c_lChJ (j:Int):FuncId→Option Con:=conOf [(198,t_lPlaces),(197,(tIxJ j)),(188,t_lPlain),(199,t_lOpts),(200,t_lAll)]
theorem kc_lChJ (j:Int):∀ f T,(c_lChJ j) f=some T→Known Tryz.prog GL f T:=(Knowns.cons k_lPlaces (.cons (kIxJ j) (.cons k_lPlain (.cons k_lOpts (.cons k_lAll .nil))))).get
noncomputable def t_lChJ (j:Int):Con:=fun args regs=>nfun Tryz.prog GL (c_lChJ j) [] Tryz.f193 args regs
theorem k_lChJ (j:Int):Known Tryz.prog GL 193 (t_lChJ j):=known_inl Tryz.func193 rfl (by kernel_rfl) mixed (kc_lChJ j) (by kernel_rfl)
end gr
section
namespace gr
open Go Go.Nx pk
theorem sT {c:Bool} {A B:Prop} (h:c=true) (hA:A):sel c A B:=by rw [h]; exact hA
theorem sF {c:Bool} {A B:Prop} (h:c=false) (hB:B):sel c A B:=by rw [h]; exact hB
theorem sel_bif {α:Type} {R:α→Prop} {c:Bool} {a b:α} {A B:Prop} (h:R (bif c then a else b)) (ha:R a→A) (hb:R b→B):sel c A B:=by
 cases c
 ·exact hb h
 ·exact ha h
theorem Known_any {P:Program} {gl:List Nat} {f:FuncId} {ι:Type} {T:ι→Con} {T' : Con} (i0:ι) (hk:∀ i,Known P gl f (T i)) (h:∀ args regs R,(T' args regs).run R→∃ i,(T i args regs).run R):Known P gl f T':=
 ⟨(hk i0).goes,fun args regs R hr=>by obtain ⟨i,hi⟩:=h args regs R hr; exact (hk i).sound args regs R hi⟩
def gO (n:Int):Out:=⟨.v (.c (.i .i64 n)),[]⟩
abbrev w64 (n:Int):Int:=IntKind.i64.wrap n
abbrev b7 (c:Int):Int:=bits .and .u8 c 127
def plV (c:Int):Int:=bif decide (b7 c<32) then 32 else bif b7 c==127 then 9632 else w64 (b7 c)
theorem plain_tree (c:Int) (R:Out→Prop):(t_lPlain [.c (.i .u8 c)] []).run R=sel (decide (b7 c<32)) (R (gO 32)) (sel (b7 c==127) (R (gO 9632)) (R (gO (w64 (b7 c))))):=by kernel_rfl
noncomputable def tPl:Con:=fun args regs=>match args,regs with
 | [.c (.i _ c)],[]=>.must (args=[.c (.i .u8 c)]) (.ret (gO (plV c)))
 | _,_=>.fail
theorem kPl:Known Tryz.prog GL 188 tPl:=by
 refine k_lPlain.less fun args regs R h=>?_
 unfold tPl at h
 split at h
 case h_2=>exact h.elim
 rename_i _ c
 obtain ⟨h1,h⟩:=h
 rw [h1]
 have h:(fun n=>R (gO n)) (plV c):=h
 unfold plV at h
 exact (Box.of_eq (plain_tree c R) (sel_bif (R:=fun n=>R (gO n)) h id fun h=>sel_bif (R:=fun n=>R (gO n)) h id id)).out
def places:List Int:=[35,36,64,91,92,93,94,95,96,123,124,125,126]
def tbl:List (List FC):=[
 [.s ⟨#[69,110,103,108,105,115,104]⟩,.i 163,.i 36,.i 64,.i 8592,.i 189,.i 8594,.i 8593,.i 35,.i 8213,.i 188,.i 8214,.i 190,.i 247],
 [.s ⟨#[71,101,114,109,97,110]⟩,.i 35,.i 36,.i 167,.i 196,.i 214,.i 220,.i 94,.i 95,.i 176,.i 228,.i 246,.i 252,.i 223],
 [.s ⟨#[83,119,101,100,105,115,104]⟩,.i 35,.i 164,.i 201,.i 196,.i 214,.i 197,.i 220,.i 95,.i 233,.i 228,.i 246,.i 229,.i 252],
 [.s ⟨#[73,116,97,108,105,97,110]⟩,.i 163,.i 36,.i 233,.i 176,.i 231,.i 8594,.i 8593,.i 35,.i 249,.i 224,.i 242,.i 232,.i 236],
 [.s ⟨#[70,114,101,110,99,104]⟩,.i 233,.i 239,.i 224,.i 235,.i 234,.i 249,.i 238,.i 35,.i 232,.i 226,.i 244,.i 251,.i 231],
 [.s ⟨#[80,111,114,116,117,103,117,101,115,101]⟩,.i 231,.i 36,.i 161,.i 225,.i 233,.i 237,.i 243,.i 250,.i 191,.i 252,.i 241,.i 232,.i 224],
 [.s ⟨#[67,122,101,99,104]⟩,.i 35,.i 367,.i 269,.i 357,.i 382,.i 253,.i 237,.i 345,.i 233,.i 225,.i 283,.i 250,.i 353],
 [.s ⟨#[80,111,108,105,115,104]⟩,.i 35,.i 324,.i 261,.i 437,.i 346,.i 321,.i 263,.i 243,.i 281,.i 380,.i 347,.i 322,.i 378],
 [.s ⟨#[84,117,114,107,105,115,104]⟩,.i 8356,.i 287,.i 304,.i 350,.i 214,.i 199,.i 220,.i 286,.i 305,.i 351,.i 246,.i 231,.i 252],
 [.s ⟨#[83,101,114,98,105,97,110]⟩,.i 35,.i 203,.i 268,.i 262,.i 381,.i 272,.i 352,.i 235,.i 269,.i 263,.i 382,.i 273,.i 353],
 [.s ⟨#[82,117,109,97,110,105,97,110]⟩,.i 35,.i 164,.i 354,.i 194,.i 350,.i 258,.i 206,.i 305,.i 355,.i 226,.i 351,.i 259,.i 238],
 [.s ⟨#[69,115,116,111,110,105,97,110]⟩,.i 35,.i 245,.i 352,.i 196,.i 214,.i 381,.i 220,.i 213,.i 353,.i 228,.i 246,.i 382,.i 252],
 [.s ⟨#[76,101,116,116,105,115,104]⟩,.i 35,.i 36,.i 352,.i 279,.i 281,.i 381,.i 269,.i 363,.i 353,.i 261,.i 371,.i 382,.i 303]]
def row1 (o:Nat) (j:Nat):Int:=((tbl.getD o []).getD (1+j) (.i 0)).n
def lvV (o:Int) (j:Nat):Int:=bif decide (o<0) then row1 0 j else bif decide (o ≥ 13) then row1 0 j else row1 (0+o.toNat) j
def inJ (o c:Int) (j:Int):Prop:=[NV.c (.l .u8 places),.c (.i .u8 (b7 c))]=[NV.c (.l .u8 places),.c (.i .u8 (b7 c))]∧(places≠[]∧(∀ x∈places,b8 x)∧b8 (b7 c))∧ixV (b7 c) places 0=j
def lvT (o:Int) (j:Nat) (R:Out→Prop):Prop:=sel (decide (o<0)) (R (gO (row1 0 j))) (sel (decide (o ≥ 13)) (R (gO (row1 0 j))) (sel (decide (0≤o)) (sel (decide (o<13)) (sel (decide (0+o.toNat<tbl.length)) (R (gO (row1 (0+o.toNat) j))) False) False) False))
theorem ch_m (o c:Int) (R:Out→Prop):(t_lChJ (-1) [.c (.i .i64 o),.c (.i .u8 c)] []).run R=(inJ o c (-1)∧sel (decide (b7 c<32)) (R (gO 32)) (sel (b7 c==127) (R (gO 9632)) (R (gO (w64 (b7 c)))))):=by kernel_rfl
theorem ch_0 (o c:Int) (R:Out→Prop):(t_lChJ 0 [.c (.i .i64 o),.c (.i .u8 c)] []).run R=(inJ o c 0∧lvT o 0 R):=by kernel_rfl
theorem ch_1 (o c:Int) (R:Out→Prop):(t_lChJ 1 [.c (.i .i64 o),.c (.i .u8 c)] []).run R=(inJ o c 1∧lvT o 1 R):=by kernel_rfl
theorem ch_2 (o c:Int) (R:Out→Prop):(t_lChJ 2 [.c (.i .i64 o),.c (.i .u8 c)] []).run R=(inJ o c 2∧lvT o 2 R):=by kernel_rfl
theorem ch_3 (o c:Int) (R:Out→Prop):(t_lChJ 3 [.c (.i .i64 o),.c (.i .u8 c)] []).run R=(inJ o c 3∧lvT o 3 R):=by kernel_rfl
theorem ch_4 (o c:Int) (R:Out→Prop):(t_lChJ 4 [.c (.i .i64 o),.c (.i .u8 c)] []).run R=(inJ o c 4∧lvT o 4 R):=by kernel_rfl
theorem ch_5 (o c:Int) (R:Out→Prop):(t_lChJ 5 [.c (.i .i64 o),.c (.i .u8 c)] []).run R=(inJ o c 5∧lvT o 5 R):=by kernel_rfl
theorem ch_6 (o c:Int) (R:Out→Prop):(t_lChJ 6 [.c (.i .i64 o),.c (.i .u8 c)] []).run R=(inJ o c 6∧lvT o 6 R):=by kernel_rfl
theorem ch_7 (o c:Int) (R:Out→Prop):(t_lChJ 7 [.c (.i .i64 o),.c (.i .u8 c)] []).run R=(inJ o c 7∧lvT o 7 R):=by kernel_rfl
theorem ch_8 (o c:Int) (R:Out→Prop):(t_lChJ 8 [.c (.i .i64 o),.c (.i .u8 c)] []).run R=(inJ o c 8∧lvT o 8 R):=by kernel_rfl
theorem ch_9 (o c:Int) (R:Out→Prop):(t_lChJ 9 [.c (.i .i64 o),.c (.i .u8 c)] []).run R=(inJ o c 9∧lvT o 9 R):=by kernel_rfl
theorem ch_10 (o c:Int) (R:Out→Prop):(t_lChJ 10 [.c (.i .i64 o),.c (.i .u8 c)] []).run R=(inJ o c 10∧lvT o 10 R):=by kernel_rfl
theorem ch_11 (o c:Int) (R:Out→Prop):(t_lChJ 11 [.c (.i .i64 o),.c (.i .u8 c)] []).run R=(inJ o c 11∧lvT o 11 R):=by kernel_rfl
theorem ch_12 (o c:Int) (R:Out→Prop):(t_lChJ 12 [.c (.i .i64 o),.c (.i .u8 c)] []).run R=(inJ o c 12∧lvT o 12 R):=by kernel_rfl
def chL (o c:Int):Int:=bif decide (ixV (b7 c) places 0<0) then plV c else lvV o (ixV (b7 c) places 0).toNat
theorem b7_in (c:Int):b8 (b7 c):=by
 unfold b8
 have e:=bits_u8 .and c 127
 have:=(BitVec.isLt (bvop .and (BitVec.ofInt 8 c) (BitVec.ofInt 8 127)))
 rw [show b7 c=_ from e]
 unfold u8
 omega
theorem pl8:∀ x∈places,b8 x:=by
 have:∀ x∈places,0≤x∧x<256:=by decide
 exact this
theorem inJ_in {o c j:Int} (h:ixV (b7 c) places 0=j):inJ o c j:=⟨rfl,⟨by decide,pl8,b7_in c⟩,h⟩
theorem lvT_in {o:Int} {j:Nat} {R:Out→Prop} (h:R (gO (lvV o j))):lvT o j R:=by
 unfold lvV at h
 unfold lvT
 cases h0:decide (o<0) with
 | true=>rw [h0] at h; exact h
 | false=>
   rw [h0] at h
   cases h13:decide (o ≥ 13) with
   | true=>rw [h13] at h; exact h
   | false=>
     rw [h13] at h
     have h13:=of_decide_eq_false h13
     have h0:=of_decide_eq_false h0
     exact sF rfl (sF rfl (sT (decide_eq_true (by omega)) (sT (decide_eq_true (by omega)) (sT (decide_eq_true (by show 0+o.toNat<13; omega)) h))))
theorem ix_rng (c:Int):∀ (xs:List Int) (i:Int),ixV c xs i=-1∨(i≤ixV c xs i∧ixV c xs i<i+xs.length)
 | [],_=>.inl rfl
 | x::xs,i=>by
   unfold ixV
   cases x==c with
   | true=>exact .inr ⟨Int.le_refl _,by simp only [cond_true,List.length_cons]; omega⟩
   | false=>
     rcases ix_rng c xs (i+1) with h | h
     ·exact .inl h
     ·exact .inr ⟨by simp only [cond_false]; omega,by simp only [cond_false,List.length_cons]; omega⟩
noncomputable def tChr:Con:=fun args regs=>match args,regs with
 | [.c (.i _ o),.c (.i _ c)],[]=>.must (args=[.c (.i .i64 o),.c (.i .u8 c)]) (.ret (gO (chL o c)))
 | _,_=>.fail
attribute [local irreducible] t_lChJ in
theorem kChr:Known Tryz.prog GL 193 tChr:=by
 refine Known_any (T:=t_lChJ) 0 k_lChJ fun args regs R h=>?_
 unfold tChr at h
 split at h
 case h_2=>exact h.elim
 rename_i _ o _ c
 obtain ⟨h1,h⟩:=h
 rw [h1]
 have h:R (gO (chL o c)):=h
 have hr:=ix_rng (b7 c) places 0
 unfold chL at h
 refine ⟨ixV (b7 c) places 0,?_⟩
 generalize hj:ixV (b7 c) places 0=j at h hr ⊢
 have hr:j=-1∨j=0∨j=1∨j=2∨j=3∨j=4∨j=5∨j=6∨j=7∨j=8∨j=9∨j=10∨j=11∨j=12:=by
  have:(places.length:Int)=13:=rfl
  omega
 have hi:=inJ_in (o:=o) hj
 rcases hr with rfl | rfl | rfl | rfl | rfl | rfl | rfl | rfl | rfl | rfl | rfl | rfl | rfl | rfl
 ·have h:(fun n=>R (gO n)) (plV c):=h
  unfold plV at h
  exact (Box.of_eq (ch_m o c R) ⟨hi,sel_bif (R:=fun n=>R (gO n)) h id fun h=>sel_bif (R:=fun n=>R (gO n)) h id id⟩).out
 ·exact (Box.of_eq (ch_0 o c R) ⟨hi,lvT_in h⟩).out
 ·exact (Box.of_eq (ch_1 o c R) ⟨hi,lvT_in h⟩).out
 ·exact (Box.of_eq (ch_2 o c R) ⟨hi,lvT_in h⟩).out
 ·exact (Box.of_eq (ch_3 o c R) ⟨hi,lvT_in h⟩).out
 ·exact (Box.of_eq (ch_4 o c R) ⟨hi,lvT_in h⟩).out
 ·exact (Box.of_eq (ch_5 o c R) ⟨hi,lvT_in h⟩).out
 ·exact (Box.of_eq (ch_6 o c R) ⟨hi,lvT_in h⟩).out
 ·exact (Box.of_eq (ch_7 o c R) ⟨hi,lvT_in h⟩).out
 ·exact (Box.of_eq (ch_8 o c R) ⟨hi,lvT_in h⟩).out
 ·exact (Box.of_eq (ch_9 o c R) ⟨hi,lvT_in h⟩).out
 ·exact (Box.of_eq (ch_10 o c R) ⟨hi,lvT_in h⟩).out
 ·exact (Box.of_eq (ch_11 o c R) ⟨hi,lvT_in h⟩).out
 ·exact (Box.of_eq (ch_12 o c R) ⟨hi,lvT_in h⟩).out
def frV (c:Int):Int:=bif decide (b7 c<32) then 0 else bif bits .and .u8 (b7 c) 64 !=0 then bits .or .i64 (w64 (bits .and .u8 (b7 c) 31)) 32 else w64 (bits .and .u8 (b7 c) 31)
def isM (c:Int):Bool:=bits .and .u8 c 32 !=0
def ptV (c:Int):Int:=bif !isM c then 0 else frV c
def mgV (p:Int) (b:Bool):Int:=bif b then bits .or .i64 (bits .or .i64 1048576 (bits .and .i64 p 63)) 64 else bits .or .i64 1048576 (bits .and .i64 p 63)
theorem pat_tree (c:Int) (R:Out→Prop):(t_mPat [.c (.i .u8 c)] []).run R=sel (!isM c) (R (gO 0)) (sel (decide (b7 c<32)) (R (gO 0)) (sel (bits .and .u8 (b7 c) 64 !=0) (R (gO (bits .or .i64 (w64 (bits .and .u8 (b7 c) 31)) 32))) (R (gO (w64 (bits .and .u8 (b7 c) 31)))))):=by kernel_rfl
theorem gl_tree (p:Int) (b:Bool) (R:Out→Prop):(t_mGl [.c (.i .i64 p),.c (.b b)] []).run R=sel b (R (gO (bits .or .i64 (bits .or .i64 1048576 (bits .and .i64 p 63)) 64))) (R (gO (bits .or .i64 1048576 (bits .and .i64 p 63)))):=by kernel_rfl
noncomputable def tPat:Con:=fun args regs=>match args,regs with
 | [.c (.i _ c)],[]=>.must (args=[.c (.i .u8 c)]) (.ret (gO (ptV c)))
 | _,_=>.fail
noncomputable def tGl:Con:=fun args regs=>match args,regs with
 | [.c (.i _ p),.c (.b b)],[]=>.must (args=[.c (.i .i64 p),.c (.b b)]) (.ret (gO (mgV p b)))
 | _,_=>.fail
theorem kPat:Known Tryz.prog GL 192 tPat:=by
 refine k_mPat.less fun args regs R h=>?_
 unfold tPat at h
 split at h
 case h_2=>exact h.elim
 rename_i _ c
 obtain ⟨h1,h⟩:=h
 rw [h1]
 have h:(fun n=>R (gO n)) (ptV c):=h
 unfold ptV at h
 refine (Box.of_eq (pat_tree c R) (sel_bif (R:=fun n=>R (gO n)) h id fun h=>?_)).out
 unfold frV at h
 exact sel_bif (R:=fun n=>R (gO n)) h id fun h=>sel_bif (R:=fun n=>R (gO n)) h id id
theorem kGl:Known Tryz.prog GL 191 tGl:=by
 refine k_mGl.less fun args regs R h=>?_
 unfold tGl at h
 split at h
 case h_2=>exact h.elim
 rename_i _ p b
 obtain ⟨h1,h⟩:=h
 rw [h1]
 have h:(fun n=>R (gO n)) (mgV p b):=h
 unfold mgV at h
 exact (Box.of_eq (gl_tree p b R) (sel_bif (R:=fun n=>R (gO n)) h id id)).out
structure Sx where
 fg:Int
 bg:Int
 mo:Bool
 pa:Bool
 ho:Bool
 fl:Bool
 co:Bool
 bx:Bool
 db:Bool
 he:Int
 la:Int
def Sx.nc (s:Sx):List NC:=[.i .i64 s.fg,.i .i64 s.bg,.b s.mo,.b s.pa,.b s.ho,.b s.fl,.b s.co,.b s.bx,.b s.db,.i .i64 s.he,.i .u8 s.la]
def sO (s:Sx):Out:=⟨.v (.ag s.nc),[]⟩
def Sx.dbl (s:Sx) (on:Bool):Sx:=bif s.db !=on then {s with he:=32,db:=on} else {s with db:=on}
def Sx.at' (s:Sx) (c:Int):Sx:=
 bif c==9 then {s with fl:=false} else bif c==12 then s.dbl false else bif c==24 then {s with co:=true} else bif c==25 then {s with pa:=c==26} else bif c==26 then {s with pa:=c==26} else
 bif c==28 then {s with bg:=0} else bif c==29 then {s with bg:=s.fg} else bif c==30 then {s with ho:=true} else
 bif c==11 then (bif s.la==c then {s with bx:=c==11} else s) else bif c==10 then (bif s.la==c then {s with bx:=c==11} else s) else s
def dblT (s:Sx) (on:Bool) (R:Out→Prop):Prop:=sel (s.db !=on) (R (sO {s with he:=32,db:=on})) (R (sO {s with db:=on}))
def atT (s:Sx) (c:Int) (R:Out→Prop):Prop:=
 sel (c==9) (R (sO {s with fl:=false})) (sel (c==12) (dblT s false R) (sel (c==24) (R (sO {s with co:=true})) (sel (c==25) (R (sO {s with pa:=c==26})) (sel (c==26) (R (sO {s with pa:=c==26})) (
 sel (c==28) (R (sO {s with bg:=0})) (sel (c==29) (R (sO {s with bg:=s.fg})) (sel (c==30) (R (sO {s with ho:=true})) (
 sel (c==11) (sel (s.la==c) (R (sO {s with bx:=c==11})) (R (sO s))) (sel (c==10) (sel (s.la==c) (R (sO {s with bx:=c==11})) (R (sO s))) (R (sO s)))))))))))
theorem at_tree (s:Sx) (c:Int) (R:Out→Prop):(t_aAt [.ag s.nc,.c (.i .u8 c)] []).run R=atT s c R:=by kernel_rfl
theorem dblT_in {s:Sx} {on:Bool} {R:Out→Prop} (h:R (sO (s.dbl on))):dblT s on R:=by
 have h:(fun x=>R (sO x)) (s.dbl on):=h
 unfold Sx.dbl at h
 exact sel_bif (R:=fun x=>R (sO x)) h id id
theorem atT_in {s:Sx} {c:Int} {R:Out→Prop} (h:R (sO (s.at' c))):atT s c R:=by
 have h:(fun x=>R (sO x)) (s.at' c):=h
 unfold Sx.at' at h
 have q:=fun {c:Bool} {a b:Sx} {A B:Prop}=>@sel_bif Sx (fun x=>R (sO x)) c a b A B
 exact q h id fun h=>q h dblT_in fun h=>q h id fun h=>q h id fun h=>q h id fun h=>q h id fun h=>q h id fun h=>q h id fun h=>q h (fun h=>q h id id) fun h=>q h (fun h=>q h id id) id
def rdSx:List NC→Option Sx
 | [.i _ a,.i _ b,.b m,.b p,.b h,.b f,.b c,.b x,.b d,.i _ e,.i _ l]=>some ⟨a,b,m,p,h,f,c,x,d,e,l⟩
 | _=>none
noncomputable def tAt:Con:=fun args regs=>match args,regs with
 | [.ag l,.c (.i _ c)],[]=>(match rdSx l with
   | some s=>.must (args=[.ag s.nc,.c (.i .u8 c)]) (.ret (sO (s.at' c)))
   | none=>.fail)
 | _,_=>.fail
attribute [local irreducible] t_aAt in
theorem kAt:Known Tryz.prog GL 182 tAt:=by
 refine k_aAt.less fun args regs R h=>?_
 unfold tAt at h
 split at h
 case h_2=>exact h.elim
 split at h
 case h_2=>exact h.elim
 obtain ⟨h1,h⟩:=h
 rw [h1]
 exact (Box.of_eq (at_tree _ _ R) (atT_in h)).out
def Sx.col (s:Sx) (fg:Int) (m:Bool):Sx:=bif s.mo !=m then {s with fg:=w64 fg,mo:=m,co:=false,he:=32} else {s with fg:=w64 fg,mo:=m,co:=false}
def colT (s:Sx) (fg:Int) (m:Bool) (R:Out→Prop):Prop:=sel (s.mo !=m) (R (sO {s with fg:=w64 fg,mo:=m,co:=false,he:=32})) (R (sO {s with fg:=w64 fg,mo:=m,co:=false}))
def Sx.be3 (s:Sx) (c:Int):Sx:=bif c==8 then {s with fl:=true} else bif c==13 then s.dbl true else bif c==31 then {s with ho:=false} else s
def be3T (s:Sx) (c:Int) (R:Out→Prop):Prop:=sel (c==8) (R (sO {s with fl:=true})) (sel (c==13) (dblT s true R) (sel (c==31) (R (sO {s with ho:=false})) (R (sO s))))
def Sx.beh (s:Sx) (c:Int):Sx:=bif decide (c<8) then s.col c false else bif decide (c ≥ 16) then (bif decide (c<24) then s.col (IntKind.u8.wrap (c - 16)) true else s.be3 c) else s.be3 c
def behT (s:Sx) (c:Int) (R:Out→Prop):Prop:=sel (decide (c<8)) (colT s c false R) (sel (decide (c ≥ 16)) (sel (decide (c<24)) (colT s (IntKind.u8.wrap (c - 16)) true R) (be3T s c R)) (be3T s c R))
theorem beh_tree (s:Sx) (c:Int) (R:Out→Prop):(t_aBeh [.ag s.nc,.c (.i .u8 c)] []).run R=behT s c R:=by kernel_rfl
theorem colT_in {s:Sx} {fg:Int} {m:Bool} {R:Out→Prop} (h:R (sO (s.col fg m))):colT s fg m R:=by
 have h:(fun x=>R (sO x)) (s.col fg m):=h
 unfold Sx.col at h
 exact sel_bif (R:=fun x=>R (sO x)) h id id
theorem be3T_in {s:Sx} {c:Int} {R:Out→Prop} (h:R (sO (s.be3 c))):be3T s c R:=by
 have h:(fun x=>R (sO x)) (s.be3 c):=h
 unfold Sx.be3 at h
 have q:=fun {c:Bool} {a b:Sx} {A B:Prop}=>@sel_bif Sx (fun x=>R (sO x)) c a b A B
 exact q h id fun h=>q h dblT_in fun h=>q h id id
theorem behT_in {s:Sx} {c:Int} {R:Out→Prop} (h:R (sO (s.beh c))):behT s c R:=by
 have h:(fun x=>R (sO x)) (s.beh c):=h
 unfold Sx.beh at h
 have q:=fun {c:Bool} {a b:Sx} {A B:Prop}=>@sel_bif Sx (fun x=>R (sO x)) c a b A B
 exact q h colT_in fun h=>q h (fun h=>q h colT_in be3T_in) be3T_in
noncomputable def tBeh:Con:=fun args regs=>match args,regs with
 | [.ag l,.c (.i _ c)],[]=>(match rdSx l with
   | some s=>.must (args=[.ag s.nc,.c (.i .u8 c)]) (.ret (sO (s.beh c)))
   | none=>.fail)
 | _,_=>.fail
attribute [local irreducible] t_aBeh in
theorem kBeh:Known Tryz.prog GL 184 tBeh:=by
 refine k_aBeh.less fun args regs R h=>?_
 unfold tBeh at h
 split at h
 case h_2=>exact h.elim
 split at h
 case h_2=>exact h.elim
 obtain ⟨h1,h⟩:=h
 rw [h1]
 exact (Box.of_eq (beh_tree _ _ R) (behT_in h)).out
end gr
end
section
namespace gr
open Go Go.Nx pk
noncomputable def c_aGl:FuncId→Option Con:=conOf [(190,t_mIs),(192,tPat),(191,tGl),(193,tChr)]
theorem kc_aGl:∀ f T,c_aGl f=some T→Known Tryz.prog GL f T:=(Knowns.cons k_mIs (.cons kPat (.cons kGl (.cons kChr .nil)))).get
noncomputable def t_aGl:Con:=fun args regs=>nfun Tryz.prog GL c_aGl [] Tryz.f183 args regs
theorem k_aGl:Known Tryz.prog GL 183 t_aGl:=known_inl Tryz.func183 rfl (by kernel_rfl) mixed kc_aGl (by kernel_rfl)
def gTu (a b:Int):Out:=⟨.tu [.c (.i .i64 a),.c (.i .i64 b)],[]⟩
def Sx.gp (s:Sx) (c o:Int):Int × Int:=bif decide (c<32) then (bif s.ho then (bif s.mo then (s.he,s.he) else (32,s.he)) else (32,s.he)) else bif s.mo then (bif isM c then (mgV (ptV c) s.pa,mgV (ptV c) s.pa) else (chL o c,s.he)) else (chL o c,s.he)
def chM (s:Sx) (c o:Int) (R:Out→Prop):Prop:=[NV.c (.i .i64 o),.c (.i .u8 c)]=[NV.c (.i .i64 o),.c (.i .u8 c)]∧R (gTu (chL o c) s.he)
def gL (s:Sx) (c o:Int) (R:Out→Prop):Prop:=sel (decide (c<32)) (R (gTu 32 s.he)) (sel s.mo (sel (isM c) ([NV.c (.i .u8 c)]=[NV.c (.i .u8 c)]∧([NV.c (.i .i64 (ptV c)),.c (.b s.pa)]=[NV.c (.i .i64 (ptV c)),.c (.b s.pa)]∧R (gTu (mgV (ptV c) s.pa) (mgV (ptV c) s.pa)))) (chM s c o R)) (chM s c o R))
theorem gl_t (s:Sx) (c o:Int) (R:Out→Prop):(t_aGl [.ag s.nc,.c (.i .u8 c),.c (.i .i64 o)] []).run R=sel (decide (c<32)) (sel s.ho (sel s.mo (R (gTu s.he s.he)) (gL s c o R)) (gL s c o R)) (gL s c o R):=by kernel_rfl
noncomputable def tGp:Con:=fun args regs=>match args,regs with
 | [.ag l,.c (.i _ c),.c (.i _ o)],[]=>(match rdSx l with
   | some s=>.must (args=[.ag s.nc,.c (.i .u8 c),.c (.i .i64 o)]) (.ret (gTu (s.gp c o).1 (s.gp c o).2))
   | none=>.fail)
 | _,_=>.fail
theorem gp_in {s:Sx} {c o:Int} {R:Out→Prop} (h:R (gTu (s.gp c o).1 (s.gp c o).2)):sel (decide (c<32)) (sel s.ho (sel s.mo (R (gTu s.he s.he)) (gL s c o R)) (gL s c o R)) (gL s c o R):=by
 unfold Sx.gp at h
 unfold gL chM
 cases h1:decide (c<32) with
 | true=>
   rw [h1] at h
   refine sT rfl ?_
   cases h2:s.ho with
   | true=>
     rw [h2] at h
     refine sT rfl ?_
     cases h3:s.mo with
     | true=>rw [h3] at h; exact h
     | false=>rw [h3] at h; exact h
   | false=>rw [h2] at h; exact h
 | false=>
   rw [h1] at h
   refine sF rfl (sF rfl ?_)
   cases h3:s.mo with
   | true=>
     rw [h3] at h
     refine sT rfl ?_
     cases h4:isM c with
     | true=>rw [h4] at h; exact ⟨rfl,rfl,h⟩
     | false=>rw [h4] at h; exact ⟨rfl,h⟩
   | false=>rw [h3] at h; exact ⟨rfl,h⟩
attribute [local irreducible] t_aGl in
theorem kGp:Known Tryz.prog GL 183 tGp:=by
 refine k_aGl.less fun args regs R h=>?_
 unfold tGp at h
 split at h
 case h_2=>exact h.elim
 split at h
 case h_2=>exact h.elim
 obtain ⟨h1,h⟩:=h
 rw [h1]
 exact (Box.of_eq (gl_t _ _ _ R) (gp_in h)).out
noncomputable def c_aStep:FuncId→Option Con:=conOf [(182,tAt),(183,tGp),(184,tBeh)]
theorem kc_aStep:∀ f T,c_aStep f=some T→Known Tryz.prog GL f T:=(Knowns.cons kAt (.cons kGp (.cons kBeh .nil))).get
noncomputable def t_aStep:Con:=fun args regs=>nfun Tryz.prog GL c_aStep [] Tryz.f171 args regs
theorem k_aStep:Known Tryz.prog GL 171 t_aStep:=known_inl Tryz.func171 rfl (by kernel_rfl) mixed kc_aStep (by kernel_rfl)
def celS (s:Sx) (g:Int) (hi:Int):List Sc:=[.i g,.i s.fg,.i s.bg,.b s.fl,.b s.co,.b s.bx,.b false,.b false,.i hi,.i 0]
def celN (s:Sx) (g:Int) (hi:Int):List NC:=[.i .i64 g,.i .i64 s.fg,.i .i64 s.bg,.b s.fl,.b s.co,.b s.bx,.b false,.b false,.i .i64 hi,.i .i64 0]
def Sx.hi (s:Sx):Int:=bif s.db then 1 else 0
def Sx.with (s:Sx) (h:Int):Sx:={s with he:=h}
def Sx.last (s:Sx) (c:Int):Sx:={s with la:=c}
def stpS (s:Sx) (c o:Int):Sx:=(((s.at' (b7 c)).with ((s.at' (b7 c)).gp (b7 c) o).2).beh (b7 c)).last (b7 c)
def stpC (s:Sx) (c o:Int):List Sc:=celS (s.at' (b7 c)) ((s.at' (b7 c)).gp (b7 c) o).1 (s.at' (b7 c)).hi
def oStp (s:Sx) (c o:Int) (hi:Int):Out:=⟨.tu [.ag (stpS s c o).nc,.ag (celN (s.at' (b7 c)) ((s.at' (b7 c)).gp (b7 c) o).1 hi)],[]⟩
def stpT (s:Sx) (c o:Int) (hi:Int) (R:Out→Prop):Prop:=[NV.ag (s.at' (b7 c)).nc,.c (.i .u8 (b7 c)),.c (.i .i64 o)]=[NV.ag (s.at' (b7 c)).nc,.c (.i .u8 (b7 c)),.c (.i .i64 o)]∧
 ([NV.ag ((s.at' (b7 c)).with ((s.at' (b7 c)).gp (b7 c) o).2).nc,.c (.i .u8 (b7 c))]=[NV.ag ((s.at' (b7 c)).with ((s.at' (b7 c)).gp (b7 c) o).2).nc,.c (.i .u8 (b7 c))]∧R (oStp s c o hi))
theorem step_tree (s:Sx) (c o:Int) (R:Out→Prop):(t_aStep [.ag s.nc,.c (.i .u8 c),.c (.i .i64 o)] []).run R =
 ([NV.ag s.nc,.c (.i .u8 (b7 c))]=[NV.ag s.nc,.c (.i .u8 (b7 c))]∧sel (s.at' (b7 c)).db (stpT s c o 1 R) (stpT s c o 0 R)):=by kernel_rfl
noncomputable def tStp:Con:=fun args regs=>match args,regs with
 | [.ag l,.c (.i _ c),.c (.i _ o)],[]=>(match rdSx l with
   | some s=>.must (args=[.ag s.nc,.c (.i .u8 c),.c (.i .i64 o)]) (.ret (oStp s c o (s.at' (b7 c)).hi))
   | none=>.fail)
 | _,_=>.fail
theorem stp_in {s:Sx} {c o:Int} {R:Out→Prop} (h:R (oStp s c o (s.at' (b7 c)).hi)):sel (s.at' (b7 c)).db (stpT s c o 1 R) (stpT s c o 0 R):=by
 unfold Sx.hi at h
 cases hd:(s.at' (b7 c)).db with
 | true=>rw [hd] at h; exact sT rfl ⟨rfl,rfl,h⟩
 | false=>rw [hd] at h; exact sF rfl ⟨rfl,rfl,h⟩
attribute [local irreducible] t_aStep in
theorem kStp:Known Tryz.prog GL 171 tStp:=by
 refine k_aStep.less fun args regs R h=>?_
 unfold tStp at h
 split at h
 case h_2=>exact h.elim
 split at h
 case h_2=>exact h.elim
 obtain ⟨h1,h⟩:=h
 rw [h1]
 exact (Box.of_eq (step_tree _ _ _ R) ⟨rfl,stp_in h⟩).out
end gr
end
section
namespace gr
open Go Go.Nx pk
open bm (ixU ixU_in)
noncomputable def t_aStart:Con:=fun args regs=>nfun Tryz.prog GL (fun _=>Option.none) [] Tryz.f170 args regs
theorem k_aStart:Known Tryz.prog GL 170 t_aStart:=known_inl Tryz.func170 rfl (by kernel_rfl) mixed con_none (by kernel_rfl)
noncomputable def c_row:FuncId→Option Con:=conOf [(170,t_aStart),(171,tStp)]
theorem kc_row:∀ f T,c_row f=some T→Known Tryz.prog GL f T:=(Knowns.cons k_aStart (.cons kStp .nil)).get
noncomputable abbrev f_row:=Tryz.f150
noncomputable def X_row:Cx:={P:=Tryz.prog,con:=c_row,glob:=GL,m:=0,loops:=[]}
def KC:List CK:=[.i .i64,.i .i64,.i .i64,.b,.b,.b,.b,.b,.i .i64,.i .i64]
def rwR (xs:List (List Sc)):Reg:=⟨400,71,.sg [.recs KC 40 xs]⟩
def sxR (s:Sx):Reg:=⟨11,246,.cells s.nc⟩
def sRow (b:List Int) (o:Int) (res out:List (List Sc)) (s:Sx) (t:Bool) (k:Int):St:={fr:=frame 43 [(0,.v (.c (.l .u8 b))),(1,.v (.c (.i .i64 o))),(4,.v (.c (.p 0 0 0))),(6,.v (.c (.p 1 0 0))),(7,.v (.c (.p 2 0 0))),(8,.v (.c (.b t))),(12,.v (.c (.i .i64 k)))],rg:=[some (rwR res),some (rwR out),some (sxR s)]}
def dRow (res out:List (List Sc)) (t:Bool):St:={fr:=frame 43 [(4,.v (.c (.p 0 0 0))),(6,.v (.c (.p 1 0 0))),(8,.v (.c (.b t)))],rg:=[some (rwR res),some (rwR out)]}
noncomputable def rRow (s:St):Tr RO:=roundT X_row 0 [0,1,4,6,7,8,12] [4,6,8] (bodyLoop f_row 0) s
def bAt (b:List Int) (k:Nat):Int:=bif decide ((k:Int)<(b.length:Int)) then b.getD k 0 else 32
def xI (x:List Sc) (j:Nat):Int:=(x.getD j (.i 0)).n
def xB (x:List Sc) (j:Nat):Bool:=(x.getD j (.i 0)).t
def stC (k:Int) (A:Prop):Prop:=sel (decide (0≤k)) (sel (decide (k<40)) (sel (decide (k.toNat+1≤40)) A False) False) False
def ixC (k:Int) (A:Prop):Prop:=sel (decide (0≤k)) (sel (decide (k<40)) (sel (decide (k.toNat<40)) A False) False) False
theorem stC_in {k:Int} {A:Prop} (h:0≤k∧k<40) (hA:A):stC k A:=sT (decide_eq_true h.1) (sT (decide_eq_true h.2) (sT (decide_eq_true (by omega)) hA))
theorem ixC_in {k:Int} {A:Prop} (h:0≤k∧k<40) (hA:A):ixC k A:=sT (decide_eq_true h.1) (sT (decide_eq_true h.2) (sT (decide_eq_true (by omega)) hA))
def nxRow (b:List Int) (o:Int) (res out:List (List Sc)) (s:Sx) (c:Int) (t:Bool) (k:Int) (R:RO→Prop):Prop:=R (.next (sRow b o res (spl out k.toNat 1 [stpC s c o]) (stpS s c o) t (w64 (k+1))))
def bodR (b:List Int) (o:Int) (res out:List (List Sc)) (s:Sx) (c:Int) (t:Bool) (k:Int) (R:RO→Prop):Prop:=
 [NV.ag s.nc,.c (.i .u8 c),.c (.i .i64 o)]=[NV.ag s.nc,.c (.i .u8 c),.c (.i .i64 o)]∧stC k (sel t (nxRow b o res out s c true k R) (ixC k (nxRow b o res out s c (xI ((spl out k.toNat 1 [stpC s c o]).getD k.toNat []) 8==1) k R)))
theorem row_tree (b:List Int) (o:Int) (res out:List (List Sc)) (s:Sx) (t:Bool) (k:Int) (R:RO→Prop):(rRow (sRow b o res out s t k)).run R =
 sel (decide (k<40)) (sel (decide (k<(b.length:Int))) (ixU k b.length (bodR b o res out s (b.getD k.toNat 0) t k R)) (bodR b o res out s 32 t k R)) (R (.done .normal (dRow res out t))):=by kernel_rfl
def celV (b:List Int) (o:Int):Nat→Nat→Sx→List (List Sc)
 | 0,_,_=>[]
 | n+1,k,s=>stpC s (bAt b k) o::celV b o n (k+1) (stpS s (bAt b k) o)
def tal (l:List (List Sc)):Bool:=l.any fun x=>xI x 8==1
theorem celV_len (b:List Int) (o:Int):∀ n k s,(celV b o n k s).length=n
 | 0,_,_=>rfl
 | n+1,k,s=>by
   show (celV b o n (k+1) _).length+1=_
   rw [celV_len b o n]
theorem spl1_take {α:Type} {xs:List α} {k:Nat} {y:α} (h:k<xs.length):(spl xs k 1 [y]).take (k+1)=xs.take k++[y]∧(spl xs k 1 [y]).length=xs.length∧(spl xs k 1 [y])[k]? = some y:=by
 have e:spl xs k 1 [y]=xs.take k++([y]++xs.drop (k+1)):=by
  show xs.set k y=_
  rw [List.set_eq_take_append_cons_drop,if_pos h]
  rfl
 rw [e]
 have hl:(xs.take k).length=k:=by rw [List.length_take]; omega
 refine ⟨?_,?_,?_⟩
 ·rw [List.take_append,hl,List.take_of_length_le (by omega)]
  simp
 ·simp; omega
 ·rw [List.getElem?_append_right (by omega),hl]
  simp
structure ARow where
 b:List Int
 o:Int
 res:List (List Sc)
 out:List (List Sc)
 s:Sx
 t:Bool
 k:Nat
def hRow (x:ARow):St:=sRow x.b x.o x.res x.out x.s x.t (x.k:Int)
def preRow (x:ARow) (R:NExit × St→Prop):Prop:=(x.k≤40∧x.out.length=40)∧R (.normal,dRow x.res (x.out.take x.k++celV x.b x.o (40 - x.k) x.k x.s) (x.t||tal (celV x.b x.o (40 - x.k) x.k x.s)))
def nxtRow (x:ARow) (R:NExit × St→Prop) (q:RO):Prop:=match q with
 | .next s=>∃ y,s=hRow y∧40 - y.k<40 - x.k∧preRow y R
 | .done e s=>R (e,s)
theorem row_in (x:ARow) (R:NExit × St→Prop) (h:preRow x R):Box ((rRow (hRow x)).run (nxtRow x R)):=by
 obtain ⟨b,o,res,out,s,t,k⟩:=x
 obtain ⟨⟨h1,h2⟩,hR⟩:=h
 simp only at h1 h2 hR
 have hw:w64 ((k:Int)+1)=((k+1:Nat):Int):=by show IntKind.i64.wrap _=_; rw [IntKind.wrap_i64]; omega
 have ek:((k:Nat):Int).toNat=k:=by simp
 refine Box.of_eq (row_tree b o res out s t (k:Int) _) ?_
 by_cases hk:k<40
 ·obtain ⟨e1,e2,e3⟩:=spl1_take (xs:=out) (k:=k) (y:=stpC s (bAt b k) o) (by omega)
  obtain ⟨n,hn⟩:∃ n,40 - k=n+1:=⟨39 - k,by omega⟩
  have hn' : 40 - (k+1)=n:=by omega
  have eg:(spl out k 1 [stpC s (bAt b k) o]).getD k []=stpC s (bAt b k) o:=by rw [List.getD_eq_getElem?_getD,e3]; rfl
  rw [hn] at hR
  have key:∀ t',t'=(t||xI (stpC s (bAt b k) o) 8==1)→nxRow b o res out s (bAt b k) t' (k:Int) (nxtRow ⟨b,o,res,out,s,t,k⟩ R):=by
   intro t' ht
   subst ht
   unfold nxRow
   rw [ek,hw]
   refine ⟨⟨b,o,res,spl out k 1 [stpC s (bAt b k) o],stpS s (bAt b k) o,(t||xI (stpC s (bAt b k) o) 8==1),k+1⟩,rfl,by simp only; omega,⟨by simp only; omega,by simp only; omega⟩,?_⟩
   simp only [hn']
   rw [e1,List.append_assoc]
   have ea:((t||xI (stpC s (bAt b k) o) 8==1)||tal (celV b o n (k+1) (stpS s (bAt b k) o)))=(t||tal (celV b o (n+1) k s)):=by
    show _=(t||((xI (stpC s (bAt b k) o) 8==1)||tal (celV b o n (k+1) (stpS s (bAt b k) o))))
    rw [Bool.or_assoc]
   rw [ea]
   exact hR
  have go:bodR b o res out s (bAt b k) t (k:Int) (nxtRow ⟨b,o,res,out,s,t,k⟩ R):=by
   refine ⟨rfl,stC_in ⟨by omega,by omega⟩ ?_⟩
   cases ht:t with
   | true=>subst ht; exact sT rfl (key _ (by rw [Bool.true_or]))
   | false=>
     subst ht
     refine sF rfl (ixC_in ⟨by omega,by omega⟩ (key _ ?_))
     rw [ek,eg,Bool.false_or]
  refine sT (decide_eq_true (by omega)) ?_
  by_cases hb:(k:Int)<(b.length:Int)
  ·have eb:bAt b k=b.getD k 0:=by unfold bAt; rw [decide_eq_true hb]; rfl
   refine sT (decide_eq_true hb) (ixU_in ⟨by omega,hb⟩ ?_)
   rw [ek,← eb]
   exact go
  ·have eb:bAt b k=32:=by unfold bAt; rw [decide_eq_false hb]; rfl
   refine sF (decide_eq_false hb) ?_
   rw [eb] at go
   exact go
 ·refine sF (decide_eq_false (by omega)) ?_
  have e40:k=40:=by omega
  subst e40
  rw [List.take_of_length_le (by omega)] at hR
  have hR:R (.normal,dRow res (out++[]) (t||false)):=hR
  rw [List.append_nil,Bool.or_false] at hR
  exact hR
def rdRow (s:St):Option (List Int × Int × List (List Sc) × List (List Sc) × Sx):=match s.fr[(0:Nat)]?,s.fr[(1:Nat)]?,s.rg with
 | some (.v (.c (.l _ b))),some (.v (.c (.i _ o))),[some ⟨_,_,.sg [.recs _ _ res]⟩,some ⟨_,_,.sg [.recs _ _ out]⟩,some ⟨_,_,.cells l⟩]=>(match rdSx l with
   | some s=>some (b,o,res,out,s)
   | none=>none)
 | _,_,_=>none
def lRow (s:St):Tr (NExit × St):=match rdRow s with
 | some (b,o,res,out,x)=>.must (s=sRow b o res out x false 0∧out.length=40) (.ret (.normal,dRow res (celV b o 40 0 x) (tal (celV b o 40 0 x))))
 | none=>.fail
theorem loop_row:LOk Tryz.prog GL 0 0 (bodyLoop f_row 0) lRow:=by
 refine loop_ok (X:=X_row) kc_row mixed (LAll.none (by kernel_rfl)) [0,1,4,6,7,8,12] [4,6,8] hRow (fun x=>40 - x.k) preRow ?_ ?_
 ·intro s R h
  unfold lRow at h
  split at h
  case h_2=>exact h.elim
  rename_i b o res out x hx
  obtain ⟨⟨hs,hl⟩,hR⟩:=h
  refine ⟨⟨b,o,res,out,x,false,0⟩,hs,⟨Nat.zero_le _,hl⟩,?_⟩
  show R (.normal,dRow res ([]++celV b o 40 0 x) (false||tal (celV b o 40 0 x)))
  rw [List.nil_append,Bool.false_or]
  exact hR
 ·intro x R h
  exact Tr.run_mono _ (fun q hq=>hq) (row_in x R h).out
noncomputable def t_row:Con:=fun args regs=>if regs.length=0 then nfun Tryz.prog GL c_row [(0,[0,1,4,6,7,8,12],lRow)] f_row args regs else .fail
theorem k_row:Known Tryz.prog GL 150 t_row:=known_loops 0 Tryz.func150 rfl (by kernel_rfl) mixed kc_row (LAll.one (id:=0) (body:=bodyLoop f_row 0) (by kernel_rfl) rfl loop_row)
def sx0:Sx:=⟨7,0,false,false,false,false,false,false,false,32,0⟩
def zc:List Sc:=[.i 0,.i 0,.i 0,.b false,.b false,.b false,.b false,.b false,.i 0,.i 0]
def oRw (l:List (List Sc)) (t:Bool):Out:=⟨.tu [.sg [.recs KC 40 l],.c (.b t)],[]⟩
def rowV (b:List Int) (o:Int):List (List Sc):=celV b o 40 0 sx0
theorem rowf_tree (b:List Int) (o:Int) (R:Out→Prop):(t_row [.c (.l .u8 b),.c (.i .i64 o)] []).run R=((sRow b o (List.replicate 40 zc) (List.replicate 40 zc) sx0 false 0=sRow b o (List.replicate 40 zc) (List.replicate 40 zc) sx0 false 0∧(List.replicate 40 zc).length=40)∧R (oRw (rowV b o) (tal (rowV b o)))):=by kernel_rfl
noncomputable def tRow:Con:=fun args regs=>match args,regs with
 | [.c (.l _ b),.c (.i _ o)],[]=>.must (args=[.c (.l .u8 b),.c (.i .i64 o)]) (.ret (oRw (rowV b o) (tal (rowV b o))))
 | _,_=>.fail
attribute [local irreducible] t_row in
theorem kRow:Known Tryz.prog GL 150 tRow:=by
 refine k_row.less fun args regs R h=>?_
 unfold tRow at h
 split at h
 case h_2=>exact h.elim
 obtain ⟨h1,h⟩:=h
 rw [h1]
 exact (Box.of_eq (rowf_tree _ _ R) ⟨⟨rfl,rfl⟩,h⟩).out
end gr
end
section
namespace gr
open Go Go.Nx pk
open bm (ixU ixU_in)
noncomputable def t_cChars:Con:=fun args regs=>nfun Tryz.prog GL (fun _=>Option.none) [] Tryz.f186 args regs
theorem k_cChars:Known Tryz.prog GL 186 t_cChars:=known_inl Tryz.func186 rfl (by kernel_rfl) mixed con_none (by kernel_rfl)
noncomputable def c_cChar:FuncId→Option Con:=conOf [(186,t_cChars)]
theorem kc_cChar:∀ f T,c_cChar f=some T→Known Tryz.prog GL f T:=(Knowns.cons k_cChars .nil).get
noncomputable def t_cChar:Con:=fun args regs=>nfun Tryz.prog GL c_cChar [] Tryz.f180 args regs
theorem k_cChar:Known Tryz.prog GL 180 t_cChar:=known_inl Tryz.func180 rfl (by kernel_rfl) mixed kc_cChar (by kernel_rfl)
noncomputable def t_cMore:Con:=fun args regs=>nfun Tryz.prog GL (fun _=>Option.none) [] Tryz.f195 args regs
theorem k_cMore:Known Tryz.prog GL 195 t_cMore:=known_inl Tryz.func195 rfl (by kernel_rfl) mixed con_none (by kernel_rfl)
noncomputable def c_cPairs:FuncId→Option Con:=conOf [(195,t_cMore)]
theorem kc_cPairs:∀ f T,c_cPairs f=some T→Known Tryz.prog GL f T:=(Knowns.cons k_cMore .nil).get
noncomputable def t_cPairs:Con:=fun args regs=>nfun Tryz.prog GL c_cPairs [] Tryz.f187 args regs
theorem k_cPairs:Known Tryz.prog GL 187 t_cPairs:=known_inl Tryz.func187 rfl (by kernel_rfl) mixed kc_cPairs (by kernel_rfl)
noncomputable def c_cJoin:FuncId→Option Con:=conOf [(187,t_cPairs),(188,tPl)]
theorem kc_cJoin:∀ f T,c_cJoin f=some T→Known Tryz.prog GL f T:=(Knowns.cons k_cPairs (.cons kPl .nil)).get
noncomputable def X_cJoin:Cx:={P:=Tryz.prog,con:=c_cJoin,glob:=GL,m:=0,loops:=[]}
noncomputable def t_cJoin:Con:=fun args regs=>if regs.length=0 then nfun Tryz.prog GL c_cJoin [(0,[0,1,16,17,18],unroll X_cJoin 0 [0,1,16,17,18] [0,1,4] (bodyLoop Tryz.f181 0) 22)] Tryz.f181 args regs else .fail
theorem k_cJoin:Known Tryz.prog GL 181 t_cJoin:=known_loops 0 Tryz.func181 rfl (by kernel_rfl) mixed kc_cJoin (LAll.one (id:=0) (body:=bodyLoop Tryz.f181 0) (by kernel_rfl) rfl (unroll_ok (X:=X_cJoin) kc_cJoin mixed (LAll.none (by kernel_rfl)) [0,1,16,17,18] [0,1,4] 22))
noncomputable def t_oRow:Con:=fun args regs=>nfun Tryz.prog GL (fun _=>Option.none) [] Tryz.f168 args regs
theorem k_oRow:Known Tryz.prog GL 168 t_oRow:=known_inl Tryz.func168 rfl (by kernel_rfl) mixed con_none (by kernel_rfl)
def tA:List Int:=[32,161,162,163,36,165,35,167,164,8216,8220,171,8592,8593,8594,8595,176,177,178,179,215,181,182,183,247,8217,8221,187,188,189,190,191,32,96,180,710,732,175,728,729,168,803,730,184,95,733,731,711,8213,185,174,169,8482,9834,8352,8240,8733,32,32,32,8539,8540,8541,8542,8486,198,272,170,294,32,306,319,321,216,338,186,222,358,330,329,312,230,273,240,295,305,307,320,322,248,339,223,254,359,331,9632]
def ixA (c:Int):Int:=IntKind.u8.wrap (b7 c - 32)
def acV (c:Int):Int:=bif decide (b7 c ≥ 32) then tA.getD (ixA c).toNat 0 else 32
def ps1:List (Int × Int):=[(65,192),(69,200),(73,204),(79,210),(85,217),(97,224),(101,232),(105,236),(111,242),(117,249)]
def ps2:List (Int × Int):=[(65,193),(69,201),(73,205),(79,211),(85,218),(89,221),(67,262),(78,323),(83,346),(90,377),(97,225),(101,233),(105,237),(111,243),(117,250),(121,253),(99,263),(110,324),(115,347),(122,378)]
def ps3:List (Int × Int):=[(65,194),(69,202),(73,206),(79,212),(85,219),(97,226),(101,234),(105,238),(111,244),(117,251)]
def ps4:List (Int × Int):=[(65,195),(78,209),(79,213),(97,227),(110,241),(111,245)]
def ps6:List (Int × Int):=[(65,258),(71,286),(97,259),(103,287)]
def ps7:List (Int × Int):=[(73,304),(90,379),(122,380)]
def ps8:List (Int × Int):=[(65,196),(69,203),(73,207),(79,214),(85,220),(97,228),(101,235),(105,239),(111,246),(117,252),(121,255)]
def ps10:List (Int × Int):=[(65,197),(85,366),(97,229),(117,367)]
def ps11:List (Int × Int):=[(67,199),(83,350),(84,354),(99,231),(115,351),(116,355)]
def ps13:List (Int × Int):=[(79,336),(85,368),(111,337),(117,369)]
def ps14:List (Int × Int):=[(65,260),(69,280),(97,261),(101,281)]
def ps15:List (Int × Int):=[(67,268),(69,282),(82,344),(83,352),(90,381),(99,269),(101,283),(114,345),(115,353),(122,382)]
def valP (ps:List (Int × Int)) (c:Int) (d:Int):Int:=ps.foldr (fun p r=>bif p.1==c then p.2 else r) d
def runP (ps:List (Int × Int)) (c:Int) (R:Int→Prop) (E:Prop):Prop:=ps.foldr (fun p r=>sel (p.1==c) (R p.2) r) E
theorem runP_in {R:Int→Prop} {c:Int} {d:Int} {E:Prop} (hE:R d→E):∀ {ps:List (Int × Int)},R (valP ps c d)→runP ps c R E
 | [],h=>hE h
 | p::ps,h=>sel_bif (R:=R) (c:=p.1==c) (a:=p.2) (b:=valP ps c d) h id (fun h=>runP_in hE h)
def plA (c:Int) (R:Out→Prop):Prop:=[NV.c (.i .u8 (b7 c))]=[NV.c (.i .u8 (b7 c))]∧R (gO (plV (b7 c)))
def tlJ (m c:Int) (R:Out→Prop):Prop:=sel (b7 c==42) (sel (m==0) (R (gO 64)) (plA c R)) (plA c R)
def pR (ps:List (Int × Int)) (m c:Int) (R:Out→Prop):Prop:=runP ps (b7 c) (fun g=>R (gO g)) (tlJ m c R)
def jnT (m c:Int) (R:Out→Prop):Prop:=sel (decide (m<0)) (R (gO 0)) (sel (decide (m ≥ 16)) (R (gO 0)) (
 sel (m==1) (pR ps1 m c R) (sel (m==2) (pR ps2 m c R) (sel (m==3) (pR ps3 m c R) (sel (m==4) (pR ps4 m c R) (sel (m==6) (pR ps6 m c R) (sel (m==7) (pR ps7 m c R) (sel (m==8) (pR ps8 m c R) (sel (m==10) (pR ps10 m c R) (sel (m==11) (pR ps11 m c R) (sel (m==13) (pR ps13 m c R) (sel (m==14) (pR ps14 m c R) (sel (m==15) (pR ps15 m c R) (tlJ m c R))))))))))))))
def jlV (m c:Int):Int:=bif b7 c==42 then (bif m==0 then 64 else plV (b7 c)) else plV (b7 c)
def jnV (m c:Int):Int:=bif decide (m<0) then 0 else bif decide (m ≥ 16) then 0 else
 bif m==1 then valP ps1 (b7 c) (jlV m c) else bif m==2 then valP ps2 (b7 c) (jlV m c) else bif m==3 then valP ps3 (b7 c) (jlV m c) else bif m==4 then valP ps4 (b7 c) (jlV m c) else bif m==6 then valP ps6 (b7 c) (jlV m c) else bif m==7 then valP ps7 (b7 c) (jlV m c) else bif m==8 then valP ps8 (b7 c) (jlV m c) else bif m==10 then valP ps10 (b7 c) (jlV m c) else bif m==11 then valP ps11 (b7 c) (jlV m c) else bif m==13 then valP ps13 (b7 c) (jlV m c) else bif m==14 then valP ps14 (b7 c) (jlV m c) else bif m==15 then valP ps15 (b7 c) (jlV m c) else jlV m c
theorem jn_tree (m c:Int) (R:Out→Prop):(t_cJoin [.c (.i .i64 m),.c (.i .u8 c)] []).run R=jnT m c R:=by kernel_rfl
theorem ch_tree (c:Int) (R:Out→Prop):(t_cChar [.c (.i .u8 c)] []).run R=sel (decide (b7 c ≥ 32)) (sel (decide (0≤ixA c)) (sel (decide (ixA c<96)) (sel (decide ((ixA c).toNat<96)) (R (gO (tA.getD (ixA c).toNat 0))) False) False) False) (R (gO 32)):=by kernel_rfl
noncomputable def tAc:Con:=fun args regs=>match args,regs with
 | [.c (.i _ c)],[]=>.must (args=[.c (.i .u8 c)]) (.ret (gO (acV c)))
 | _,_=>.fail
theorem b7_lt (c:Int):0≤b7 c∧b7 c<128:=by
 have e:=bits_u8 .and c 127
 have hb:(bvop .and (BitVec.ofInt 8 c) (BitVec.ofInt 8 127)).toNat<128:=by
  show (BitVec.ofInt 8 c &&& BitVec.ofInt 8 127).toNat<128
  rw [BitVec.toNat_and]
  exact Nat.lt_of_le_of_lt Nat.and_le_right (by decide)
 rw [show b7 c=_ from e]
 unfold u8
 omega
theorem kAc:Known Tryz.prog GL 180 tAc:=by
 refine k_cChar.less fun args regs R h=>?_
 unfold tAc at h
 split at h
 case h_2=>exact h.elim
 rename_i _ c
 obtain ⟨h1,h⟩:=h
 rw [h1]
 have h:(fun n=>R (gO n)) (acV c):=h
 unfold acV at h
 have hb:=b7_lt c
 refine (Box.of_eq (ch_tree c R) ?_).out
 cases h32:decide (b7 c ≥ 32) with
 | true=>
   rw [h32] at h
   have h32:=of_decide_eq_true h32
   have hx:ixA c=b7 c - 32:=by unfold ixA; rw [IntKind.wrap_u8]; omega
   refine sT rfl ?_
   rw [hx] at h ⊢
   exact sT (decide_eq_true (by omega)) (sT (decide_eq_true (by omega)) (sT (decide_eq_true (by omega)) h))
 | false=>rw [h32] at h; exact sF rfl h
noncomputable def tJn:Con:=fun args regs=>match args,regs with
 | [.c (.i _ m),.c (.i _ c)],[]=>.must (args=[.c (.i .i64 m),.c (.i .u8 c)]) (.ret (gO (jnV m c)))
 | _,_=>.fail
theorem tlJ_in {m c:Int} {R:Out→Prop} (h:R (gO (jlV m c))):tlJ m c R:=by
 have h:(fun n=>R (gO n)) (jlV m c):=h
 unfold jlV at h
 exact sel_bif (R:=fun n=>R (gO n)) h (fun h=>sel_bif (R:=fun n=>R (gO n)) h id fun h=>⟨rfl,h⟩) fun h=>⟨rfl,h⟩
theorem pR_in {ps:List (Int × Int)} {m c:Int} {R:Out→Prop} (h:R (gO (valP ps (b7 c) (jlV m c)))):pR ps m c R:=runP_in (R:=fun n=>R (gO n)) tlJ_in h
theorem jnT_in {m c:Int} {R:Out→Prop} (h:R (gO (jnV m c))):jnT m c R:=by
 have h:(fun n=>R (gO n)) (jnV m c):=h
 unfold jnV at h
 have q:=fun {c:Bool} {a b:Int} {A B:Prop}=>@sel_bif Int (fun n=>R (gO n)) c a b A B
 exact q h id fun h=>q h id fun h=>q h pR_in fun h=>q h pR_in fun h=>q h pR_in fun h=>q h pR_in fun h=>q h pR_in fun h=>q h pR_in fun h=>q h pR_in fun h=>q h pR_in fun h=>q h pR_in fun h=>q h pR_in fun h=>q h pR_in fun h=>q h pR_in fun h=>tlJ_in h
attribute [local irreducible] t_cJoin in
theorem kJn:Known Tryz.prog GL 181 tJn:=by
 refine k_cJoin.less fun args regs R h=>?_
 unfold tJn at h
 split at h
 case h_2=>exact h.elim
 obtain ⟨h1,h⟩:=h
 rw [h1]
 exact (Box.of_eq (jn_tree _ _ R) (jnT_in h)).out
def roV (a m o:Int):Int:=bif m==4 then (bif a==40 then 24 else w64 (a - 40)) else bif m==7 then (bif a==63 then 0 else o) else o
def ro7 (a m o:Int) (R:Out→Prop):Prop:=sel (m==7) (sel (a==63) (R (gO 0)) (R (gO o))) (R (gO o))
theorem orow_tree (a m d o:Int) (R:Out→Prop):(t_oRow [.ag [.i .i64 a,.i .i64 m,.i .i64 d],.c (.i .i64 o)] []).run R =
 sel (m==4) (sel (a==40) (R (gO 24)) (sel (m==4) (R (gO (w64 (a - 40)))) (ro7 a m o R))) (sel (m==4) (R (gO (w64 (a - 40)))) (ro7 a m o R)):=by kernel_rfl
noncomputable def tOr:Con:=fun args regs=>match args,regs with
 | [.ag [.i _ a,.i _ m,.i _ d],.c (.i _ o)],[]=>.must (args=[.ag [.i .i64 a,.i .i64 m,.i .i64 d],.c (.i .i64 o)]) (.ret (gO (roV a m o)))
 | _,_=>.fail
theorem or_in {a m o:Int} {R:Out→Prop} (h:R (gO (roV a m o))):sel (m==4) (sel (a==40) (R (gO 24)) (sel (m==4) (R (gO (w64 (a - 40)))) (ro7 a m o R))) (sel (m==4) (R (gO (w64 (a - 40)))) (ro7 a m o R)):=by
 have h:(fun n=>R (gO n)) (roV a m o):=h
 unfold roV at h
 have q:=fun {c:Bool} {a b:Int} {A B:Prop}=>@sel_bif Int (fun n=>R (gO n)) c a b A B
 cases h4:m==4 with
 | true=>rw [h4] at h; exact sT rfl (q h id fun h=>sT rfl h)
 | false=>rw [h4] at h; exact sF rfl (sF rfl (q h (fun h=>q h id id) id))
theorem kOr:Known Tryz.prog GL 168 tOr:=by
 refine k_oRow.less fun args regs R h=>?_
 unfold tOr at h
 split at h
 case h_2=>exact h.elim
 obtain ⟨h1,h⟩:=h
 rw [h1]
 exact (Box.of_eq (orow_tree _ _ _ _ R) (or_in h)).out
noncomputable def c_oGl:FuncId→Option Con:=conOf [(180,tAc),(181,tJn)]
theorem kc_oGl:∀ f T,c_oGl f=some T→Known Tryz.prog GL f T:=(Knowns.cons kAc (.cons kJn .nil)).get
noncomputable def t_oGl:Con:=fun args regs=>nfun Tryz.prog GL c_oGl [] Tryz.f169 args regs
theorem k_oGl:Known Tryz.prog GL 169 t_oGl:=known_inl Tryz.func169 rfl (by kernel_rfl) mixed kc_oGl (by kernel_rfl)
def glU (d:Int):Int:=IntKind.u8.wrap d
def gP (n:Int) (b:Bool):Out:=⟨.tu [.c (.i .i64 n),.c (.b b)],[]⟩
def glT (a m d:Int):Int × Bool:=bif decide (d<32) then (0,false) else bif decide (a<0) then (0,false) else bif m==15 then (acV (glU d),true) else bif decide (m ≥ 16) then (bif decide (m≤31) then (jnV (w64 (m - 16)) (glU d),true) else (0,false)) else (0,false)
theorem ogl_tree (a m d:Int) (R:Out→Prop):(t_oGl [.ag [.i .i64 a,.i .i64 m,.i .i64 d]] []).run R =
 sel (decide (d<32)) (R (gP 0 false)) (sel (decide (a<0)) (R (gP 0 false)) (sel (m==15) ([NV.c (.i .u8 (glU d))]=[NV.c (.i .u8 (glU d))]∧R (gP (acV (glU d)) true))
  (sel (decide (m ≥ 16)) (sel (decide (m≤31)) ([NV.c (.i .i64 (w64 (m - 16))),.c (.i .u8 (glU d))]=[NV.c (.i .i64 (w64 (m - 16))),.c (.i .u8 (glU d))]∧R (gP (jnV (w64 (m - 16)) (glU d)) true)) (R (gP 0 false))) (R (gP 0 false))))):=by kernel_rfl
noncomputable def tOg:Con:=fun args regs=>match args,regs with
 | [.ag [.i _ a,.i _ m,.i _ d]],[]=>.must (args=[.ag [.i .i64 a,.i .i64 m,.i .i64 d]]) (.ret (gP (glT a m d).1 (glT a m d).2))
 | _,_=>.fail
theorem kOg:Known Tryz.prog GL 169 tOg:=by
 refine k_oGl.less fun args regs R h=>?_
 unfold tOg at h
 split at h
 case h_2=>exact h.elim
 rename_i _ a _ m _ d
 obtain ⟨h1,h⟩:=h
 rw [h1]
 have h:(fun x:Int × Bool=>R (gP x.1 x.2)) (glT a m d):=h
 unfold glT at h
 have q:=fun {c:Bool} {a b:Int × Bool} {A B:Prop}=>@sel_bif (Int × Bool) (fun x:Int × Bool=>R (gP x.1 x.2)) c a b A B
 exact (Box.of_eq (ogl_tree _ _ _ R) (q h id fun h=>q h id fun h=>q h (fun h=>⟨rfl,h⟩) fun h=>q h (fun h=>q h (fun h=>⟨rfl,h⟩) id) id)).out
end gr
end
section
namespace gr
open Go Go.Nx pk
open bm (ixU ixU_in)
noncomputable abbrev f_sp:=Tryz.f148
noncomputable def c_sp:FuncId→Option Con:=conOf [(168,tOr),(169,tOg)]
theorem kc_sp:∀ f T,c_sp f=some T→Known Tryz.prog GL f T:=(Knowns.cons kOr (.cons kOg .nil)).get
noncomputable def X_sp:Cx:={P:=Tryz.prog,con:=c_sp,glob:=GL,m:=0,loops:=[]}
def K3:List CK:=[.i .i64,.i .i64,.i .i64]
def spR (xs:List (List Sc)):Reg:=⟨3,244,.recs K3 xs⟩
def slS (r:Nat):Option (List (List Sc) × Nat)→NC
 | none=>.sn
 | some x=>.h r 0 x.2
def slG:Option (List (List Sc) × Nat)→List (Option Reg)
 | none=>[]
 | some x=>[some (spR x.1)]
def sSp (L:List (List Sc)) (S:Option (List (List Sc) × Nat)) (at' : Int) (n:Int) (i:Int):St:={fr:=frame 44 [(3,.v (.c (slS 0 S))),(4,.v (.c (.i .i64 at'))),(9,.v (.c (.lr K3 L))),(10,.v (.c (.i .i64 n))),(11,.v (.c (.i .i64 i)))],rg:=slG S}
def dSp (S:Option (List (List Sc) × Nat)):St:={fr:=frame 44 [(3,.v (.c (slS 0 S)))],rg:=slG S}
noncomputable def rSp (s:St):Tr RO:=roundT X_sp 0 [3,4,9,10,11] [3] (bodyLoop f_sp 0) s
def trN (x:List Sc):NV:=.ag [.i .i64 (xI x 0),.i .i64 (xI x 1),.i .i64 (xI x 2)]
def apS (m n:Nat) (N:Prop):Prop:=sel (decide (0+m≤n)) (sel (decide ((m+1) * bytesT Tryz.prog 244≤140737488355328)) (sel (decide (m+1≤9223372036854775807)) N False) False) False
def gT (x:List Sc):Int × Bool:=glT (xI x 0) (xI x 1) (xI x 2)
def spotR (x:List Sc) (at' : Int):List Sc:=[.i at',.i (xI x 0),.i (gT x).1]
def nxS (L:List (List Sc)) (n i:Int) (R:RO→Prop) (S:Option (List (List Sc) × Nat)) (at' : Int):Prop:=R (.next (sSp L S at' n (w64 (i+1))))
def spT (L:List (List Sc)) (S:Option (List (List Sc) × Nat)) (x:List Sc) (at' n i:Int) (R:RO→Prop) (A:Prop):Prop:=
 sel (decide (xI x 0 ≥ 40)) (sel (xI x 1==31) (R (.done .normal (dSp S))) ([trN x,.c (.i .i64 at')]=[trN x,.c (.i .i64 at')]∧nxS L n i R S (roV (xI x 0) (xI x 1) at')))
  ([trN x]=[trN x]∧sel (gT x).2 (sel (at' !=-1) A (nxS L n i R S at')) (nxS L n i R S at'))
theorem sp_none (L:List (List Sc)) (at' n i:Int) (R:RO→Prop):(rSp (sSp L none at' n i)).run R =
 sel (decide (i<n)) (ixU i L.length (spT L none (L.getD i.toNat []) at' n i R (nxS L n i R (some ([spotR (L.getD i.toNat []) at'],1)) at'))) (R (.done .normal (dSp none))):=by kernel_rfl
theorem sp_some (L:List (List Sc)) (ys:List (List Sc)) (q:Nat) (at' n i:Int) (R:RO→Prop):(rSp (sSp L (some (ys,q)) at' n i)).run R =
 sel (decide (i<n)) (ixU i L.length (spT L (some (ys,q)) (L.getD i.toNat []) at' n i R (apS q ys.length (nxS L n i R (some (List.take q ys++[spotR (L.getD i.toNat []) at'],q+1)) at')))) (R (.done .normal (dSp (some (ys,q))))):=by kernel_rfl
def spV:List (List Sc)→Int→List (List Sc)
 | [],_=>[]
 | x::L,at'=>bif decide (xI x 0 ≥ 40) then (bif xI x 1==31 then [] else spV L (roV (xI x 0) (xI x 1) at')) else bif (gT x).2 then (bif at' !=-1 then spotR x at'::spV L at' else spV L at') else spV L at'
def spO (E:List (List Sc)):Option (List (List Sc) × Nat):=match E with
 | []=>none
 | x::E=>some (x::E,E.length+1)
structure ASp where
 L:List (List Sc)
 E:List (List Sc)
 at' : Int
 i:Nat
def hSp (x:ASp):St:=sSp x.L (spO x.E) x.at' (x.L.length:Int) (x.i:Int)
def preSp (x:ASp) (R:NExit × St→Prop):Prop:=(x.i≤x.L.length∧x.L.length≤1000000∧x.E.length≤x.i)∧R (.normal,dSp (spO (x.E++spV (x.L.drop x.i) x.at')))
def nxtSp (x:ASp) (R:NExit × St→Prop) (q:RO):Prop:=match q with
 | .next s=>∃ y,s=hSp y∧y.L.length - y.i<x.L.length - x.i∧preSp y R
 | .done e s=>R (e,s)
theorem bytesSp:bytesT Tryz.prog 244=24:=by kernel_rfl
theorem sp_of {L:List (List Sc)} {S:Option (List (List Sc) × Nat)} {x:List Sc} {at' n i:Int} {R:RO→Prop} {A:Prop}
  (h1:decide (xI x 0 ≥ 40)=true→(xI x 1==31)=true→R (.done .normal (dSp S))) (h2:decide (xI x 0 ≥ 40)=true→(xI x 1==31)=false→nxS L n i R S (roV (xI x 0) (xI x 1) at'))
  (h3:decide (xI x 0 ≥ 40)=false→(gT x).2=true→(at' !=-1)=true→A) (h4:decide (xI x 0 ≥ 40)=false→((gT x).2=false∨(at' !=-1)=false)→nxS L n i R S at'):spT L S x at' n i R A:=by
 unfold spT
 cases c1:decide (xI x 0 ≥ 40) with
 | true=>
   refine sT rfl ?_
   cases c2:xI x 1==31 with
   | true=>exact sT rfl (h1 c1 c2)
   | false=>exact sF rfl ⟨rfl,h2 c1 c2⟩
 | false=>
   refine sF rfl ⟨rfl,?_⟩
   cases c3:(gT x).2 with
   | true=>
     refine sT rfl ?_
     cases c4:at' !=-1 with
     | true=>exact sT rfl (h3 c1 c3 c4)
     | false=>exact sF rfl (h4 c1 (.inr c4))
   | false=>exact sF rfl (h4 c1 (.inl c3))
theorem sp_in (x:ASp) (R:NExit × St→Prop) (h:preSp x R):Box ((rSp (hSp x)).run (nxtSp x R)):=by
 obtain ⟨L,E,at',i⟩:=x
 obtain ⟨⟨h1,h2,h3⟩,hR⟩:=h
 simp only at h1 h2 h3 hR
 have hw:w64 ((i:Int)+1)=((i+1:Nat):Int):=by show IntKind.i64.wrap _=_; rw [IntKind.wrap_i64]; omega
 have ek:((i:Nat):Int).toNat=i:=by simp
 by_cases hk:i<L.length
 ·have eg:L.getD i []=L[i]:=by rw [List.getD_eq_getElem?_getD,List.getElem?_eq_getElem hk]; rfl
  have ed:spV (L.drop i) at'=spV (L[i]::L.drop (i+1)) at':=by rw [← List.drop_eq_getElem_cons hk]
  rw [ed] at hR
  have nx:∀ E' a',E'.length≤i+1→R (.normal,dSp (spO (E'++spV (L.drop (i+1)) a')))→nxS L (L.length:Int) (i:Int) (nxtSp ⟨L,E,at',i⟩ R) (spO E') a':=fun E' a' hl hr=>by
   unfold nxS
   rw [hw]
   exact ⟨⟨L,E',a',i+1⟩,rfl,by simp only; omega,⟨by simp only; omega,h2,hl⟩,hr⟩
  have body:∀ A:Prop,(nxS L (L.length:Int) (i:Int) (nxtSp ⟨L,E,at',i⟩ R) (spO (E++[spotR L[i] at'])) at'→A)→spT L (spO E) L[i] at' (L.length:Int) (i:Int) (nxtSp ⟨L,E,at',i⟩ R) A:=fun A hA=>by
   refine sp_of (fun c1 c2=>?_) (fun c1 c2=>nx E _ (by omega) ?_) (fun c1 c3 c4=>hA (nx _ _ (by simp; omega) ?_)) (fun c1 c3=>nx E _ (by omega) ?_)
   ·unfold spV at hR
    rw [c1,c2] at hR
    have hR:R (.normal,dSp (spO (E++[]))):=hR
    rw [List.append_nil] at hR
    exact hR
   ·unfold spV at hR
    rw [c1,c2] at hR
    exact hR
   ·unfold spV at hR
    rw [c1,c3,c4] at hR
    rw [List.append_assoc]
    exact hR
   ·unfold spV at hR
    rw [c1] at hR
    rcases c3 with c3 | c3
    ·rw [c3] at hR; exact hR
    ·cases hg:(gT L[i]).2 with
     | true=>rw [hg,c3] at hR; exact hR
     | false=>rw [hg] at hR; exact hR
  cases E with
  | nil=>
    refine Box.of_eq (sp_none L at' (L.length:Int) (i:Int) _) (sT (decide_eq_true (by omega)) (ixU_in ⟨by omega,by omega⟩ ?_))
    rw [ek,eg]
    exact body _ fun h=>h
  | cons e E=>
    refine Box.of_eq (sp_some L (e::E) (E.length+1) at' (L.length:Int) (i:Int) _) (sT (decide_eq_true (by omega)) (ixU_in ⟨by omega,by omega⟩ ?_))
    rw [ek,eg]
    refine body _ fun h=>?_
    have et:List.take (E.length+1) (e::E)=e::E:=List.take_of_length_le (by simp)
    have h3:E.length+1≤i:=h3
    unfold apS
    rw [et,bytesSp]
    have hl:(e::E++[spotR L[i] at'])=e::(E++[spotR L[i] at']):=rfl
    refine sT (decide_eq_true (by simp)) (sT (decide_eq_true (by omega)) (sT (decide_eq_true (by omega)) ?_))
    have hs:spO (e::E++[spotR L[i] at'])=some (e::E++[spotR L[i] at'],E.length+1+1):=by
     show some (e::(E++[spotR L[i] at']),(E++[spotR L[i] at']).length+1)=_
     rw [List.length_append]
     rfl
    rw [hs] at h
    exact h
 ·have hR' : R (.normal,dSp (spO E)):=by
   rw [List.drop_of_length_le (by omega)] at hR
   have hR:R (.normal,dSp (spO (E++[]))):=hR
   rw [List.append_nil] at hR
   exact hR
  cases E with
  | nil=>exact Box.of_eq (sp_none L at' (L.length:Int) (i:Int) _) (sF (decide_eq_false (by omega)) hR')
  | cons e E=>exact Box.of_eq (sp_some L (e::E) (E.length+1) at' (L.length:Int) (i:Int) _) (sF (decide_eq_false (by omega)) hR')
def lSp (s:St):Tr (NExit × St):=match s.fr[(9:Nat)]? with
 | some (.v (.c (.lr _ L)))=>.must (s=sSp L none (-1) (L.length:Int) 0∧L.length≤1000000) (.br (spV L (-1)).isEmpty (.ret (.normal,dSp none)) (.ret (.normal,dSp (some (spV L (-1),(spV L (-1)).length)))))
 | _=>.fail
theorem sO_len (E:List (List Sc)):spO E=if E.isEmpty then none else some (E,E.length):=by
 cases E with
 | nil=>rfl
 | cons x E=>rfl
theorem loop_sp:LOk Tryz.prog GL 0 0 (bodyLoop f_sp 0) lSp:=by
 refine loop_ok (X:=X_sp) kc_sp mixed (LAll.none (by kernel_rfl)) [3,4,9,10,11] [3] hSp (fun x=>x.L.length - x.i) preSp ?_ ?_
 ·intro s R h
  unfold lSp at h
  split at h
  case h_2=>exact h.elim
  rename_i L hx
  obtain ⟨⟨hs,hl⟩,hR⟩:=h
  refine ⟨⟨L,[],-1,0⟩,hs,⟨Nat.zero_le _,hl,Nat.zero_le _⟩,?_⟩
  show R (.normal,dSp (spO (spV L (-1))))
  rw [sO_len]
  have hR:sel (spV L (-1)).isEmpty (R (.normal,dSp none)) (R (.normal,dSp (some (spV L (-1),(spV L (-1)).length)))):=hR
  cases hc:(spV L (-1)).isEmpty with
  | true=>rw [hc] at hR; exact hR
  | false=>rw [hc] at hR; exact hR
 ·intro x R h
  exact Tr.run_mono _ (fun q hq=>hq) (sp_in x R h).out
noncomputable def t_spo:Con:=fun args regs=>if regs.length=0 then nfun Tryz.prog GL c_sp [(0,[3,4,9,10,11],lSp)] f_sp args regs else .fail
theorem k_spo:Known Tryz.prog GL 148 t_spo:=known_loops 0 Tryz.func148 rfl (by kernel_rfl) mixed kc_sp (LAll.one (id:=0) (body:=bodyLoop f_sp 0) (by kernel_rfl) rfl loop_sp)
noncomputable def t_spC:Con:=softT [] [0] [(0,0,0,.lr K3 [])] [] 0 t_spo
theorem k_spC:Known Tryz.prog GL 148 t_spC:=k_spo.soft [] [0] [(0,0,0,.lr K3 [])] [] 0
def oLr (E:List (List Sc)):Out:=⟨.v (.c (.lr K3 E)),[]⟩
theorem spo_tree (L:List (List Sc)) (R:Out→Prop):(t_spC [.c (.lr K3 L)] []).run R=((sSp L none (-1) (L.length:Int) 0=sSp L none (-1) (L.length:Int) 0∧L.length≤1000000)∧sel (spV L (-1)).isEmpty (R (oLr [])) ((spV L (-1)).length=(spV L (-1)).length∧R (oLr (spV L (-1))))):=by kernel_rfl
noncomputable def tSpo:Con:=fun args regs=>match args,regs with
 | [.c (.lr _ L)],[]=>.must (args=[.c (.lr K3 L)]∧L.length≤1000000) (.ret (oLr (spV L (-1))))
 | _,_=>.fail
attribute [local irreducible] t_spC in
theorem kSpo:Known Tryz.prog GL 148 tSpo:=by
 refine k_spC.less fun args regs R h=>?_
 unfold tSpo at h
 split at h
 case h_2=>exact h.elim
 rename_i _ L
 obtain ⟨⟨h1,h2⟩,h⟩:=h
 rw [h1]
 have h:R (oLr (spV L (-1))):=h
 refine (Box.of_eq (spo_tree L R) ⟨⟨rfl,h2⟩,?_⟩).out
 cases hc:(spV L (-1)).isEmpty with
 | true=>
   rw [List.isEmpty_iff.1 hc] at h
   exact sT rfl h
 | false=>exact sF rfl ⟨rfl,h⟩
noncomputable abbrev f_la:=Tryz.f152
noncomputable def X_la:Cx:={P:=Tryz.prog,con:=fun _=>Option.none,glob:=GL,m:=0,loops:=[]}
def sLa (r:Int) (L:List (List Sc)) (xs res:List (List Sc)) (n i:Int):St:={fr:=frame 37 [(1,.v (.c (.i .i64 r))),(3,.v (.c (.p 0 0 0))),(6,.v (.c (.p 1 0 0))),(9,.v (.c (.lr K3 L))),(10,.v (.c (.i .i64 n))),(11,.v (.c (.i .i64 i)))],rg:=[some (rwR xs),some (rwR res)]}
def dLa (xs res:List (List Sc)):St:={fr:=frame 37 [(3,.v (.c (.p 0 0 0))),(6,.v (.c (.p 1 0 0)))],rg:=[some (rwR xs),some (rwR res)]}
noncomputable def rLa (s:St):Tr RO:=roundT X_la 0 [1,3,6,9,10,11] [3,6] (bodyLoop f_la 0) s
end gr
end
section
namespace gr
open Go Go.Nx pk
open bm (ixU ixU_in)
noncomputable def t_rBlank:Con:=fun args regs=>nfun Tryz.prog GL (fun _=>Option.none) [] Tryz.f115 args regs
theorem k_rBlank:Known Tryz.prog GL 115 t_rBlank:=known_inl Tryz.func115 rfl (by kernel_rfl) mixed con_none (by kernel_rfl)
noncomputable def c_rRow0:FuncId→Option Con:=conOf [(115,t_rBlank)]
theorem kc_rRow0:∀ f T,c_rRow0 f=some T→Known Tryz.prog GL f T:=(Knowns.cons k_rBlank .nil).get
noncomputable def X_rRow0:Cx:={P:=Tryz.prog,con:=c_rRow0,glob:=GL,m:=0,loops:=[]}
noncomputable def t_rRow0:Con:=fun args regs=>if regs.length=0 then nfun Tryz.prog GL c_rRow0 [(0,[0,1,3],unroll X_rRow0 0 [0,1,3] [0,1] (bodyLoop Tryz.f116 0) 41)] Tryz.f116 args regs else .fail
theorem k_rRow0:Known Tryz.prog GL 116 t_rRow0:=known_loops 0 Tryz.func116 rfl (by kernel_rfl) mixed kc_rRow0 (LAll.one (id:=0) (body:=bodyLoop Tryz.f116 0) (by kernel_rfl) rfl (unroll_ok (X:=X_rRow0) kc_rRow0 mixed (LAll.none (by kernel_rfl)) [0,1,3] [0,1] 41))
noncomputable abbrev f_fl:=Tryz.f153
noncomputable def X_fl:Cx:={P:=Tryz.prog,con:=fun _=>Option.none,glob:=GL,m:=0,loops:=[]}
def sFl (xs res:List (List Sc)) (k:Int):St:={fr:=frame 12 [(1,.v (.c (.p 0 0 0))),(2,.v (.c (.p 1 0 0))),(4,.v (.c (.i .i64 k)))],rg:=[some (rwR xs),some (rwR res)]}
def dFl (xs res:List (List Sc)):St:={fr:=frame 12 [(1,.v (.c (.p 0 0 0))),(2,.v (.c (.p 1 0 0)))],rg:=[some (rwR xs),some (rwR res)]}
noncomputable def rFl (s:St):Tr RO:=roundT X_fl 0 [1,2,4] [1,2] (bodyLoop f_fl 0) s
noncomputable abbrev f_lo:=Tryz.f149
noncomputable def c_lo:FuncId→Option Con:=conOf [(115,t_rBlank)]
theorem kc_lo:∀ f T,c_lo f=some T→Known Tryz.prog GL f T:=(Knowns.cons k_rBlank .nil).get
noncomputable def X_lo:Cx:={P:=Tryz.prog,con:=c_lo,glob:=GL,m:=0,loops:=[]}
def sLo (ys xs res:List (List Sc)) (k:Int):St:={fr:=frame 31 [(1,.v (.c (.p 0 0 0))),(2,.v (.c (.p 1 0 0))),(5,.v (.sg [.recs KC 40 ys])),(6,.v (.c (.i .i64 k)))],rg:=[some (rwR xs),some (rwR res)]}
def dLo (xs res:List (List Sc)):St:={fr:=frame 31 [(1,.v (.c (.p 0 0 0))),(2,.v (.c (.p 1 0 0)))],rg:=[some (rwR xs),some (rwR res)]}
noncomputable def rLo (s:St):Tr RO:=roundT X_lo 0 [1,2,5,6] [1,2] (bodyLoop f_lo 0) s
def la1 (r:Int) (xs:List (List Sc)) (y:List Sc):List (List Sc):=bif xI y 0==r then (bif decide (xI y 1 ≥ 0) then (bif decide (xI y 1<40) then xs.set (xI y 1).toNat (setRow KC (xs.getD (xI y 1).toNat []) 0 (.i (xI y 2))) else xs) else xs) else xs
def layV (r:Int) (L xs:List (List Sc)):List (List Sc):=L.foldl (la1 r) xs
theorem la1_len (r:Int) (xs:List (List Sc)) (y:List Sc):(la1 r xs y).length=xs.length:=by
 unfold la1
 cases xI y 0==r with
 | true=>
   cases decide (xI y 1 ≥ 0) with
   | true=>
     cases decide (xI y 1<40) with
     | true=>exact List.length_set
     | false=>rfl
   | false=>rfl
 | false=>rfl
theorem lay_len (r:Int):∀ (L xs:List (List Sc)),(layV r L xs).length=xs.length
 | [],_=>rfl
 | y::L,xs=>(lay_len r L (la1 r xs y)).trans (la1_len r xs y)
def nxLa (r:Int) (L res:List (List Sc)) (n i:Int) (R:RO→Prop) (xs:List (List Sc)):Prop:=R (.next (sLa r L xs res n (w64 (i+1))))
theorem la_tree (r:Int) (L xs res:List (List Sc)) (n i:Int) (R:RO→Prop):(rLa (sLa r L xs res n i)).run R =
 sel (decide (i<n)) (ixU i L.length (sel (xI (L.getD i.toNat []) 0==r) (sel (decide (xI (L.getD i.toNat []) 1 ≥ 0)) (sel (decide (xI (L.getD i.toNat []) 1<40))
  (ixC (xI (L.getD i.toNat []) 1) (nxLa r L res n i R (xs.set (xI (L.getD i.toNat []) 1).toNat (setRow KC (xs.getD (xI (L.getD i.toNat []) 1).toNat []) 0 (.i (xI (L.getD i.toNat []) 2)))))) (nxLa r L res n i R xs)) (nxLa r L res n i R xs)) (nxLa r L res n i R xs)))
  (R (.done .normal (dLa xs res))):=by kernel_rfl
structure ALa where
 r:Int
 L:List (List Sc)
 xs:List (List Sc)
 res:List (List Sc)
 i:Nat
def hLa (x:ALa):St:=sLa x.r x.L x.xs x.res (x.L.length:Int) (x.i:Int)
def preLa (x:ALa) (R:NExit × St→Prop):Prop:=(x.i≤x.L.length∧x.L.length≤1000000)∧R (.normal,dLa (layV x.r (x.L.drop x.i) x.xs) x.res)
def nxtLa (x:ALa) (R:NExit × St→Prop) (q:RO):Prop:=match q with
 | .next s=>∃ y,s=hLa y∧y.L.length - y.i<x.L.length - x.i∧preLa y R
 | .done e s=>R (e,s)
theorem la_in (x:ALa) (R:NExit × St→Prop) (h:preLa x R):Box ((rLa (hLa x)).run (nxtLa x R)):=by
 obtain ⟨r,L,xs,res,i⟩:=x
 obtain ⟨⟨h1,h2⟩,hR⟩:=h
 simp only at h1 h2 hR
 have hw:w64 ((i:Int)+1)=((i+1:Nat):Int):=by show IntKind.i64.wrap _=_; rw [IntKind.wrap_i64]; omega
 have ek:((i:Nat):Int).toNat=i:=by simp
 refine Box.of_eq (la_tree r L xs res (L.length:Int) (i:Int) _) ?_
 by_cases hk:i<L.length
 ·have eg:L.getD i []=L[i]:=by rw [List.getD_eq_getElem?_getD,List.getElem?_eq_getElem hk]; rfl
  have ed:layV r (L.drop i) xs=layV r (L.drop (i+1)) (la1 r xs L[i]):=by rw [List.drop_eq_getElem_cons hk]; rfl
  rw [ed] at hR
  have nx:∀ ys,ys=la1 r xs L[i]→nxLa r L res (L.length:Int) (i:Int) (nxtLa ⟨r,L,xs,res,i⟩ R) ys:=fun ys hy=>by
   unfold nxLa
   rw [hw,hy]
   exact ⟨⟨r,L,la1 r xs L[i],res,i+1⟩,rfl,by simp only; omega,⟨by simp only; omega,h2⟩,hR⟩
  refine sT (decide_eq_true (by omega)) (ixU_in ⟨by omega,by omega⟩ ?_)
  rw [ek,eg]
  unfold la1 at nx
  cases c0:xI L[i] 0==r with
  | true=>
    rw [c0] at nx
    refine sT rfl ?_
    cases c1:decide (xI L[i] 1 ≥ 0) with
    | true=>
      rw [c1] at nx
      refine sT rfl ?_
      cases c2:decide (xI L[i] 1<40) with
      | true=>
        rw [c2] at nx
        exact sT rfl (ixC_in ⟨of_decide_eq_true c1,of_decide_eq_true c2⟩ (nx _ rfl))
      | false=>rw [c2] at nx; exact sF rfl (nx _ rfl)
    | false=>rw [c1] at nx; exact sF rfl (nx _ rfl)
  | false=>rw [c0] at nx; exact sF rfl (nx _ rfl)
 ·refine sF (decide_eq_false (by omega)) ?_
  rw [List.drop_of_length_le (by omega)] at hR
  exact hR
def lLa (s:St):Tr (NExit × St):=match s.fr[(1:Nat)]?,s.fr[(9:Nat)]?,s.rg with
 | some (.v (.c (.i _ r))),some (.v (.c (.lr _ L))),[some ⟨_,_,.sg [.recs _ _ xs]⟩,some ⟨_,_,.sg [.recs _ _ res]⟩]=>.must (s=sLa r L xs res (L.length:Int) 0∧L.length≤1000000) (.ret (.normal,dLa (layV r L xs) res))
 | _,_,_=>.fail
theorem loop_la:LOk Tryz.prog GL 0 0 (bodyLoop f_la 0) lLa:=by
 refine loop_ok (X:=X_la) con_none mixed (LAll.none (by kernel_rfl)) [1,3,6,9,10,11] [3,6] hLa (fun x=>x.L.length - x.i) preLa ?_ ?_
 ·intro s R h
  unfold lLa at h
  split at h
  case h_2=>exact h.elim
  rename_i _ r _ L _ _ _ _ xs _ _ _ _ res h1 h2 h3
  obtain ⟨⟨hs,hl⟩,hR⟩:=h
  exact ⟨⟨r,L,xs,res,0⟩,hs,⟨Nat.zero_le _,hl⟩,hR⟩
 ·intro x R h
  exact Tr.run_mono _ (fun q hq=>hq) (la_in x R h).out
noncomputable def t_la:Con:=fun args regs=>if regs.length=0 then nfun Tryz.prog GL (fun _=>Option.none) [(0,[1,3,6,9,10,11],lLa)] f_la args regs else .fail
theorem k_la:Known Tryz.prog GL 152 t_la:=known_loops 0 Tryz.func152 rfl (by kernel_rfl) mixed con_none (LAll.one (id:=0) (body:=bodyLoop f_la 0) (by kernel_rfl) rfl loop_la)
def oR1 (xs:List (List Sc)):Out:=⟨.v (.sg [.recs KC 40 xs]),[]⟩
theorem lay_tree (r:Int) (L xs:List (List Sc)) (R:Out→Prop):(t_la [.sg [.recs KC 40 xs],.c (.i .i64 r),.c (.lr K3 L)] []).run R=((sLa r L xs (List.replicate 40 zc) (L.length:Int) 0=sLa r L xs (List.replicate 40 zc) (L.length:Int) 0∧L.length≤1000000)∧R (oR1 (layV r L xs))):=by kernel_rfl
noncomputable def tLay:Con:=fun args regs=>match args,regs with
 | [.sg [.recs _ _ xs],.c (.i _ r),.c (.lr _ L)],[]=>.must (args=[.sg [.recs KC 40 xs],.c (.i .i64 r),.c (.lr K3 L)]∧L.length≤1000000) (.ret (oR1 (layV r L xs)))
 | _,_=>.fail
attribute [local irreducible] t_la in
theorem kLay:Known Tryz.prog GL 152 tLay:=by
 refine k_la.less fun args regs R h=>?_
 unfold tLay at h
 split at h
 case h_2=>exact h.elim
 obtain ⟨⟨h1,h2⟩,h⟩:=h
 rw [h1]
 exact (Box.of_eq (lay_tree _ _ _ R) ⟨⟨rfl,h2⟩,h⟩).out
def ptw (g:List Sc→List Sc) (k:Nat) (xs:List (List Sc)):List (List Sc):=(xs.take k).map g++xs.drop k
theorem ptw_len (g:List Sc→List Sc) (k:Nat) (xs:List (List Sc)):(ptw g k xs).length=xs.length:=by
 unfold ptw
 rw [List.length_append,List.length_map,List.length_take,List.length_drop]
 omega
theorem ptw_all {g:List Sc→List Sc} {k:Nat} {xs:List (List Sc)} (h:xs.length=k):ptw g k xs=xs.map g:=by
 unfold ptw
 rw [List.take_of_length_le (by omega),List.drop_of_length_le (by omega),List.append_nil]
theorem ptw_get {g:List Sc→List Sc} {k:Nat} {xs:List (List Sc)} (h:k<xs.length):(ptw g k xs).getD k []=xs.getD k []:=by
 have hl:((xs.take k).map g).length=k:=by rw [List.length_map,List.length_take]; omega
 unfold ptw
 rw [List.getD_eq_getElem?_getD,List.getD_eq_getElem?_getD,List.getElem?_append_right (by omega),hl,Nat.sub_self,List.getElem?_drop]
 rfl
theorem ptw_set {g:List Sc→List Sc} {k:Nat} {xs:List (List Sc)} (h:k<xs.length):(ptw g k xs).set k (g (xs.getD k []))=ptw g (k+1) xs:=by
 have hl:((xs.take k).map g).length=k:=by rw [List.length_map,List.length_take]; omega
 have eg:xs.getD k []=xs[k]:=by rw [List.getD_eq_getElem?_getD,List.getElem?_eq_getElem h]; rfl
 unfold ptw
 rw [List.set_append_right _ _ (by omega),hl,Nat.sub_self,List.drop_eq_getElem_cons h,List.set_cons_zero,eg,List.take_add_one,List.getElem?_eq_getElem h,List.map_append,List.append_assoc]
 rfl
def flG (x:List Sc):List Sc:=setRow KC x 8 (.i 0)
def nxFl (res:List (List Sc)) (k:Int) (R:RO→Prop) (xs:List (List Sc)):Prop:=R (.next (sFl xs res (w64 (k+1))))
theorem fl_tree (xs res:List (List Sc)) (k:Int) (R:RO→Prop):(rFl (sFl xs res k)).run R=sel (decide (k<40)) (ixC k (nxFl res k R (xs.set k.toNat (flG (xs.getD k.toNat []))))) (R (.done .normal (dFl xs res))):=by kernel_rfl
structure AFl where
 xs:List (List Sc)
 res:List (List Sc)
 k:Nat
def hFl (x:AFl):St:=sFl (ptw flG x.k x.xs) x.res (x.k:Int)
def preFl (x:AFl) (R:NExit × St→Prop):Prop:=(x.k≤40∧x.xs.length=40)∧R (.normal,dFl (x.xs.map flG) x.res)
def nxtFl (x:AFl) (R:NExit × St→Prop) (q:RO):Prop:=match q with
 | .next s=>∃ y,s=hFl y∧40 - y.k<40 - x.k∧preFl y R
 | .done e s=>R (e,s)
theorem fl_in (x:AFl) (R:NExit × St→Prop) (h:preFl x R):Box ((rFl (hFl x)).run (nxtFl x R)):=by
 obtain ⟨xs,res,k⟩:=x
 obtain ⟨⟨h1,h2⟩,hR⟩:=h
 simp only at h1 h2 hR
 have hw:w64 ((k:Int)+1)=((k+1:Nat):Int):=by show IntKind.i64.wrap _=_; rw [IntKind.wrap_i64]; omega
 have ek:((k:Nat):Int).toNat=k:=by simp
 refine Box.of_eq (fl_tree (ptw flG k xs) res (k:Int) _) ?_
 by_cases hk:k<40
 ·refine sT (decide_eq_true (by omega)) (ixC_in ⟨by omega,by omega⟩ ?_)
  unfold nxFl
  rw [ek,hw,ptw_get (by omega),ptw_set (by omega)]
  exact ⟨⟨xs,res,k+1⟩,rfl,by simp only; omega,⟨by simp only; omega,h2⟩,hR⟩
 ·have e40:k=40:=by omega
  subst e40
  rw [ptw_all h2]
  exact sF (decide_eq_false (by omega)) hR
def lFl (s:St):Tr (NExit × St):=match s.rg with
 | [some ⟨_,_,.sg [.recs _ _ xs]⟩,some ⟨_,_,.sg [.recs _ _ res]⟩]=>.must (s=sFl xs res 0∧xs.length=40) (.ret (.normal,dFl (xs.map flG) res))
 | _=>.fail
theorem loop_fl:LOk Tryz.prog GL 0 0 (bodyLoop f_fl 0) lFl:=by
 refine loop_ok (X:=X_fl) con_none mixed (LAll.none (by kernel_rfl)) [1,2,4] [1,2] hFl (fun x=>40 - x.k) preFl ?_ ?_
 ·intro s R h
  unfold lFl at h
  split at h
  case h_2=>exact h.elim
  rename_i _ _ _ _ xs _ _ _ _ res h1
  obtain ⟨⟨hs,hl⟩,hR⟩:=h
  exact ⟨⟨xs,res,0⟩,hs,⟨Nat.zero_le _,hl⟩,hR⟩
 ·intro x R h
  exact Tr.run_mono _ (fun q hq=>hq) (fl_in x R h).out
noncomputable def t_fl:Con:=fun args regs=>if regs.length=0 then nfun Tryz.prog GL (fun _=>Option.none) [(0,[1,2,4],lFl)] f_fl args regs else .fail
theorem k_fl:Known Tryz.prog GL 153 t_fl:=known_loops 0 Tryz.func153 rfl (by kernel_rfl) mixed con_none (LAll.one (id:=0) (body:=bodyLoop f_fl 0) (by kernel_rfl) rfl loop_fl)
theorem flat_tree (xs:List (List Sc)) (R:Out→Prop):(t_fl [.sg [.recs KC 40 xs]] []).run R=((sFl xs (List.replicate 40 zc) 0=sFl xs (List.replicate 40 zc) 0∧xs.length=40)∧R (oR1 (xs.map flG))):=by kernel_rfl
noncomputable def tFl:Con:=fun args regs=>match args,regs with
 | [.sg [.recs _ _ xs]],[]=>.must (args=[.sg [.recs KC 40 xs]]∧xs.length=40) (.ret (oR1 (xs.map flG)))
 | _,_=>.fail
attribute [local irreducible] t_fl in
theorem kFl:Known Tryz.prog GL 153 tFl:=by
 refine k_fl.less fun args regs R h=>?_
 unfold tFl at h
 split at h
 case h_2=>exact h.elim
 obtain ⟨⟨h1,h2⟩,h⟩:=h
 rw [h1]
 exact (Box.of_eq (flat_tree _ R) ⟨⟨rfl,h2⟩,h⟩).out
def blC:List Sc:=[.i 32,.i 7,.i 0,.b false,.b false,.b false,.b false,.b false,.i 0,.i 0]
def loG (x:List Sc):List Sc:=bif xI x 8==1 then setRow KC x 8 (.i 2) else setRow KC (setRow KC blC 2 (.i (xI x 2))) 5 (.b (xB x 5))
def nxLo (ys res:List (List Sc)) (k:Int) (R:RO→Prop) (xs:List (List Sc)):Prop:=R (.next (sLo ys xs res (w64 (k+1))))
def lo2 (xs:List (List Sc)) (k:Nat) (y:List Sc):List (List Sc):=(spl xs k 1 [blC]).set k (setRow KC ((spl xs k 1 [blC]).getD k []) 2 (.i (xI y 2)))
theorem lo_tree (ys xs res:List (List Sc)) (k:Int) (R:RO→Prop):(rLo (sLo ys xs res k)).run R=sel (decide (k<40)) (ixC k (sel (xI (ys.getD k.toNat []) 8==1) (ixC k (nxLo ys res k R (xs.set k.toNat (setRow KC (xs.getD k.toNat []) 8 (.i 2)))))
 (stC k (ixC k (ixC k (nxLo ys res k R ((lo2 xs k.toNat (ys.getD k.toNat [])).set k.toNat (setRow KC ((lo2 xs k.toNat (ys.getD k.toNat [])).getD k.toNat []) 5 (.b (xB (ys.getD k.toNat []) 5)))))))))) (R (.done .normal (dLo xs res))):=by kernel_rfl
structure ALo where
 ys:List (List Sc)
 res:List (List Sc)
 k:Nat
def hLo (x:ALo):St:=sLo x.ys (ptw loG x.k x.ys) x.res (x.k:Int)
def preLo (x:ALo) (R:NExit × St→Prop):Prop:=(x.k≤40∧x.ys.length=40)∧R (.normal,dLo (x.ys.map loG) x.res)
def nxtLo (x:ALo) (R:NExit × St→Prop) (q:RO):Prop:=match q with
 | .next s=>∃ y,s=hLo y∧40 - y.k<40 - x.k∧preLo y R
 | .done e s=>R (e,s)
theorem set_getD {α:Type} {xs:List α} {k:Nat} {y d:α} (h:k<xs.length):(xs.set k y).getD k d=y:=by
 rw [List.getD_eq_getElem?_getD,List.getElem?_set_self h]
 rfl
theorem lo_in (x:ALo) (R:NExit × St→Prop) (h:preLo x R):Box ((rLo (hLo x)).run (nxtLo x R)):=by
 obtain ⟨ys,res,k⟩:=x
 obtain ⟨⟨h1,h2⟩,hR⟩:=h
 simp only at h1 h2 hR
 have hw:w64 ((k:Int)+1)=((k+1:Nat):Int):=by show IntKind.i64.wrap _=_; rw [IntKind.wrap_i64]; omega
 have ek:((k:Nat):Int).toNat=k:=by simp
 refine Box.of_eq (lo_tree ys (ptw loG k ys) res (k:Int) _) ?_
 by_cases hk:k<40
 ·have hp:k<(ptw loG k ys).length:=by rw [ptw_len]; omega
  have nx:nxLo ys res (k:Int) (nxtLo ⟨ys,res,k⟩ R) ((ptw loG k ys).set k (loG (ys.getD k []))):=by
   unfold nxLo
   rw [hw,ptw_set (by omega)]
   exact ⟨⟨ys,res,k+1⟩,rfl,by simp only; omega,⟨by simp only; omega,h2⟩,hR⟩
  refine sT (decide_eq_true (by omega)) (ixC_in ⟨by omega,by omega⟩ ?_)
  rw [ek,ptw_get (by omega)]
  unfold loG at nx
  cases c:xI (ys.getD k []) 8==1 with
  | true=>rw [c] at nx; exact sT rfl (ixC_in ⟨by omega,by omega⟩ nx)
  | false=>
    rw [c] at nx
    refine sF rfl (stC_in ⟨by omega,by omega⟩ (ixC_in ⟨by omega,by omega⟩ (ixC_in ⟨by omega,by omega⟩ ?_)))
    have e1:lo2 (ptw loG k ys) k (ys.getD k [])=(ptw loG k ys).set k (setRow KC blC 2 (.i (xI (ys.getD k []) 2))):=by
     show ((ptw loG k ys).set k blC).set k (setRow KC (((ptw loG k ys).set k blC).getD k []) 2 _)=_
     rw [set_getD hp,List.set_set]
    rw [e1,set_getD hp,List.set_set]
    exact nx
 ·have e40:k=40:=by omega
  subst e40
  rw [ptw_all h2]
  exact sF (decide_eq_false (by omega)) hR
def lLo (s:St):Tr (NExit × St):=match s.rg with
 | [some ⟨_,_,.sg [.recs _ _ xs]⟩,some ⟨_,_,.sg [.recs _ _ res]⟩]=>.must (s=sLo xs xs res 0∧xs.length=40) (.ret (.normal,dLo (xs.map loG) res))
 | _=>.fail
theorem loop_lo:LOk Tryz.prog GL 0 0 (bodyLoop f_lo 0) lLo:=by
 refine loop_ok (X:=X_lo) kc_lo mixed (LAll.none (by kernel_rfl)) [1,2,5,6] [1,2] hLo (fun x=>40 - x.k) preLo ?_ ?_
 ·intro s R h
  unfold lLo at h
  split at h
  case h_2=>exact h.elim
  rename_i _ _ _ _ xs _ _ _ _ res h1
  obtain ⟨⟨hs,hl⟩,hR⟩:=h
  exact ⟨⟨xs,res,0⟩,hs,⟨Nat.zero_le _,hl⟩,hR⟩
 ·intro x R h
  exact Tr.run_mono _ (fun q hq=>hq) (lo_in x R h).out
noncomputable def t_lo:Con:=fun args regs=>if regs.length=0 then nfun Tryz.prog GL c_lo [(0,[1,2,5,6],lLo)] f_lo args regs else .fail
theorem k_lo:Known Tryz.prog GL 149 t_lo:=known_loops 0 Tryz.func149 rfl (by kernel_rfl) mixed kc_lo (LAll.one (id:=0) (body:=bodyLoop f_lo 0) (by kernel_rfl) rfl loop_lo)
theorem low_tree (xs:List (List Sc)) (R:Out→Prop):(t_lo [.sg [.recs KC 40 xs]] []).run R=((sLo xs xs (List.replicate 40 zc) 0=sLo xs xs (List.replicate 40 zc) 0∧xs.length=40)∧R (oR1 (xs.map loG))):=by kernel_rfl
noncomputable def tLo:Con:=fun args regs=>match args,regs with
 | [.sg [.recs _ _ xs]],[]=>.must (args=[.sg [.recs KC 40 xs]]∧xs.length=40) (.ret (oR1 (xs.map loG)))
 | _,_=>.fail
attribute [local irreducible] t_lo in
theorem kLo:Known Tryz.prog GL 149 tLo:=by
 refine k_lo.less fun args regs R h=>?_
 unfold tLo at h
 split at h
 case h_2=>exact h.elim
 obtain ⟨⟨h1,h2⟩,h⟩:=h
 rw [h1]
 exact (Box.of_eq (low_tree _ R) ⟨⟨rfl,h2⟩,h⟩).out
theorem row0_tree (R:Out→Prop):(t_rRow0 [] []).run R=R (oR1 (List.replicate 40 blC)):=by kernel_rfl
noncomputable def tRow0:Con:=fun args regs=>match args,regs with
 | [],[]=>.ret (oR1 (List.replicate 40 blC))
 | _,_=>.fail
theorem kRow0:Known Tryz.prog GL 116 tRow0:=by
 refine k_rRow0.less fun args regs R h=>?_
 unfold tRow0 at h
 split at h
 case h_2=>exact h.elim
 exact (Box.of_eq (row0_tree R) h).out
end gr
end
section
namespace gr
open Go Go.Nx pk
open bm (ixU ixU_in)
open sto (pgV rdPg tclBV kclBV)
open ac (Pg pgZ)
open mac (fits)
noncomputable def c_rep40:FuncId→Option Con:=conOf [(159,pge.t_mu)]
theorem kc_rep40:∀ f T,c_rep40 f=some T→Known Tryz.prog GL f T:=(Knowns.cons pge.k_mu .nil).get
noncomputable def X_rep40:Cx:={P:=Tryz.prog,con:=c_rep40,glob:=GL,m:=0,loops:=[]}
noncomputable def t_rep40:Con:=fun args regs=>if regs.length=0 then nfun Tryz.prog GL c_rep40 [(0,[7,8],unroll X_rep40 0 [7,8] [7] (bodyLoop Tryz.f125 0) 9)] Tryz.f125 args regs else .fail
theorem k_rep40:Known Tryz.prog GL 125 t_rep40:=known_loops 0 Tryz.func125 rfl (by kernel_rfl) mixed kc_rep40 (LAll.one (id:=0) (body:=bodyLoop Tryz.f125 0) (by kernel_rfl) rfl (unroll_ok (X:=X_rep40) kc_rep40 mixed (LAll.none (by kernel_rfl)) [7,8] [7] 9))
noncomputable def t_repC:Con:=softT [] [0] [(0,0,0,.l .u8 [])] [] 0 t_rep40
theorem k_repC:Known Tryz.prog GL 125 t_repC:=k_rep40.soft [] [0] [(0,0,0,.l .u8 [])] [] 0
def bl40:List Int:=List.replicate 40 32
def oLb (xs:List Int):Out:=⟨.v (.c (.l .u8 xs)),[]⟩
theorem repC_tree (R:Out→Prop):(t_repC [.c (.l .u8 [32]),.c (.i .i64 40)] []).run R=(40=40∧R (oLb bl40)):=by kernel_rfl
noncomputable def tRep:Con:=fun args regs=>match args,regs with
 | [.c (.l _ xs),.c (.i _ n)],[]=>.must (args=[.c (.l .u8 [32]),.c (.i .i64 40)]) (.ret (oLb bl40))
 | _,_=>.fail
attribute [local irreducible] t_repC in
theorem kRep:Known Tryz.prog GL 125 tRep:=by
 refine k_repC.less fun args regs R h=>?_
 unfold tRep at h
 split at h
 case h_2=>exact h.elim
 obtain ⟨h1,h⟩:=h
 rw [h1]
 exact (Box.of_eq (repC_tree R) ⟨rfl,h⟩).out
def opT:List Int:=[0,1,2,3,4,5,6,0,7,1,2,3,4,0,6,0,0,1,2,3,4,5,8,0,0,0,0,0,0,9,0,10,0,1,11,12,0,0,6,0,0,0,0,0,0,0,0,0,0,0,0,0,0,0,8,0]
def opV (r c:Int):Int:=bif decide (r<0) then 0 else bif decide (r ≥ 7) then 0 else bif decide (c<0) then 0 else bif decide (c ≥ 8) then 0 else opT.getD (r.toNat * 8+c.toNat) 0
theorem opt_tree (r c:Int) (R:Out→Prop):(t_lOpt [.c (.i .i64 r),.c (.i .i64 c)] []).run R=sel (decide (r<0)) (R (gO 0)) (sel (decide (r ≥ 7)) (R (gO 0)) (sel (decide (c<0)) (R (gO 0)) (sel (decide (c ≥ 8)) (R (gO 0)) (sel (decide (0≤r)) (sel (decide (r<7)) (sel (decide (0≤c)) (sel (decide (c<8)) (sel (decide (r.toNat * 8+c.toNat<56)) (R (gO (opT.getD (r.toNat * 8+c.toNat) 0))) False) False) False) False) False)))):=by kernel_rfl
noncomputable def tOpt:Con:=fun args regs=>match args,regs with
 | [.c (.i _ r),.c (.i _ c)],[]=>.must (args=[.c (.i .i64 r),.c (.i .i64 c)]) (.ret (gO (opV r c)))
 | _,_=>.fail
theorem opt_in {r c:Int} {R:Out→Prop} (h:R (gO (opV r c))):sel (decide (r<0)) (R (gO 0)) (sel (decide (r ≥ 7)) (R (gO 0)) (sel (decide (c<0)) (R (gO 0)) (sel (decide (c ≥ 8)) (R (gO 0)) (sel (decide (0≤r)) (sel (decide (r<7)) (sel (decide (0≤c)) (sel (decide (c<8)) (sel (decide (r.toNat * 8+c.toNat<56)) (R (gO (opT.getD (r.toNat * 8+c.toNat) 0))) False) False) False) False) False)))):=by
 unfold opV at h
 cases h1:decide (r<0) with
 | true=>rw [h1] at h; exact h
 | false=>
 cases h2:decide (r ≥ 7) with
 | true=>rw [h1,h2] at h; exact h
 | false=>
 cases h3:decide (c<0) with
 | true=>rw [h1,h2,h3] at h; exact h
 | false=>
 cases h4:decide (c ≥ 8) with
 | true=>rw [h1,h2,h3,h4] at h; exact h
 | false=>
   rw [h1,h2,h3,h4] at h
   have h1:=of_decide_eq_false h1
   have h2:=of_decide_eq_false h2
   have h3:=of_decide_eq_false h3
   have h4:=of_decide_eq_false h4
   exact sF rfl (sF rfl (sF rfl (sF rfl (sT (decide_eq_true (by omega)) (sT (decide_eq_true (by omega)) (sT (decide_eq_true (by omega)) (sT (decide_eq_true (by omega)) (sT (decide_eq_true (by omega)) h))))))))
theorem kOpt:Known Tryz.prog GL 167 tOpt:=by
 refine k_lOpt.less fun args regs R h=>?_
 unfold tOpt at h
 split at h
 case h_2=>exact h.elim
 obtain ⟨h1,h⟩:=h
 rw [h1]
 exact (Box.of_eq (opt_tree _ _ R) (opt_in h)).out
noncomputable def c_rReg:FuncId→Option Con:=conOf [(167,tOpt)]
theorem kc_rReg:∀ f T,c_rReg f=some T→Known Tryz.prog GL f T:=(Knowns.cons kOpt .nil).get
noncomputable def t_rReg:Con:=fun args regs=>nfun Tryz.prog GL c_rReg [] Tryz.f147 args regs
theorem k_rReg:Known Tryz.prog GL 147 t_rReg:=known_inl Tryz.func147 rfl (by kernel_rfl) mixed kc_rReg (by kernel_rfl)
def regV (p:Pg):Int:=bif decide (p.df≤0) then opV 0 p.op else opV (w64 (p.df - 1)) p.op
theorem reg_tree (p:Pg) (R:Out→Prop):(t_rReg [pgV p] []).run R=sel (decide (p.df≤0)) ([NV.c (.i .i64 0),.c (.i .i64 p.op)]=[NV.c (.i .i64 0),.c (.i .i64 p.op)]∧R (gO (opV 0 p.op))) ([NV.c (.i .i64 (w64 (p.df - 1))),.c (.i .i64 p.op)]=[NV.c (.i .i64 (w64 (p.df - 1))),.c (.i .i64 p.op)]∧R (gO (opV (w64 (p.df - 1)) p.op))):=by kernel_rfl
noncomputable def tReg:Con:=fun args regs=>match args,regs with
 | [v],[]=>(match rdPg v with
   | some p=>.must (args=[pgV p]) (.ret (gO (regV p)))
   | none=>.fail)
 | _,_=>.fail
attribute [local irreducible] t_rReg in
theorem kReg:Known Tryz.prog GL 147 tReg:=by
 refine k_rReg.less fun args regs R h=>?_
 unfold tReg at h
 split at h
 case h_2=>exact h.elim
 split at h
 case h_2=>exact h.elim
 rename_i p _
 obtain ⟨h1,h⟩:=h
 rw [h1]
 have h:(fun n=>R (gO n)) (regV p):=h
 unfold regV at h
 exact (Box.of_eq (reg_tree p R) (sel_bif (R:=fun n=>R (gO n)) h (fun h=>⟨rfl,h⟩) fun h=>⟨rfl,h⟩)).out
noncomputable def c_pLn:FuncId→Option Con:=conOf [(125,tRep),(114,tclBV)]
theorem kc_pLn:∀ f T,c_pLn f=some T→Known Tryz.prog GL f T:=(Knowns.cons kRep (.cons kclBV .nil)).get
noncomputable def t_pLn:Con:=fun args regs=>nfun Tryz.prog GL c_pLn [] Tryz.f151 args regs
theorem k_pLn:Known Tryz.prog GL 151 t_pLn:=known_inl Tryz.func151 rfl (by kernel_rfl) mixed kc_pLn (by kernel_rfl)
def repA (A:Prop):Prop:=[NV.c (.l .u8 [32]),.c (.i .i64 40)]=[NV.c (.l .u8 [32]),.c (.i .i64 40)]∧A
def thV (p:Pg) (r:Nat):Bool:=((p.th.getD r []).getD 0 (.i 0)).t
def rw40 (p:Pg) (r:Nat):List Int:=List.take 40 (List.drop (r * 40) p.rows)
def ix25 (r:Int) (A:Prop):Prop:=sel (decide (0≤r)) (sel (decide (r<25)) A False) False
theorem ln_tree (p:Pg) (r:Int) (R:Out→Prop):(t_pLn [pgV p,.c (.i .i64 r)] []).run R =
 sel (decide (r<0)) (repA (R (oLb bl40))) (sel (decide (r > 24)) (repA (R (oLb bl40))) (ix25 r (sel (decide (r.toNat<25)) (sel (!thV p r.toNat) (repA (R (oLb bl40)))
  (ix25 r (sel (decide (r.toNat * 40+40≤1000)) (([NV.c (.l .u8 (rw40 p r.toNat))]=[NV.c (.l .u8 (rw40 p r.toNat))]∧(rw40 p r.toNat).length≤1000000)∧R (oLb (rw40 p r.toNat))) False))) False))):=by kernel_rfl
def lnV (p:Pg) (r:Int):List Int:=bif decide (r<0) then bl40 else bif decide (r > 24) then bl40 else bif !thV p r.toNat then bl40 else rw40 p r.toNat
noncomputable def tLn:Con:=fun args regs=>match args,regs with
 | [v,.c (.i _ r)],[]=>(match rdPg v with
   | some p=>.must (args=[pgV p,.c (.i .i64 r)]) (.ret (oLb (lnV p r)))
   | none=>.fail)
 | _,_=>.fail
attribute [local irreducible] t_pLn in
theorem kLn:Known Tryz.prog GL 151 tLn:=by
 refine k_pLn.less fun args regs R h=>?_
 unfold tLn at h
 split at h
 case h_2=>exact h.elim
 split at h
 case h_2=>exact h.elim
 rename_i _ _ _ r _ p _
 obtain ⟨h1,h⟩:=h
 rw [h1]
 have h:R (oLb (lnV p r)):=h
 unfold lnV at h
 refine (Box.of_eq (ln_tree p r R) ?_).out
 cases c1:decide (r<0) with
 | true=>rw [c1] at h; exact sT rfl ⟨rfl,h⟩
 | false=>
 cases c2:decide (r > 24) with
 | true=>rw [c1,c2] at h; exact sF rfl (sT rfl ⟨rfl,h⟩)
 | false=>
   rw [c1,c2] at h
   have c1:=of_decide_eq_false c1
   have c2:=of_decide_eq_false c2
   refine sF rfl (sF rfl (sT (decide_eq_true (by omega)) (sT (decide_eq_true (by omega)) (sT (decide_eq_true (by omega)) ?_))))
   cases c3:thV p r.toNat with
   | false=>rw [c3] at h; exact sT rfl ⟨rfl,h⟩
   | true=>
     rw [c3] at h
     refine sF rfl (sT (decide_eq_true (by omega)) (sT (decide_eq_true (by omega)) (sT (decide_eq_true (by omega)) ⟨⟨rfl,?_⟩,h⟩)))
     unfold rw40
     rw [List.length_take]
     omega
noncomputable abbrev f_rw:=Tryz.f118
noncomputable def c_rw:FuncId→Option Con:=conOf [(147,tReg),(148,tSpo),(149,tLo),(151,tLn),(150,tRow),(152,tLay),(153,tFl)]
theorem kc_rw:∀ f T,c_rw f=some T→Known Tryz.prog GL f T:=(Knowns.cons kReg (.cons kSpo (.cons kLo (.cons kLn (.cons kRow (.cons kLay (.cons kFl .nil))))))).get
noncomputable def X_rw:Cx:={P:=Tryz.prog,con:=c_rw,glob:=GL,m:=0,loops:=[]}
def grR (G:List (List Sc)):Reg:=⟨10000,73,.sg [.recs KC 1000 G]⟩
noncomputable def pgX (p:Pg):Reg:=⟨1061,55,.sg (ac.pgSegs p (.lr K3 p.ex) [] fun q=>[.cells q])⟩
noncomputable def sRw (p:Pg) (res G:List (List Sc)) (o:Int) (L:List (List Sc)) (u:Bool) (r:Int):St:={fr:=frame 55 [(1,.v (.c (.p 0 0 0))),(2,.v (.c (.p 1 0 0))),(3,.v (.c (.p 2 0 0))),(4,.v (.c (.i .i64 o))),(5,.v (.c (.lr K3 L))),(6,.v (.c (.b u))),(15,.v (.c (.i .i64 r)))],rg:=[some (pgX p),some (grR res),some (grR G)]}
noncomputable def dRw (res G:List (List Sc)):St:={fr:=frame 55 [(2,.v (.c (.p 0 0 0))),(3,.v (.c (.p 1 0 0)))],rg:=[some (grR res),some (grR G)]}
noncomputable def rRw (s:St):Tr RO:=roundT X_rw 0 [1,2,3,4,5,6,15] [2,3] (bodyLoop f_rw 0) s
end gr
end
section
namespace gr
open Go Go.Nx pk
open bm (ixU ixU_in)
open sto (pgV rdPg)
open ac (Pg pgZ)
open mac (fits)
def gRow (G:List (List Sc)) (r:Nat):List (List Sc):=List.take 40 (List.drop (r * 40) G)
def putG (G:List (List Sc)) (r:Nat) (ys:List (List Sc)):List (List Sc):=spl G (r * 40) 40 ys
def ixG (r:Int) (A:Prop):Prop:=sel (decide (0≤r)) (sel (decide (r<25)) (sel (decide (r.toNat * 40+40≤1000)) A False) False) False
theorem ixG_in {r:Int} {A:Prop} (h:0≤r∧r<25) (hA:A):ixG r A:=sT (decide_eq_true h.1) (sT (decide_eq_true h.2) (sT (decide_eq_true (by omega)) hA))
noncomputable def nxRw (p:Pg) (res:List (List Sc)) (o:Int) (L:List (List Sc)) (r:Int) (R:RO→Prop) (G:List (List Sc)) (u:Bool):Prop:=R (.next (sRw p res G o L u (w64 (r+1))))
def lowA (xs:List (List Sc)) (A:Prop):Prop:=([NV.sg [.recs KC 40 xs]]=[NV.sg [.recs KC 40 xs]]∧xs.length=40)∧A
def cells (p:Pg) (o:Int) (L:List (List Sc)) (r:Int):List (List Sc):=layV r L (rowV (lnV p r) o)
noncomputable def flA (p:Pg) (res:List (List Sc)) (o:Int) (L:List (List Sc)) (r:Int) (R:RO→Prop) (G:List (List Sc)) (u:Bool):Prop:=ixG r (lowA (gRow G r.toNat) (ixG r (nxRw p res o L r R (putG G r.toNat ((gRow G r.toNat).map flG)) u)))
noncomputable def newA (p:Pg) (res:List (List Sc)) (o:Int) (L:List (List Sc)) (r:Int) (R:RO→Prop) (G:List (List Sc)) (u:Bool):Prop:=
 [pgV p,.c (.i .i64 r)]=[pgV p,.c (.i .i64 r)]∧([NV.c (.l .u8 (lnV p r)),.c (.i .i64 o)]=[NV.c (.l .u8 (lnV p r)),.c (.i .i64 o)]∧(([NV.sg [.recs KC 40 (rowV (lnV p r) o)],.c (.i .i64 r),.c (.lr K3 L)]=[NV.sg [.recs KC 40 (rowV (lnV p r) o)],.c (.i .i64 r),.c (.lr K3 L)]∧L.length≤1000000)∧
  ixG r (sel (r==0) (flA p res o L r R (putG G r.toNat (cells p o L r)) u) (sel (decide (r > 23)) (flA p res o L r R (putG G r.toNat (cells p o L r)) u) (nxRw p res o L r R (putG G r.toNat (cells p o L r)) (tal (rowV (lnV p r) o)))))))
theorem rw_tree (p:Pg) (res G:List (List Sc)) (o:Int) (L:List (List Sc)) (u:Bool) (r:Int) (R:RO→Prop):(rRw (sRw p res G o L u r)).run R =
 sel (decide (r<25)) (sel u (ixG (w64 (r - 1)) (lowA (gRow G (w64 (r - 1)).toNat) (ixG r (nxRw p res o L r R (putG G r.toNat ((gRow G (w64 (r - 1)).toNat).map loG)) false)))) (newA p res o L r R G u)) (R (.done .normal (dRw res G))):=by kernel_rfl
theorem row_len (b:List Int) (o:Int):(rowV b o).length=40:=celV_len b o 40 0 sx0
theorem cells_len (p:Pg) (o:Int) (L:List (List Sc)) (r:Int):(cells p o L r).length=40:=(lay_len r L _).trans (row_len _ _)
def rowAt (p:Pg) (o:Int) (L:List (List Sc)) (r:Nat):List (List Sc) × Bool:=bif (r==0)||decide (r > 23) then ((cells p o L r).map flG,false) else (cells p o L r,tal (rowV (lnV p r) o))
theorem rowAt_len (p:Pg) (o:Int) (L:List (List Sc)) (r:Nat):(rowAt p o L r).1.length=40:=by
 unfold rowAt
 cases (r==0)||decide (r > 23) with
 | true=>show ((cells p o L r).map flG).length=40; rw [List.length_map,cells_len]
 | false=>exact cells_len _ _ _ _
def rwsV (p:Pg) (o:Int) (L:List (List Sc)):Nat→Nat→List (List Sc)→Bool→List (List (List Sc))
 | 0,_,_,_=>[]
 | n+1,r,q,true=>q.map loG::rwsV p o L n (r+1) (q.map loG) false
 | n+1,r,q,false=>(rowAt p o L r).1::rwsV p o L n (r+1) (rowAt p o L r).1 (rowAt p o L r).2
theorem put_eq {G:List (List Sc)} {r:Nat} {ys:List (List Sc)} (hl:G.length=1000) (hr:r<25) (hy:ys.length=40):(putG G r ys).length=1000∧(putG G r ys).take ((r+1) * 40)=G.take (r * 40)++ys∧gRow (putG G r ys) r=ys:=by
 have e:putG G r ys=G.take (r * 40)++(ys++G.drop (r * 40+40)):=by
  unfold putG spl
  split
  ·simp at hy
  ·rw [List.append_assoc]
 have ht:(G.take (r * 40)).length=r * 40:=by rw [List.length_take]; omega
 rw [e]
 refine ⟨?_,?_,?_⟩
 ·rw [List.length_append,List.length_append,ht,hy,List.length_drop]; omega
 ·rw [← List.append_assoc]
  exact List.take_left' (by rw [List.length_append,ht,hy]; omega)
 ·unfold gRow
  rw [List.drop_left' ht]
  exact List.take_left' hy
theorem gRow_len {G:List (List Sc)} {r:Nat} (hl:G.length=1000) (hr:r<25):(gRow G r).length=40:=by
 unfold gRow
 rw [List.length_take,List.length_drop]
 omega
structure ARw where
 p:Pg
 res:List (List Sc)
 G:List (List Sc)
 o:Int
 L:List (List Sc)
 u:Bool
 q:List (List Sc)
 r:Nat
noncomputable def hRw (x:ARw):St:=sRw x.p x.res x.G x.o x.L x.u (x.r:Int)
structure InR (x:ARw):Prop where
 g:x.G.length=1000
 r:x.r≤25
 l:x.L.length≤1000000
 u:x.u=true→1≤x.r∧gRow x.G (x.r - 1)=x.q
def preRw (x:ARw) (R:NExit × St→Prop):Prop:=InR x∧R (.normal,dRw x.res (x.G.take (x.r * 40)++(rwsV x.p x.o x.L (25 - x.r) x.r x.q x.u).flatten))
noncomputable def nxtRw (x:ARw) (R:NExit × St→Prop) (q:RO):Prop:=match q with
 | .next s=>∃ y,s=hRw y∧25 - y.r<25 - x.r∧preRw y R
 | .done e s=>R (e,s)
theorem put_put {G:List (List Sc)} {r:Nat} {xs ys:List (List Sc)} (hl:G.length=1000) (hr:r<25) (hx:xs.length=40) (hy:ys.length=40):(putG (putG G r xs) r ys).length=1000∧(putG (putG G r xs) r ys).take ((r+1) * 40)=G.take (r * 40)++ys∧gRow (putG (putG G r xs) r ys) r=ys:=by
 obtain ⟨a1,a2,a3⟩:=put_eq hl hr hx
 obtain ⟨b1,b2,b3⟩:=put_eq (G:=putG G r xs) a1 hr hy
 refine ⟨b1,?_,b3⟩
 rw [b2]
 have e:(putG G r xs).take (r * 40)=((putG G r xs).take ((r+1) * 40)).take (r * 40):=by rw [List.take_take]; congr 1; omega
 have ht:(G.take (r * 40)).length=r * 40:=by rw [List.length_take]; omega
 rw [e,a2,List.take_append,ht,Nat.sub_self,List.take_zero,List.append_nil,List.take_of_length_le (by omega)]
theorem rw_in (x:ARw) (R:NExit × St→Prop) (h:preRw x R):Box ((rRw (hRw x)).run (nxtRw x R)):=by
 obtain ⟨p,res,G,o,L,u,q,r⟩:=x
 obtain ⟨⟨hg,h25,hL,hu⟩,hR⟩:=h
 simp only at hg h25 hL hu hR
 have hw:w64 ((r:Int)+1)=((r+1:Nat):Int):=by show IntKind.i64.wrap _=_; rw [IntKind.wrap_i64]; omega
 have ek:((r:Nat):Int).toNat=r:=by simp
 refine Box.of_eq (rw_tree p res G o L u (r:Int) _) ?_
 by_cases hk:r<25
 ·obtain ⟨n,hn⟩:∃ n,25 - r=n+1:=⟨24 - r,by omega⟩
  have hn' : 25 - (r+1)=n:=by omega
  rw [hn] at hR
  have nx:∀ G' ys u',G'.length=1000→G'.take ((r+1) * 40)=G.take (r * 40)++ys→gRow G' r=ys→R (.normal,dRw res (G.take (r * 40)++(ys::rwsV p o L n (r+1) ys u').flatten))→nxRw p res o L (r:Int) (nxtRw ⟨p,res,G,o,L,u,q,r⟩ R) G' u':=by
   intro G' ys u' g1 g2 g3 hr
   unfold nxRw
   rw [hw]
   refine ⟨⟨p,res,G',o,L,u',ys,r+1⟩,rfl,by simp only; omega,⟨g1,by simp only; omega,hL,fun _=>⟨by simp only; omega,g3⟩⟩,?_⟩
   simp only [hn']
   rw [g2,List.append_assoc]
   exact hr
  refine sT (decide_eq_true (by omega)) ?_
  cases u with
  | true=>
    obtain ⟨h1,hq⟩:=hu rfl
    have hw1:w64 ((r:Int) - 1)=((r - 1:Nat):Int):=by show IntKind.i64.wrap _=_; rw [IntKind.wrap_i64]; omega
    have ek1:((r - 1:Nat):Int).toNat=r - 1:=by simp
    have hql:q.length=40:=by rw [← hq]; exact gRow_len hg (by omega)
    obtain ⟨a1,a2,a3⟩:=put_eq (G:=G) (r:=r) (ys:=q.map loG) hg hk (by rw [List.length_map]; exact hql)
    rw [hw1,ek1,hq,ek]
    exact sT rfl (ixG_in ⟨by omega,by omega⟩ ⟨⟨rfl,hql⟩,ixG_in ⟨by omega,by omega⟩ (nx _ _ _ a1 a2 a3 hR)⟩)
  | false=>
    have hR:R (.normal,dRw res (G.take (r * 40)++((rowAt p o L r).1::rwsV p o L n (r+1) (rowAt p o L r).1 (rowAt p o L r).2).flatten)):=hR
    have hc:=cells_len p o L (r:Int)
    refine sF rfl ⟨rfl,rfl,⟨rfl,hL⟩,ixG_in ⟨by omega,by omega⟩ ?_⟩
    rw [ek]
    obtain ⟨a1,a2,a3⟩:=put_eq (G:=G) (r:=r) (ys:=cells p o L (r:Int)) hg hk hc
    have flat:((r==0)||decide (r > 23))=true→flA p res o L (r:Int) (nxtRw ⟨p,res,G,o,L,false,q,r⟩ R) (putG G r (cells p o L (r:Int))) false:=by
     intro hc0
     unfold rowAt at hR
     rw [hc0] at hR
     unfold flA
     rw [ek,a3]
     obtain ⟨b1,b2,b3⟩:=put_put (G:=G) (r:=r) (xs:=cells p o L (r:Int)) (ys:=(cells p o L (r:Int)).map flG) hg hk hc (by rw [List.length_map]; exact hc)
     exact ixG_in ⟨by omega,by omega⟩ ⟨⟨rfl,hc⟩,ixG_in ⟨by omega,by omega⟩ (nx _ _ _ b1 b2 b3 hR)⟩
    by_cases h0:r=0
    ·exact sT (by rw [beq_iff_eq]; omega) (flat (by rw [h0]; rfl))
    ·refine sF (by rw [beq_eq_false_iff_ne]; omega) ?_
     by_cases h23:r > 23
     ·exact sT (decide_eq_true (by omega)) (flat (by rw [decide_eq_true h23,Bool.or_true]))
     ·refine sF (decide_eq_false (by omega)) (nx _ _ _ a1 a2 a3 ?_)
      unfold rowAt at hR
      rw [show (r==0)=false by rw [beq_eq_false_iff_ne]; exact h0,decide_eq_false h23] at hR
      exact hR
 ·have e25:r=25:=by omega
  subst e25
  refine sF (decide_eq_false (by omega)) ?_
  have hR:R (.normal,dRw res (G.take 1000++[])):=hR
  rw [List.take_of_length_le (by omega),List.append_nil] at hR
  exact hR
noncomputable def rdRw (s:St):Option (Pg × List (List Sc) × List (List Sc) × Int × List (List Sc)):=match s.fr[(4:Nat)]?,s.fr[(5:Nat)]?,s.rg with
 | some (.v (.c (.i _ o))),some (.v (.c (.lr _ L))),[some ⟨_,_,.sg l⟩,some ⟨_,_,.sg [.recs _ _ res]⟩,some ⟨_,_,.sg [.recs _ _ G]⟩]=>(match rdPg (.sg l) with
   | some p=>some (p,res,G,o,L)
   | none=>none)
 | _,_,_=>none
noncomputable def lRw (s:St):Tr (NExit × St):=match rdRw s with
 | some (p,res,G,o,L)=>.must (s=sRw p res G o L false 0∧G.length=1000∧L.length≤1000000) (.ret (.normal,dRw res (rwsV p o L 25 0 [] false).flatten))
 | none=>.fail
theorem loop_rw:LOk Tryz.prog GL 0 0 (bodyLoop f_rw 0) lRw:=by
 refine loop_ok (X:=X_rw) kc_rw mixed (LAll.none (by kernel_rfl)) [1,2,3,4,5,6,15] [2,3] hRw (fun x=>25 - x.r) preRw ?_ ?_
 ·intro s R h
  unfold lRw at h
  split at h
  case h_2=>exact h.elim
  rename_i p res G o L hx
  obtain ⟨⟨hs,hg,hl⟩,hR⟩:=h
  exact ⟨⟨p,res,G,o,L,false,[],0⟩,hs,⟨hg,by simp only; omega,hl,fun hc=>by cases hc⟩,hR⟩
 ·intro x R h
  exact Tr.run_mono _ (fun q hq=>hq) (rw_in x R h).out
noncomputable def t_rw:Con:=fun args regs=>if regs.length=0 then nfun Tryz.prog GL c_rw [(0,[1,2,3,4,5,6,15],lRw)] f_rw args regs else .fail
theorem k_rw:Known Tryz.prog GL 118 t_rw:=known_loops 0 Tryz.func118 rfl (by kernel_rfl) mixed kc_rw (LAll.one (id:=0) (body:=bodyLoop f_rw 0) (by kernel_rfl) rfl loop_rw)
def oGr (G:List (List Sc)):Out:=⟨.v (.sg [.recs KC 1000 G]),[]⟩
def rwsG (p:Pg):List (List Sc):=(rwsV p (regV p) (spV p.ex (-1)) 25 0 [] false).flatten
theorem rws_tree (p:Pg) (R:Out→Prop):(t_rw [pgV p] []).run R=([pgV p]=[pgV p]∧(([NV.c (.lr K3 p.ex)]=[NV.c (.lr K3 p.ex)]∧p.ex.length≤1000000)∧((sRw p (List.replicate 1000 zc) (List.replicate 1000 zc) (regV p) (spV p.ex (-1)) false 0=sRw p (List.replicate 1000 zc) (List.replicate 1000 zc) (regV p) (spV p.ex (-1)) false 0∧(List.replicate 1000 zc).length=1000∧(spV p.ex (-1)).length≤1000000)∧R (oGr (rwsG p))))):=by kernel_rfl
theorem spV_len:∀ (L:List (List Sc)) (a:Int),(spV L a).length≤L.length
 | [],_=>Nat.le_refl _
 | x::L,a=>by
   have i1:=spV_len L (roV (xI x 0) (xI x 1) a)
   have i2:=spV_len L a
   unfold spV
   cases decide (xI x 0 ≥ 40) with
   | true=>
     cases xI x 1==31 with
     | true=>exact Nat.zero_le _
     | false=>exact Nat.le_succ_of_le i1
   | false=>
     cases (gT x).2 with
     | true=>
       cases a !=-1 with
       | true=>exact Nat.succ_le_succ i2
       | false=>exact Nat.le_succ_of_le i2
     | false=>exact Nat.le_succ_of_le i2
noncomputable def tRws:Con:=fun args regs=>match args,regs with
 | [v],[]=>(match rdPg v with
   | some p=>.must (args=[pgV p]∧fits p) (.ret (oGr (rwsG p)))
   | none=>.fail)
 | _,_=>.fail
attribute [local irreducible] t_rw in
theorem kRws:Known Tryz.prog GL 118 tRws:=by
 refine k_rw.less fun args regs R h=>?_
 unfold tRws at h
 split at h
 case h_2=>exact h.elim
 split at h
 case h_2=>exact h.elim
 obtain ⟨⟨h1,h2⟩,h⟩:=h
 rw [h1]
 unfold fits at h2
 have hs:=spV_len (Pg.ex (by assumption)) (-1)
 exact (Box.of_eq (rws_tree _ R) ⟨rfl,⟨rfl,by omega⟩,⟨rfl,by decide +kernel,by omega⟩,h⟩).out
end gr
end
section
namespace gr
open Go Go.Nx pk
open bm (ixU ixU_in)
open sto (pgV rdPg)
open ac (Pg pgZ K1)
open mac (fits)
noncomputable def c_shw:FuncId→Option Con:=conOf [(115,t_rBlank)]
theorem kc_shw:∀ f T,c_shw f=some T→Known Tryz.prog GL f T:=(Knowns.cons k_rBlank .nil).get
noncomputable def t_shw:Con:=fun args regs=>nfun Tryz.prog GL c_shw [] Tryz.f119 args regs
theorem k_shw:Known Tryz.prog GL 119 t_shw:=known_inl Tryz.func119 rfl (by kernel_rfl) mixed kc_shw (by kernel_rfl)
noncomputable abbrev f_pg:=Tryz.f70
structure Cl where
 gl:Int
 fg:Int
 bg:Int
 fl:Bool
 co:Bool
 bx:Bool
 un:Bool
 iv:Bool
 hi:Int
 wd:Int
def Cl.nc (x:Cl):List NC:=[.i .i64 x.gl,.i .i64 x.fg,.i .i64 x.bg,.b x.fl,.b x.co,.b x.bx,.b x.un,.b x.iv,.i .i64 x.hi,.i .i64 x.wd]
def Cl.row (x:Cl):List Sc:=[.i x.gl,.i x.fg,.i x.bg,.b x.fl,.b x.co,.b x.bx,.b x.un,.b x.iv,.i x.hi,.i x.wd]
def toCl (x:List Sc):Cl:=⟨xI x 0,xI x 1,xI x 2,xB x 3,xB x 4,xB x 5,xB x 6,xB x 7,xI x 8,xI x 9⟩
def clB:Cl:=⟨32,7,0,false,false,false,false,false,0,0⟩
def Cl.hid (x:Cl) (re:Bool):Cl:=bif x.co then (bif !re then {x with gl:=32} else x) else x
def Cl.box (x:Cl) (bo:Bool):Cl:=bif bo then (bif !x.bx then clB else x) else x
def Cl.mix (x:Cl) (mi:Bool):Cl:=bif mi then (bif !x.bx then {x with bg:=-1} else x) else x
def Cl.shown (x:Cl) (bo re mi:Bool):Cl:=((x.hid re).box bo).mix mi
def mixT (x:Cl) (mi:Bool) (R:Cl→Prop):Prop:=sel mi (sel (!x.bx) (R {x with bg:=-1}) (R x)) (R x)
def bMix (mi:Bool) (R:Cl→Prop):Prop:=sel mi (R {clB with bg:=-1}) (R clB)
def boxT (x:Cl) (bo mi:Bool) (R:Cl→Prop):Prop:=sel bo (sel (!x.bx) (bMix mi R) (mixT x mi R)) (mixT x mi R)
def shT (x:Cl) (bo re mi:Bool) (R:Cl→Prop):Prop:=sel x.co (sel (!re) (boxT {x with gl:=32} bo mi R) (boxT x bo mi R)) (boxT x bo mi R)
def oCl (x:Cl):Out:=⟨.v (.ag x.nc),[]⟩
theorem sh_tree (x:Cl) (bo re mi:Bool) (R:Out→Prop):(t_shw [.ag x.nc,.c (.b bo),.ag [.b re,.b mi]] []).run R=shT x bo re mi fun y=>R (oCl y):=by kernel_rfl
theorem mixT_in {x:Cl} {mi:Bool} {R:Cl→Prop} (h:R (x.mix mi)):mixT x mi R:=by
 unfold Cl.mix at h
 exact sel_bif (R:=R) h (fun h=>sel_bif (R:=R) h id id) id
theorem boxT_in {x:Cl} {bo mi:Bool} {R:Cl→Prop} (h:R ((x.box bo).mix mi)):boxT x bo mi R:=by
 have h:(fun y:Cl=>R (y.mix mi)) (x.box bo):=h
 unfold Cl.box at h
 refine sel_bif (R:=fun y:Cl=>R (y.mix mi)) h (fun h=>sel_bif (R:=fun y:Cl=>R (y.mix mi)) h (fun h=>?_) mixT_in) mixT_in
 unfold Cl.mix at h
 exact sel_bif (R:=R) h id id
theorem shT_in {x:Cl} {bo re mi:Bool} {R:Cl→Prop} (h:R (x.shown bo re mi)):shT x bo re mi R:=by
 have h:(fun y:Cl=>R ((y.box bo).mix mi)) (x.hid re):=h
 unfold Cl.hid at h
 exact sel_bif (R:=fun y:Cl=>R ((y.box bo).mix mi)) h (fun h=>sel_bif (R:=fun y:Cl=>R ((y.box bo).mix mi)) h boxT_in boxT_in) boxT_in
def rdCl:List NC→Option Cl
 | [.i _ a,.i _ b,.i _ c,.b d,.b e,.b f,.b g,.b h,.i _ i,.i _ j]=>some ⟨a,b,c,d,e,f,g,h,i,j⟩
 | _=>none
noncomputable def tShw:Con:=fun args regs=>match args,regs with
 | [.ag l,.c (.b bo),.ag [.b re,.b mi]],[]=>(match rdCl l with
   | some x=>.must (args=[.ag x.nc,.c (.b bo),.ag [.b re,.b mi]]) (.ret (oCl (x.shown bo re mi)))
   | none=>.fail)
 | _,_=>.fail
attribute [local irreducible] t_shw in
theorem kShw:Known Tryz.prog GL 119 tShw:=by
 refine k_shw.less fun args regs R h=>?_
 unfold tShw at h
 split at h
 case h_2=>exact h.elim
 split at h
 case h_2=>exact h.elim
 obtain ⟨h1,h⟩:=h
 rw [h1]
 exact (Box.of_eq (sh_tree _ _ _ _ R) (shT_in (R:=fun y=>R (oCl y)) h)).out
noncomputable def c_pg:FuncId→Option Con:=conOf [(118,tRws),(116,tRow0),(119,tShw)]
theorem kc_pg:∀ f T,c_pg f=some T→Known Tryz.prog GL f T:=(Knowns.cons kRws (.cons kRow0 (.cons kShw .nil))).get
noncomputable def X_pg:Cx:={P:=Tryz.prog,con:=c_pg,glob:=GL,m:=0,loops:=[]}
def Pg.wc (p:Pg) (c:List (List Sc)):Pg:={p with c:=c}
def hwR (re mi:Bool):Reg:=⟨2,150,.cells [.b re,.b mi]⟩
def flR (F:List (List Sc)):Reg:=⟨1,46,.recs [.b] F⟩
def rgP (re mi:Bool) (res G F:List (List Sc)):List (Option Reg):=[some (hwR re mi),some (grR res),some (grR G),some (flR F)]
def sP (re mi:Bool) (res G F:List (List Sc)) (r:Int):St:={fr:=frame 58 [(3,.v (.c (.p 0 0 0))),(4,.v (.c (.p 1 0 0))),(5,.v (.c (.p 2 0 0))),(6,.v (.c (.p 3 0 0))),(15,.v (.c (.i .i64 r)))],rg:=rgP re mi res G F}
def dP (res G:List (List Sc)):St:={fr:=frame 58 [(4,.v (.c (.p 0 0 0))),(5,.v (.c (.p 1 0 0)))],rg:=[some (grR res),some (grR G)]}
def sIn (re mi:Bool) (res G F ys:List (List Sc)) (r k:Int):St:={fr:=frame 58 [(3,.v (.c (.p 0 0 0))),(4,.v (.c (.p 1 0 0))),(5,.v (.c (.p 2 0 0))),(6,.v (.c (.p 3 0 0))),(7,.v (.c (.i .i64 r))),(15,.v (.c (.i .i64 r))),(37,.v (.sg [.recs KC 40 ys])),(38,.v (.c (.i .i64 k)))],rg:=rgP re mi res G F}
noncomputable def rIn (s:St):Tr RO:=roundT X_pg 2 [3,4,5,6,7,15,37,38] [3,4,5,6,15] (bodyLoop f_pg 2) s
end gr
end
namespace mac
end mac
namespace sp
open sto (sT sF Ky Sp kyP pgV)
open ac (Pg pgZ K1 K3)
open Go Go.Nx pk mac
theorem list11 {α:Type} {l:List α} (h:l.length=11):∃ c0 c1 c2 c3 c4 c5 c6 c7 c8 c9 c10,l=[c0,c1,c2,c3,c4,c5,c6,c7,c8,c9,c10]:=by
 match l,h with
 | [c0,c1,c2,c3,c4,c5,c6,c7,c8,c9,c10],_=>exact ⟨c0,c1,c2,c3,c4,c5,c6,c7,c8,c9,c10,rfl⟩
end sp
section
namespace gr
open Go Go.Nx pk
open bm (ixU ixU_in)
open sto (pgV rdPg)
open ac (Pg pgZ K1)
open mac (fits)
def fAt (F:List (List Sc)) (j:Nat):Bool:=xB (F.getD j []) 0
def stG (r k:Int) (A:Prop):Prop:=sel (decide (0≤r)) (sel (decide (r<25)) (sel (decide (0≤k)) (sel (decide (k<40)) (sel (decide (r.toNat * 40+k.toNat+1≤1000)) A False) False) False) False) False
theorem stG_in {r k:Int} {A:Prop} (hr:0≤r∧r<25) (hk:0≤k∧k<40) (hA:A):stG r k A:=sT (decide_eq_true hr.1) (sT (decide_eq_true hr.2) (sT (decide_eq_true hk.1) (sT (decide_eq_true hk.2) (sT (decide_eq_true (by omega)) hA))))
def shR (bo re mi:Bool) (y:List Sc):List Sc:=((toCl y).shown bo re mi).row
def bdI (re mi:Bool) (res G F ys:List (List Sc)) (r k:Int) (R:RO→Prop) (bo:Bool):Prop:=
 [NV.ag (toCl (ys.getD k.toNat [])).nc,.c (.b bo),.ag [.b re,.b mi]]=[NV.ag (toCl (ys.getD k.toNat [])).nc,.c (.b bo),.ag [.b re,.b mi]]∧stG r k (R (.next (sIn re mi res (spl G (r.toNat * 40+k.toNat) 1 [shR bo re mi (ys.getD k.toNat [])]) F ys r (w64 (k+1)))))
theorem in_tree (re mi:Bool) (res G F ys:List (List Sc)) (r k:Int) (R:RO→Prop):(rIn (sIn re mi res G F ys r k)).run R =
 sel (decide (k<40)) (ixC k (sel (decide (1<F.length)) (sel (fAt F 1) (bdI re mi res G F ys r k R true) (sel (decide (2<F.length)) (bdI re mi res G F ys r k R (fAt F 2)) False)) False)) (R (.done .normal (sP re mi res G F r))):=by kernel_rfl
theorem put_all {G:List (List Sc)} {r:Nat} {ys:List (List Sc)} (hl:G.length=1000) (hr:r<25) (hy:ys.length=40):putG G r ys=G.take (r * 40)++(ys++G.drop (r * 40+40)):=by
 unfold putG spl
 split
 ·simp at hy
 ·rw [List.append_assoc]
theorem put_set {G:List (List Sc)} {r k:Nat} {ys:List (List Sc)} {y:List Sc} (hl:G.length=1000) (hr:r<25) (hy:ys.length=40) (hk:k<40):(putG G r ys).set (r * 40+k) y=putG G r (ys.set k y):=by
 have ht:(G.take (r * 40)).length=r * 40:=by rw [List.length_take]; omega
 rw [put_all hl hr hy,put_all hl hr (by rw [List.length_set]; exact hy),List.set_append_right _ _ (by omega),ht,show r * 40+k - r * 40=k by omega,List.set_append_left _ _ (by omega)]
theorem put_row {G:List (List Sc)} {r:Nat} (hl:G.length=1000) (hr:r<25):putG G r (gRow G r)=G:=by
 rw [put_all hl hr (gRow_len hl hr)]
 unfold gRow
 rw [← List.drop_drop,List.take_append_drop,List.take_append_drop]
structure AIn where
 re:Bool
 mi:Bool
 res:List (List Sc)
 G:List (List Sc)
 F:List (List Sc)
 r:Nat
 k:Nat
def boV (F:List (List Sc)):Bool:=fAt F 1||fAt F 2
def hIn (x:AIn):St:=sIn x.re x.mi x.res (putG x.G x.r (ptw (shR (boV x.F) x.re x.mi) x.k (gRow x.G x.r))) x.F (gRow x.G x.r) (x.r:Int) (x.k:Int)
def preIn (x:AIn) (R:NExit × St→Prop):Prop:=(x.G.length=1000∧x.r<25∧x.k≤40∧3≤x.F.length)∧R (.normal,sP x.re x.mi x.res (putG x.G x.r ((gRow x.G x.r).map (shR (boV x.F) x.re x.mi))) x.F (x.r:Int))
def nxtIn (x:AIn) (R:NExit × St→Prop) (q:RO):Prop:=match q with
 | .next s=>∃ y,s=hIn y∧40 - y.k<40 - x.k∧preIn y R
 | .done e s=>R (e,s)
theorem in_in (x:AIn) (R:NExit × St→Prop) (h:preIn x R):Box ((rIn (hIn x)).run (nxtIn x R)):=by
 obtain ⟨re,mi,res,G,F,r,k⟩:=x
 obtain ⟨⟨hg,hr,hk40,hF⟩,hR⟩:=h
 simp only at hg hr hk40 hF hR
 have hw:w64 ((k:Int)+1)=((k+1:Nat):Int):=by show IntKind.i64.wrap _=_; rw [IntKind.wrap_i64]; omega
 have ek:((k:Nat):Int).toNat=k:=by simp
 have er:((r:Nat):Int).toNat=r:=by simp
 have hgl:=gRow_len hg hr
 refine Box.of_eq (in_tree re mi res (putG G r (ptw (shR (boV F) re mi) k (gRow G r))) F (gRow G r) (r:Int) (k:Int) _) ?_
 by_cases hk:k<40
 ·have go:bdI re mi res (putG G r (ptw (shR (boV F) re mi) k (gRow G r))) F (gRow G r) (r:Int) (k:Int) (nxtIn ⟨re,mi,res,G,F,r,k⟩ R) (boV F):=by
   refine ⟨rfl,stG_in ⟨by omega,by omega⟩ ⟨by omega,by omega⟩ ?_⟩
   rw [ek,er,hw]
   have es:spl (putG G r (ptw (shR (boV F) re mi) k (gRow G r))) (r * 40+k) 1 [shR (boV F) re mi ((gRow G r).getD k [])]=putG G r (ptw (shR (boV F) re mi) (k+1) (gRow G r)):=by
    show (putG G r (ptw (shR (boV F) re mi) k (gRow G r))).set (r * 40+k) _=_
    rw [put_set hg hr (by rw [ptw_len]; exact hgl) hk,ptw_set (by omega)]
   rw [es]
   exact ⟨⟨re,mi,res,G,F,r,k+1⟩,rfl,by simp only; omega,⟨hg,hr,by simp only; omega,hF⟩,hR⟩
  refine sT (decide_eq_true (by omega)) (ixC_in ⟨by omega,by omega⟩ (sT (decide_eq_true (by omega)) ?_))
  unfold boV at go
  cases h1:fAt F 1 with
  | true=>rw [h1] at go; unfold boV; rw [h1]; exact sT rfl go
  | false=>rw [h1,Bool.false_or] at go; unfold boV; rw [h1,Bool.false_or]; exact sF rfl (sT (decide_eq_true (by omega)) go)
 ·have e40:k=40:=by omega
  subst e40
  rw [ptw_all hgl]
  exact sF (decide_eq_false (by omega)) hR
def rdIn (s:St):Option (Bool × Bool × List (List Sc) × List (List Sc) × List (List Sc) × Int):=match s.fr[(7:Nat)]?,s.rg with
 | some (.v (.c (.i _ r))),[some ⟨_,_,.cells [.b re,.b mi]⟩,some ⟨_,_,.sg [.recs _ _ res]⟩,some ⟨_,_,.sg [.recs _ _ G]⟩,some ⟨_,_,.recs _ F⟩]=>some (re,mi,res,G,F,r)
 | _,_=>none
def lIn (s:St):Tr (NExit × St):=match rdIn s with
 | some (re,mi,res,G,F,r)=>.must (s=sIn re mi res G F (gRow G r.toNat) r 0∧G.length=1000∧(0≤r∧r<25)∧3≤F.length) (.ret (.normal,sP re mi res (putG G r.toNat ((gRow G r.toNat).map (shR (boV F) re mi))) F r))
 | none=>.fail
theorem loop_in:LOk Tryz.prog GL 0 2 (bodyLoop f_pg 2) lIn:=by
 refine loop_ok (X:=X_pg) kc_pg mixed (LAll.none (by kernel_rfl)) [3,4,5,6,7,15,37,38] [3,4,5,6,15] hIn (fun x=>40 - x.k) preIn ?_ ?_
 ·intro s R h
  unfold lIn at h
  split at h
  case h_2=>exact h.elim
  rename_i re mi res G F r hx
  obtain ⟨⟨hs,hg,hr,hF⟩,hR⟩:=h
  obtain ⟨n,rfl⟩:∃ n:Nat,r=(n:Int):=⟨r.toNat,by omega⟩
  have en:((n:Nat):Int).toNat=n:=by simp
  rw [en] at hs hR
  refine ⟨⟨re,mi,res,G,F,n,0⟩,?_,⟨hg,by simp only; omega,by simp only; omega,hF⟩,hR⟩
  have e0:putG G n (ptw (shR (boV F) re mi) 0 (gRow G n))=G:=by
   have:ptw (shR (boV F) re mi) 0 (gRow G n)=gRow G n:=rfl
   rw [this,put_row hg (by omega)]
  show s=sIn re mi res (putG G n (ptw (shR (boV F) re mi) 0 (gRow G n))) F (gRow G n) (n:Int) 0
  rw [e0]
  exact hs
 ·intro x R h
  exact Tr.run_mono _ (fun q hq=>hq) (in_in x R h).out
noncomputable def X_po:Cx:={P:=Tryz.prog,con:=c_pg,glob:=GL,m:=0,loops:=[(2,[3,4,5,6,7,15,37,38],lIn)]}
noncomputable def rP (s:St):Tr RO:=roundT X_po 0 [3,4,5,6,15] [4,5] (bodyLoop f_pg 0) s
def inA (re mi:Bool) (res F:List (List Sc)) (r:Int) (R:RO→Prop) (G:List (List Sc)):Prop:=ixG r ((sIn re mi res G F (gRow G r.toNat) r 0=sIn re mi res G F (gRow G r.toNat) r 0∧G.length=1000∧(0≤r∧r<25)∧3≤F.length)∧R (.next (sP re mi res (putG G r.toNat ((gRow G r.toNat).map (shR (boV F) re mi))) F (w64 (r+1)))))
def blA (re mi:Bool) (res F:List (List Sc)) (r:Int) (R:RO→Prop) (G:List (List Sc)):Prop:=ixG r (inA re mi res F r R (putG G r.toNat (List.replicate 40 blC)))
def chF (F:List (List Sc)) (j:Nat) (A:Prop):Prop:=sel (decide (j<F.length)) A False
def cd2 (F:List (List Sc)) (r:Int) (A B:Prop):Prop:=sel (decide (r > 0)) (chF F 6 (sel (fAt F 6) A B)) B
theorem pg_tree (re mi:Bool) (res G F:List (List Sc)) (r:Int) (R:RO→Prop):(rP (sP re mi res G F r)).run R =
 sel (decide (r<25)) (sel (r==0) (chF F 3 (sel (fAt F 3) (blA re mi res F r R G) (cd2 F r (blA re mi res F r R G) (inA re mi res F r R G)))) (cd2 F r (blA re mi res F r R G) (inA re mi res F r R G))) (R (.done .normal (dP res G))):=by kernel_rfl
theorem put_drop {G:List (List Sc)} {r:Nat} {ys:List (List Sc)} (hl:G.length=1000) (hr:r<25) (hy:ys.length=40):(putG G r ys).drop ((r+1) * 40)=G.drop ((r+1) * 40):=by
 have ht:(G.take (r * 40)).length=r * 40:=by rw [List.length_take]; omega
 rw [put_all hl hr hy,← List.append_assoc,List.drop_left' (by rw [List.length_append,ht,hy]; omega),show r * 40+40=(r+1) * 40 by omega]
def blV (F:List (List Sc)) (r:Nat):Bool:=((r==0)&&fAt F 3)||(decide (r > 0)&&fAt F 6)
def outR (F:List (List Sc)) (re mi:Bool) (G:List (List Sc)) (r:Nat):List (List Sc):=(bif blV F r then List.replicate 40 blC else gRow G r).map (shR (boV F) re mi)
def outV (F:List (List Sc)) (re mi:Bool) (G:List (List Sc)):Nat→Nat→List (List (List Sc))
 | 0,_=>[]
 | n+1,r=>outR F re mi G r::outV F re mi G n (r+1)
structure AP where
 re:Bool
 mi:Bool
 res:List (List Sc)
 G0:List (List Sc)
 G:List (List Sc)
 F:List (List Sc)
 r:Nat
def hP (x:AP):St:=sP x.re x.mi x.res x.G x.F (x.r:Int)
structure InP (x:AP):Prop where
 g:x.G.length=1000
 d:x.G.drop (x.r * 40)=x.G0.drop (x.r * 40)
 r:x.r≤25
 f:7≤x.F.length
def preP (x:AP) (R:NExit × St→Prop):Prop:=InP x∧R (.normal,dP x.res (x.G.take (x.r * 40)++(outV x.F x.re x.mi x.G0 (25 - x.r) x.r).flatten))
def nxtP (x:AP) (R:NExit × St→Prop) (q:RO):Prop:=match q with
 | .next s=>∃ y,s=hP y∧25 - y.r<25 - x.r∧preP y R
 | .done e s=>R (e,s)
theorem p_in (x:AP) (R:NExit × St→Prop) (h:preP x R):Box ((rP (hP x)).run (nxtP x R)):=by
 obtain ⟨re,mi,res,G0,G,F,r⟩:=x
 obtain ⟨⟨hg,hd,h25,hF⟩,hR⟩:=h
 simp only at hg hd h25 hF hR
 have hw:w64 ((r:Int)+1)=((r+1:Nat):Int):=by show IntKind.i64.wrap _=_; rw [IntKind.wrap_i64]; omega
 have er:((r:Nat):Int).toNat=r:=by simp
 refine Box.of_eq (pg_tree re mi res G F (r:Int) _) ?_
 by_cases hk:r<25
 ·obtain ⟨n,hn⟩:∃ n,25 - r=n+1:=⟨24 - r,by omega⟩
  have hn' : 25 - (r+1)=n:=by omega
  rw [hn] at hR
  have hR:R (.normal,dP res (G.take (r * 40)++(outR F re mi G0 r::outV F re mi G0 n (r+1)).flatten)):=hR
  have hrow:gRow G r=gRow G0 r:=by unfold gRow; rw [hd]
  have nx:∀ G',G'.length=1000→G'.take ((r+1) * 40)=G.take (r * 40)++outR F re mi G0 r→G'.drop ((r+1) * 40)=G.drop ((r+1) * 40)→(nxtP ⟨re,mi,res,G0,G,F,r⟩ R) (.next (sP re mi res G' F (w64 ((r:Int)+1)))):=by
   intro G' g1 g2 g3
   rw [hw]
   refine ⟨⟨re,mi,res,G0,G',F,r+1⟩,rfl,by simp only; omega,⟨g1,?_,by simp only; omega,hF⟩,?_⟩
   ·simp only
    rw [g3,show (r+1) * 40=r * 40+40 by omega,← List.drop_drop,hd,List.drop_drop]
   ·simp only [hn']
    rw [g2,List.append_assoc]
    exact hR
  have no:blV F r=false→inA re mi res F (r:Int) (nxtP ⟨re,mi,res,G0,G,F,r⟩ R) G:=by
   intro hb
   have hl:((gRow G r).map (shR (boV F) re mi)).length=40:=by rw [List.length_map,gRow_len hg hk]
   obtain ⟨a1,a2,-⟩:=put_eq (G:=G) (r:=r) (ys:=(gRow G r).map (shR (boV F) re mi)) hg hk hl
   refine ixG_in ⟨by omega,by omega⟩ ⟨⟨rfl,hg,⟨by omega,by omega⟩,by omega⟩,?_⟩
   rw [er]
   refine nx _ a1 ?_ (put_drop hg hk hl)
   rw [a2]
   unfold outR
   rw [hb,hrow]
   rfl
  have bl:blV F r=true→blA re mi res F (r:Int) (nxtP ⟨re,mi,res,G0,G,F,r⟩ R) G:=by
   intro hb
   have hl0:(List.replicate 40 blC).length=40:=by simp
   have hl:((List.replicate 40 blC).map (shR (boV F) re mi)).length=40:=by rw [List.length_map,hl0]
   obtain ⟨c1,-,c3⟩:=put_eq (G:=G) (r:=r) (ys:=List.replicate 40 blC) hg hk hl0
   obtain ⟨a1,a2,-⟩:=put_put (G:=G) (r:=r) (xs:=List.replicate 40 blC) (ys:=(List.replicate 40 blC).map (shR (boV F) re mi)) hg hk hl0 hl
   refine ixG_in ⟨by omega,by omega⟩ ?_
   rw [er]
   unfold inA
   rw [er,c3]
   refine ixG_in ⟨by omega,by omega⟩ ⟨⟨rfl,c1,⟨by omega,by omega⟩,by omega⟩,nx _ a1 ?_ ?_⟩
   ·rw [a2]
    unfold outR
    rw [hb]
    rfl
   ·rw [put_drop c1 hk hl,put_drop hg hk hl0]
  have c2:((r==0)&&fAt F 3)=false→cd2 F (r:Int) (blA re mi res F (r:Int) (nxtP ⟨re,mi,res,G0,G,F,r⟩ R) G) (inA re mi res F (r:Int) (nxtP ⟨re,mi,res,G0,G,F,r⟩ R) G):=by
   intro h0
   unfold blV at bl no
   rw [h0,Bool.false_or] at bl no
   by_cases hr:r > 0
   ·rw [decide_eq_true hr,Bool.true_and] at bl no
    refine sT (decide_eq_true (by omega)) (sT (decide_eq_true (by omega)) ?_)
    cases h6:fAt F 6 with
    | true=>exact sT rfl (bl h6)
    | false=>exact sF rfl (no h6)
   ·rw [decide_eq_false hr,Bool.false_and] at no
    exact sF (decide_eq_false (by omega)) (no rfl)
  refine sT (decide_eq_true (by omega)) ?_
  by_cases h0:r=0
  ·refine sT (by rw [beq_iff_eq]; omega) (sT (decide_eq_true (by omega)) ?_)
   cases h3:fAt F 3 with
   | true=>exact sT rfl (bl (by unfold blV; rw [h3,h0]; rfl))
   | false=>exact sF rfl (c2 (by rw [h3,Bool.and_false]))
  ·exact sF (by rw [beq_eq_false_iff_ne]; omega) (c2 (by rw [show (r==0)=false by rw [beq_eq_false_iff_ne]; exact h0,Bool.false_and]))
 ·have e25:r=25:=by omega
  subst e25
  refine sF (decide_eq_false (by omega)) ?_
  have hR:R (.normal,dP res (G.take 1000++[])):=hR
  rw [List.take_of_length_le (by omega),List.append_nil] at hR
  exact hR
def rdP (s:St):Option (Bool × Bool × List (List Sc) × List (List Sc) × List (List Sc)):=match s.rg with
 | [some ⟨_,_,.cells [.b re,.b mi]⟩,some ⟨_,_,.sg [.recs _ _ res]⟩,some ⟨_,_,.sg [.recs _ _ G]⟩,some ⟨_,_,.recs _ F⟩]=>some (re,mi,res,G,F)
 | _=>none
def lP (s:St):Tr (NExit × St):=match rdP s with
 | some (re,mi,res,G,F)=>.must (s=sP re mi res G F 0∧G.length=1000∧7≤F.length) (.ret (.normal,dP res (outV F re mi G 25 0).flatten))
 | none=>.fail
theorem loop_p:LOk Tryz.prog GL 0 0 (bodyLoop f_pg 0) lP:=by
 refine loop_ok (X:=X_po) kc_pg mixed (LAll.one (id:=2) (body:=bodyLoop f_pg 2) (by kernel_rfl) rfl loop_in) [3,4,5,6,15] [4,5] hP (fun x=>25 - x.r) preP ?_ ?_
 ·intro s R h
  unfold lP at h
  split at h
  case h_2=>exact h.elim
  rename_i re mi res G F hx
  obtain ⟨⟨hs,hg,hF⟩,hR⟩:=h
  exact ⟨⟨re,mi,res,G,G,F,0⟩,hs,⟨hg,rfl,by simp only; omega,hF⟩,hR⟩
 ·intro x R h
  exact Tr.run_mono _ (fun q hq=>hq) (p_in x R h).out
noncomputable def t_pg:Con:=fun args regs=>if regs.length=0 then nfun Tryz.prog GL c_pg [(0,[3,4,5,6,15],lP)] f_pg args regs else .fail
theorem k_pg:Known Tryz.prog GL 70 t_pg:=known_loops 0 Tryz.func70 rfl (by kernel_rfl) mixed kc_pg (LAll.one (id:=0) (body:=bodyLoop f_pg 0) (by kernel_rfl) rfl loop_p)
def flF (c:List (List Sc)):List (List Sc):=c.map fun x=>[Sc.b (xB x 0)]
def pageV (p:Pg) (re mi:Bool):List (List Sc):=(outV (flF p.c) re mi (rwsG p) 25 0).flatten
def pgT (p:Pg) (re mi:Bool) (R:Out→Prop):Prop:=([pgV p]=[pgV p]∧fits p)∧((sP re mi (List.replicate 1000 zc) (rwsG p) (flF p.c) 0=sP re mi (List.replicate 1000 zc) (rwsG p) (flF p.c) 0∧(rwsG p).length=1000∧7≤(flF p.c).length)∧R (oGr (pageV p re mi)))
theorem page_tree (p:Pg) (c0 c1 c2 c3 c4 c5 c6 c7 c8 c9 c10:List Sc) (re mi:Bool) (R:Out→Prop):(t_pg [pgV (Pg.wc p [c0,c1,c2,c3,c4,c5,c6,c7,c8,c9,c10]),.ag [.b re,.b mi]] []).run R=pgT (Pg.wc p [c0,c1,c2,c3,c4,c5,c6,c7,c8,c9,c10]) re mi R:=by kernel_rfl
theorem rwsV_len (p:Pg) (o:Int) (L:List (List Sc)):∀ (n r:Nat) (q:List (List Sc)) (u:Bool),(u=true→q.length=40)→(rwsV p o L n r q u).flatten.length=n * 40
 | 0,_,_,_,_=>rfl
 | n+1,r,q,true,h=>by
   have hq:=h rfl
   show (q.map loG++(rwsV p o L n (r+1) (q.map loG) false).flatten).length=_
   rw [List.length_append,List.length_map,hq,rwsV_len p o L n (r+1) _ false (fun hc=>by cases hc)]
   omega
 | n+1,r,q,false,_=>by
   show ((rowAt p o L r).1++(rwsV p o L n (r+1) (rowAt p o L r).1 (rowAt p o L r).2).flatten).length=_
   rw [List.length_append,rowAt_len,rwsV_len p o L n (r+1) _ _ (fun _=>rowAt_len p o L r)]
   omega
theorem rwsG_len (p:Pg):(rwsG p).length=1000:=rwsV_len p _ _ 25 0 [] false fun hc=>by cases hc
noncomputable def tPg:Con:=fun args regs=>match args,regs with
 | [v,.ag [.b re,.b mi]],[]=>(match rdPg v with
   | some p=>.must (args=[pgV p,.ag [.b re,.b mi]]∧fits p∧p.c.length=11) (.ret (oGr (pageV p re mi)))
   | none=>.fail)
 | _,_=>.fail
theorem pg_in {p:Pg} {re mi:Bool} {R:Out→Prop} (hf:fits p) (hc:p.c.length=11) (h:R (oGr (pageV p re mi))):Box ((t_pg [pgV p,.ag [.b re,.b mi]] []).run R):=by
 obtain ⟨c0,c1,c2,c3,c4,c5,c6,c7,c8,c9,c10,ec⟩:=sp.list11 hc
 have e:p=Pg.wc p [c0,c1,c2,c3,c4,c5,c6,c7,c8,c9,c10]:=by unfold Pg.wc; rw [← ec]
 have t:=page_tree p c0 c1 c2 c3 c4 c5 c6 c7 c8 c9 c10 re mi R
 rw [← e] at t
 exact Box.of_eq t ⟨⟨rfl,hf⟩,⟨rfl,rwsG_len p,by unfold flF; rw [List.length_map]; omega⟩,h⟩
attribute [local irreducible] t_pg in
theorem kPg:Known Tryz.prog GL 70 tPg:=by
 refine k_pg.less fun args regs R h=>?_
 unfold tPg at h
 split at h
 case h_2=>exact h.elim
 split at h
 case h_2=>exact h.elim
 obtain ⟨⟨h1,h2,h3⟩,h⟩:=h
 rw [h1]
 exact (pg_in h2 h3 h).out
end gr
end
section
namespace gr
open Go Go.Nx pk
open bm (ixU ixU_in)
open sto (pgV rdPg)
open ac (Pg pgZ K1)
open mac (fits)
noncomputable abbrev f_wd:=Tryz.f67
noncomputable def c_wd:FuncId→Option Con:=conOf [(115,t_rBlank)]
theorem kc_wd:∀ f T,c_wd f=some T→Known Tryz.prog GL f T:=(Knowns.cons k_rBlank .nil).get
noncomputable def X_wd:Cx:={P:=Tryz.prog,con:=c_wd,glob:=GL,m:=0,loops:=[]}
def sWd (r c:Int) (t:ByteArray) (G res:List (List Sc)) (k:Int):St:={fr:=frame 62 [(1,.v (.c (.i .i64 r))),(2,.v (.c (.i .i64 c))),(3,.v (.c (.s t))),(4,.v (.c (.p 0 0 0))),(8,.v (.c (.p 1 0 0))),(9,.v (.c (.i .i64 k)))],rg:=[some (grR G),some (grR res)]}
def dWd (G res:List (List Sc)):St:={fr:=frame 62 [(4,.v (.c (.p 0 0 0))),(8,.v (.c (.p 1 0 0)))],rg:=[some (grR G),some (grR res)]}
noncomputable def rWd (s:St):Tr RO:=roundT X_wd 0 [1,2,3,4,8,9] [4,8] (bodyLoop f_wd 0) s
noncomputable def c_rEmp:FuncId→Option Con:=conOf [(116,tRow0)]
theorem kc_rEmp:∀ f T,c_rEmp f=some T→Known Tryz.prog GL f T:=(Knowns.cons kRow0 .nil).get
noncomputable def X_rEmp:Cx:={P:=Tryz.prog,con:=c_rEmp,glob:=GL,m:=0,loops:=[]}
noncomputable def t_rEmp:Con:=fun args regs=>if regs.length=0 then nfun Tryz.prog GL c_rEmp [(0,[0,1,3],unroll X_rEmp 0 [0,1,3] [0,1] (bodyLoop Tryz.f68 0) 26)] Tryz.f68 args regs else .fail
theorem k_rEmp:Known Tryz.prog GL 68 t_rEmp:=known_loops 0 Tryz.func68 rfl (by kernel_rfl) mixed kc_rEmp (LAll.one (id:=0) (body:=bodyLoop Tryz.f68 0) (by kernel_rfl) rfl (unroll_ok (X:=X_rEmp) kc_rEmp mixed (LAll.none (by kernel_rfl)) [0,1,3] [0,1] 26))
def sIx (t:ByteArray) (k:Int) (A:Prop):Prop:=sel (decide (0≤k)) (sel (decide (k<(t.size:Int))) A False) False
theorem sIx_in {t:ByteArray} {k:Int} {A:Prop} (h:0≤k∧k<(t.size:Int)) (hA:A):sIx t k A:=sT (decide_eq_true h.1) (sT (decide_eq_true h.2) hA)
def ltC (b:Int):List Sc:=[.i (w64 b),.i 7,.i 0,.b false,.b false,.b false,.b false,.b false,.i 0,.i 0]
def stW (r c:Int) (t:ByteArray) (G res:List (List Sc)) (k:Int) (R:RO→Prop) (x:List Sc):Prop:=stG r (w64 (c+k)) (R (.next (sWd r c t (spl G (r.toNat * 40+(w64 (c+k)).toNat) 1 [x]) res (w64 (k+1)))))
theorem wd_tree (r c:Int) (t:ByteArray) (G res:List (List Sc)) (k:Int) (R:RO→Prop):(rWd (sWd r c t G res k)).run R =
 sel (decide (k<(t.size:Int))) (sel (decide (w64 (c+k)<40)) (sIx t k (sel (decide (byteAt t k.toNat ≥ 32)) (sIx t k (sel (decide (byteAt t k.toNat≤126)) (sIx t k (stW r c t G res k R (ltC (byteAt t k.toNat)))) (stW r c t G res k R blC))) (stW r c t G res k R blC)))
  (R (.done .normal (dWd G res)))) (R (.done .normal (dWd G res))):=by kernel_rfl
def wdC (b:Int):List Sc:=bif decide (b ≥ 32)&&decide (b≤126) then ltC b else blC
def wdV (r c:Nat) (t:ByteArray):Nat→Nat→List (List Sc)→List (List Sc)
 | 0,_,G=>G
 | n+1,k,G=>wdV r c t n (k+1) (G.set (r * 40+(c+k)) (wdC (byteAt t k)))
structure AWd where
 r:Nat
 c:Nat
 t:ByteArray
 G:List (List Sc)
 res:List (List Sc)
 k:Nat
def hWd (x:AWd):St:=sWd (x.r:Int) (x.c:Int) x.t x.G x.res (x.k:Int)
def wdN (c:Nat) (t:ByteArray):Nat:=min t.size (40 - c)
def preWd (x:AWd) (R:NExit × St→Prop):Prop:=(x.r<25∧x.c<40∧x.t.size≤1000000∧x.k≤wdN x.c x.t)∧R (.normal,dWd (wdV x.r x.c x.t (wdN x.c x.t - x.k) x.k x.G) x.res)
def nxtWd (x:AWd) (R:NExit × St→Prop) (q:RO):Prop:=match q with
 | .next s=>∃ y,s=hWd y∧wdN y.c y.t - y.k<wdN x.c x.t - x.k∧preWd y R
 | .done e s=>R (e,s)
theorem wd_in (x:AWd) (R:NExit × St→Prop) (h:preWd x R):Box ((rWd (hWd x)).run (nxtWd x R)):=by
 obtain ⟨r,c,t,G,res,k⟩:=x
 obtain ⟨⟨hr,hc,ht,hk⟩,hR⟩:=h
 simp only at hr hc ht hk hR
 have hN:wdN c t≤t.size∧wdN c t≤40 - c∧(wdN c t=t.size∨wdN c t=40 - c):=by unfold wdN; omega
 have hw:w64 ((k:Int)+1)=((k+1:Nat):Int):=by show IntKind.i64.wrap _=_; rw [IntKind.wrap_i64]; omega
 have hw2:w64 ((c:Int)+(k:Int))=((c+k:Nat):Int):=by show IntKind.i64.wrap _=_; rw [IntKind.wrap_i64]; omega
 have ek:((k:Nat):Int).toNat=k:=by simp
 have er:((r:Nat):Int).toNat=r:=by simp
 have ec:((c+k:Nat):Int).toNat=c+k:=by omega
 refine Box.of_eq (wd_tree (r:Int) (c:Int) t G res (k:Int) _) ?_
 by_cases hlt:k<wdN c t
 ·obtain ⟨n,hn⟩:∃ n,wdN c t - k=n+1:=⟨wdN c t - k - 1,by omega⟩
  have hn' : wdN c t - (k+1)=n:=by omega
  rw [hn] at hR
  have hR:R (.normal,dWd (wdV r c t n (k+1) (G.set (r * 40+(c+k)) (wdC (byteAt t k)))) res):=hR
  have st:∀ y,y=wdC (byteAt t k)→stW (r:Int) (c:Int) t G res (k:Int) (nxtWd ⟨r,c,t,G,res,k⟩ R) y:=by
   intro y hy
   unfold stW
   rw [hw2]
   refine stG_in ⟨by omega,by omega⟩ ⟨by omega,by omega⟩ ?_
   rw [er,ec,hw,hy]
   refine ⟨⟨r,c,t,G.set (r * 40+(c+k)) (wdC (byteAt t k)),res,k+1⟩,rfl,by simp only; omega,⟨hr,hc,ht,by simp only; omega⟩,?_⟩
   simp only [hn']
   exact hR
  have hb:0≤(k:Int)∧(k:Int)<(t.size:Int):=⟨by omega,by omega⟩
  refine sT (decide_eq_true hb.2) (sT (decide_eq_true (by rw [hw2]; omega)) (sIx_in hb ?_))
  rw [ek]
  unfold wdC at st
  cases h32:decide (byteAt t k ≥ 32) with
  | true=>
    rw [h32,Bool.true_and] at st
    refine sT rfl (sIx_in hb ?_)
    cases h126:decide (byteAt t k≤126) with
    | true=>rw [h126] at st; exact sT rfl (sIx_in hb (st _ rfl))
    | false=>rw [h126] at st; exact sF rfl (st _ rfl)
  | false=>rw [h32,Bool.false_and] at st; exact sF rfl (st _ rfl)
 ·have e:wdN c t - k=0:=by omega
  rw [e] at hR
  have hR:R (.normal,dWd G res):=hR
  by_cases hs:k<t.size
  ·exact sT (decide_eq_true (by omega)) (sF (decide_eq_false (by rw [hw2]; omega)) hR)
  ·exact sF (decide_eq_false (by omega)) hR
def lWd (s:St):Tr (NExit × St):=match s.fr[(1:Nat)]?,s.fr[(2:Nat)]?,s.fr[(3:Nat)]?,s.rg with
 | some (.v (.c (.i _ r))),some (.v (.c (.i _ c))),some (.v (.c (.s t))),[some ⟨_,_,.sg [.recs _ _ G]⟩,some ⟨_,_,.sg [.recs _ _ res]⟩]=>.must (s=sWd r c t G res 0∧(0≤r∧r<25)∧(0≤c∧c<40)∧t.size≤1000000) (.ret (.normal,dWd (wdV r.toNat c.toNat t (wdN c.toNat t) 0 G) res))
 | _,_,_,_=>.fail
theorem loop_wd:LOk Tryz.prog GL 0 0 (bodyLoop f_wd 0) lWd:=by
 refine loop_ok (X:=X_wd) kc_wd mixed (LAll.none (by kernel_rfl)) [1,2,3,4,8,9] [4,8] hWd (fun x=>wdN x.c x.t - x.k) preWd ?_ ?_
 ·intro s R h
  unfold lWd at h
  split at h
  case h_2=>exact h.elim
  rename_i _ r _ c t _ _ _ _ G _ _ _ _ res h1 h2 h3 h4
  obtain ⟨⟨hs,hr,hc,ht⟩,hR⟩:=h
  obtain ⟨r',rfl⟩:∃ n:Nat,r=(n:Int):=⟨r.toNat,by omega⟩
  obtain ⟨c',rfl⟩:∃ n:Nat,c=(n:Int):=⟨c.toNat,by omega⟩
  have e1:((r' : Nat):Int).toNat=r':=by simp
  have e2:((c' : Nat):Int).toNat=c':=by simp
  rw [e1,e2] at hR
  exact ⟨⟨r',c',t,G,res,0⟩,hs,⟨by simp only; omega,by simp only; omega,ht,Nat.zero_le _⟩,hR⟩
 ·intro x R h
  exact Tr.run_mono _ (fun q hq=>hq) (wd_in x R h).out
noncomputable def t_wd:Con:=fun args regs=>if regs.length=0 then nfun Tryz.prog GL c_wd [(0,[1,2,3,4,8,9],lWd)] f_wd args regs else .fail
theorem k_wd:Known Tryz.prog GL 67 t_wd:=known_loops 0 Tryz.func67 rfl (by kernel_rfl) mixed kc_wd (LAll.one (id:=0) (body:=bodyLoop f_wd 0) (by kernel_rfl) rfl loop_wd)
def wordsV (G:List (List Sc)) (r c:Int) (t:ByteArray):List (List Sc):=wdV r.toNat c.toNat t (wdN c.toNat t) 0 G
theorem words_tree (G:List (List Sc)) (r c:Int) (t:ByteArray) (R:Out→Prop):(t_wd [.sg [.recs KC 1000 G],.c (.i .i64 r),.c (.i .i64 c),.c (.s t)] []).run R =
 sel (decide (r<0)) (R (oGr G)) (sel (decide (r ≥ 25)) (R (oGr G)) (sel (decide (c<0)) (R (oGr G)) (sel (decide (c ≥ 40)) (R (oGr G)) ((sWd r c t G (List.replicate 1000 zc) 0=sWd r c t G (List.replicate 1000 zc) 0∧(0≤r∧r<25)∧(0≤c∧c<40)∧t.size≤1000000)∧R (oGr (wordsV G r c t)))))):=by kernel_rfl
noncomputable def tWds:Con:=fun args regs=>match args,regs with
 | [.sg [.recs _ _ G],.c (.i _ r),.c (.i _ c),.c (.s t)],[]=>.must (args=[.sg [.recs KC 1000 G],.c (.i .i64 r),.c (.i .i64 c),.c (.s t)]∧(0≤r∧r<25)∧(0≤c∧c<40)∧t.size≤1000000) (.ret (oGr (wordsV G r c t)))
 | _,_=>.fail
attribute [local irreducible] t_wd in
theorem kWds:Known Tryz.prog GL 67 tWds:=by
 refine k_wd.less fun args regs R h=>?_
 unfold tWds at h
 split at h
 case h_2=>exact h.elim
 obtain ⟨⟨h1,hr,hc,ht⟩,h⟩:=h
 rw [h1]
 exact (Box.of_eq (words_tree _ _ _ _ R) (sF (decide_eq_false (by omega)) (sF (decide_eq_false (by omega)) (sF (decide_eq_false (by omega)) (sF (decide_eq_false (by omega)) ⟨⟨rfl,hr,hc,ht⟩,h⟩))))).out
theorem emp_tree (R:Out→Prop):(t_rEmp [] []).run R=R (oGr (List.replicate 1000 blC)):=by kernel_rfl
noncomputable def tEmp:Con:=fun args regs=>match args,regs with
 | [],[]=>.ret (oGr (List.replicate 1000 blC))
 | _,_=>.fail
theorem kEmp:Known Tryz.prog GL 68 tEmp:=by
 refine k_rEmp.less fun args regs R h=>?_
 unfold tEmp at h
 split at h
 case h_2=>exact h.elim
 exact (Box.of_eq (emp_tree R) h).out
end gr
end
section
namespace gr
open Go Go.Nx pk
open bm (ixU ixU_in)
open pge (tOd kOd)
noncomputable abbrev f_tx:=Tryz.f117
noncomputable def c_tx:FuncId→Option Con:=conOf [(146,tOd)]
theorem kc_tx:∀ f T,c_tx f=some T→Known Tryz.prog GL f T:=(Knowns.cons kOd .nil).get
noncomputable def X_tx:Cx:={P:=Tryz.prog,con:=c_tx,glob:=GL,m:=0,loops:=[]}
def byR (xs:List Int):Reg:=⟨1,5,.ints .u8 xs⟩
def boR (xs:List (List Sc)):Reg:=⟨1,4,.recs [.b] xs⟩
def sl1:Option (List Int × List (List Sc) × Nat)→NC × NC × List (Option Reg)
 | none=>(.sn,.sn,[])
 | some (xs,ys,q)=>(.h 0 0 q,.h 1 0 q,[some (byR xs),some (boR ys)])
def sTx (b:List Int) (S:Option (List Int × List (List Sc) × Nat)) (n i:Int):St:={fr:=frame 27 [(4,.v (.c (sl1 S).1)),(5,.v (.c (sl1 S).2.1)),(8,.v (.c (.l .u8 b))),(9,.v (.c (.i .i64 n))),(10,.v (.c (.i .i64 i)))],rg:=(sl1 S).2.2}
def dTx (S:Option (List Int × List (List Sc) × Nat)):St:={fr:=frame 27 [(4,.v (.c (sl1 S).1)),(5,.v (.c (sl1 S).2.1))],rg:=(sl1 S).2.2}
noncomputable def rTx (s:St):Tr RO:=roundT X_tx 0 [4,5,8,9,10] [4,5] (bodyLoop f_tx 0) s
def odA (x:Int) (A:Prop):Prop:=([NV.c (.i .u8 x)]=[NV.c (.i .u8 x)]∧0≤x∧x<256)∧A
def ap8 (m n:Nat) (N:Prop):Prop:=sel (decide (0+m≤n)) (sel (decide ((m+1) * bytesT Tryz.prog 5≤140737488355328)) (sel (decide (m+1≤9223372036854775807)) N False) False) False
def apO (m n:Nat) (N:Prop):Prop:=sel (decide (0+m≤n)) (sel (decide ((m+1) * bytesT Tryz.prog 4≤140737488355328)) (sel (decide (m+1≤9223372036854775807)) N False) False) False
def odR (x:Int):List Sc:=[.b (pge.isOd x)]
def nxTx (b:List Int) (n i:Int) (R:RO→Prop) (S:Option (List Int × List (List Sc) × Nat)):Prop:=R (.next (sTx b S n (w64 (i+1))))
theorem tx_none (b:List Int) (n i:Int) (R:RO→Prop):(rTx (sTx b none n i)).run R=sel (decide (i<n)) (ixU i b.length (odA (b.getD i.toNat 0) (nxTx b n i R (some ([b7 (b.getD i.toNat 0)],[odR (b.getD i.toNat 0)],1))))) (R (.done .normal (dTx none))):=by kernel_rfl
theorem tx_some (b xs:List Int) (ys:List (List Sc)) (q:Nat) (n i:Int) (R:RO→Prop):(rTx (sTx b (some (xs,ys,q)) n i)).run R=sel (decide (i<n)) (ixU i b.length (ap8 q xs.length (odA (b.getD i.toNat 0) (apO q ys.length (nxTx b n i R (some (List.take q xs++[b7 (b.getD i.toNat 0)],List.take q ys++[odR (b.getD i.toNat 0)],q+1))))))) (R (.done .normal (dTx (some (xs,ys,q))))):=by kernel_rfl
theorem bytes8:bytesT Tryz.prog 5=1:=by kernel_rfl
theorem bytesO:bytesT Tryz.prog 4=1:=by kernel_rfl
theorem ap8_in {m:Nat} {N:Prop} (h:m≤1000000) (hN:N):ap8 m m N:=by
 unfold ap8
 rw [bytes8]
 exact sT (decide_eq_true (by omega)) (sT (decide_eq_true (by omega)) (sT (decide_eq_true (by omega)) hN))
theorem apO_in {m:Nat} {N:Prop} (h:m≤1000000) (hN:N):apO m m N:=by
 unfold apO
 rw [bytesO]
 exact sT (decide_eq_true (by omega)) (sT (decide_eq_true (by omega)) (sT (decide_eq_true (by omega)) hN))
def txO (b:List Int):Nat→Option (List Int × List (List Sc) × Nat)
 | 0=>none
 | k+1=>some ((b.take (k+1)).map b7,(b.take (k+1)).map odR,k+1)
structure ATx where
 b:List Int
 i:Nat
def hTx (x:ATx):St:=sTx x.b (txO x.b x.i) (x.b.length:Int) (x.i:Int)
def preTx (x:ATx) (R:NExit × St→Prop):Prop:=(x.i≤x.b.length∧x.b.length≤1000000∧∀ y∈x.b,0≤y∧y<256)∧R (.normal,dTx (txO x.b x.b.length))
def nxtTx (x:ATx) (R:NExit × St→Prop) (q:RO):Prop:=match q with
 | .next s=>∃ y,s=hTx y∧y.b.length - y.i<x.b.length - x.i∧preTx y R
 | .done e s=>R (e,s)
theorem tx_in (x:ATx) (R:NExit × St→Prop) (h:preTx x R):Box ((rTx (hTx x)).run (nxtTx x R)):=by
 obtain ⟨b,i⟩:=x
 obtain ⟨⟨h1,h2,h3⟩,hR⟩:=h
 simp only at h1 h2 h3 hR
 have hw:w64 ((i:Int)+1)=((i+1:Nat):Int):=by show IntKind.i64.wrap _=_; rw [IntKind.wrap_i64]; omega
 have ek:((i:Nat):Int).toNat=i:=by simp
 by_cases hk:i<b.length
 ·have eg:b.getD i 0=b[i]:=by rw [List.getD_eq_getElem?_getD,List.getElem?_eq_getElem hk]; rfl
  have hb:=h3 _ (List.getElem_mem hk)
  have et:b.take (i+1)=b.take i++[b[i]]:=by rw [List.take_add_one,List.getElem?_eq_getElem hk]; rfl
  have nx:nxTx b (b.length:Int) (i:Int) (nxtTx ⟨b,i⟩ R) (txO b (i+1)):=by
   unfold nxTx
   rw [hw]
   exact ⟨⟨b,i+1⟩,rfl,by simp only; omega,⟨by simp only; omega,h2,h3⟩,hR⟩
  cases i with
  | zero=>
    refine Box.of_eq (tx_none b (b.length:Int) 0 _) (sT (decide_eq_true (by omega)) (ixU_in ⟨by omega,by omega⟩ ?_))
    have e0:(0:Int).toNat=0:=rfl
    rw [e0,eg]
    refine ⟨⟨rfl,hb⟩,?_⟩
    have e1:txO b (0+1)=some ([b7 b[0]],[odR b[0]],1):=by
     show some ((b.take 1).map b7,(b.take 1).map odR,1)=_
     have:b.take 1=[b[0]]:=by rw [et]; rfl
     rw [this]
     rfl
    rw [e1] at nx
    exact nx
  | succ i=>
    have hl:(b.take (i+1)).length=i+1:=by rw [List.length_take]; omega
    have l1:((b.take (i+1)).map b7).length=i+1:=by rw [List.length_map,hl]
    have l2:((b.take (i+1)).map odR).length=i+1:=by rw [List.length_map,hl]
    refine Box.of_eq (tx_some b ((b.take (i+1)).map b7) ((b.take (i+1)).map odR) (i+1) (b.length:Int) ((i+1:Nat):Int) _) (sT (decide_eq_true (by omega)) (ixU_in ⟨by omega,by omega⟩ ?_))
    have t1:List.take (i+1) ((b.take (i+1)).map b7)=(b.take (i+1)).map b7:=List.take_of_length_le (by omega)
    have t2:List.take (i+1) ((b.take (i+1)).map odR)=(b.take (i+1)).map odR:=List.take_of_length_le (by omega)
    rw [ek,eg,l1,l2,t1,t2]
    refine ap8_in (by omega) ⟨⟨rfl,hb⟩,apO_in (by omega) ?_⟩
    have e1:txO b (i+1+1)=some ((b.take (i+1)).map b7++[b7 b[i+1]],(b.take (i+1)).map odR++[odR b[i+1]],i+1+1):=by
     show some ((b.take (i+1+1)).map b7,(b.take (i+1+1)).map odR,i+1+1)=_
     rw [et,List.map_append,List.map_append]
     rfl
    rw [e1] at nx
    exact nx
 ·have e:b.length=i:=by omega
  cases i with
  | zero=>
    rw [e] at hR
    exact Box.of_eq (tx_none b (b.length:Int) 0 _) (sF (decide_eq_false (by omega)) hR)
  | succ n=>
    rw [e] at hR
    exact Box.of_eq (tx_some b ((b.take (n+1)).map b7) ((b.take (n+1)).map odR) (n+1) (b.length:Int) ((n+1:Nat):Int) _) (sF (decide_eq_false (by omega)) hR)
def lTx (s:St):Tr (NExit × St):=match s.fr[(8:Nat)]? with
 | some (.v (.c (.l _ b)))=>.must (s=sTx b none (b.length:Int) 0∧b.length≤1000000∧∀ y∈b,0≤y∧y<256) (.br b.isEmpty (.ret (.normal,dTx none)) (.ret (.normal,dTx (some (b.map b7,b.map odR,b.length)))))
 | _=>.fail
theorem loop_tx:LOk Tryz.prog GL 0 0 (bodyLoop f_tx 0) lTx:=by
 refine loop_ok (X:=X_tx) kc_tx mixed (LAll.none (by kernel_rfl)) [4,5,8,9,10] [4,5] hTx (fun x=>x.b.length - x.i) preTx ?_ ?_
 ·intro s R h
  unfold lTx at h
  split at h
  case h_2=>exact h.elim
  rename_i b hx
  obtain ⟨⟨hs,hl,hb⟩,hR⟩:=h
  refine ⟨⟨b,0⟩,hs,⟨Nat.zero_le _,hl,hb⟩,?_⟩
  have hR:sel b.isEmpty (R (.normal,dTx none)) (R (.normal,dTx (some (b.map b7,b.map odR,b.length)))):=hR
  cases b with
  | nil=>exact hR
  | cons y b=>
    show R (.normal,dTx (some (((y::b).take (b.length+1)).map b7,((y::b).take (b.length+1)).map odR,b.length+1)))
    rw [List.take_of_length_le (by simp)]
    exact hR
 ·intro x R h
  exact Tr.run_mono _ (fun q hq=>hq) (tx_in x R h).out
noncomputable def t_tx:Con:=fun args regs=>if regs.length=0 then nfun Tryz.prog GL c_tx [(0,[4,5,8,9,10],lTx)] f_tx args regs else .fail
theorem k_tx:Known Tryz.prog GL 117 t_tx:=known_loops 0 Tryz.func117 rfl (by kernel_rfl) mixed kc_tx (LAll.one (id:=0) (body:=bodyLoop f_tx 0) (by kernel_rfl) rfl loop_tx)
def oTx0:Out:=⟨.tu [.c .sn,.c .sn],[]⟩
def oTx1 (b:List Int):Out:=⟨.tu [.c (.h 0 0 b.length),.c (.h 1 0 b.length)],[some (byR (b.map b7)),some (boR (b.map odR))]⟩
theorem text_tree (b:List Int) (R:Out→Prop):(t_tx [.c (.l .u8 b)] []).run R=((sTx b none (b.length:Int) 0=sTx b none (b.length:Int) 0∧b.length≤1000000∧∀ y∈b,0≤y∧y<256)∧sel b.isEmpty (R oTx0) (R (oTx1 b))):=by kernel_rfl
noncomputable def tTx:Con:=fun args regs=>match args,regs with
 | [.c (.l _ b)],[]=>.must (args=[.c (.l .u8 b)]∧b.length≤1000000∧∀ y∈b,0≤y∧y<256) (.br b.isEmpty (.ret oTx0) (.ret (oTx1 b)))
 | _,_=>.fail
attribute [local irreducible] t_tx in
theorem kTx:Known Tryz.prog GL 117 tTx:=by
 refine k_tx.less fun args regs R h=>?_
 unfold tTx at h
 split at h
 case h_2=>exact h.elim
 obtain ⟨⟨h1,h2,h3⟩,h⟩:=h
 rw [h1]
 exact (Box.of_eq (text_tree _ R) ⟨⟨rfl,h2,h3⟩,h⟩).out
noncomputable abbrev f_tt:=Tryz.f69
noncomputable def c_tt:FuncId→Option Con:=conOf [(117,tTx)]
theorem kc_tt:∀ f T,c_tt f=some T→Known Tryz.prog GL f T:=(Knowns.cons kTx .nil).get
noncomputable def X_tt:Cx:={P:=Tryz.prog,con:=c_tt,glob:=GL,m:=0,loops:=[]}
def sTt (xs:List Int) (ys:List (List Sc)) (m:Nat) (n i:Int):St:={fr:=frame 34 [(3,.v (.c (.h 0 0 m))),(4,.v (.c (.h 1 0 m))),(12,.v (.c (.i .i64 n))),(13,.v (.c (.i .i64 i)))],rg:=[some (byR xs),some (boR ys)]}
def dTt (xs:List Int) (m:Nat):St:={fr:=frame 34 [(3,.v (.c (.h 0 0 m)))],rg:=[some (byR xs)]}
noncomputable def rTt (s:St):Tr RO:=roundT X_tt 0 [3,4,12,13] [3] (bodyLoop f_tt 0) s
def ixH (i:Int) (m l:Nat) (A:Prop):Prop:=sel (decide (0≤i)) (sel (decide (i<(m:Int))) (sel (decide (0+i.toNat<l)) A False) False) False
theorem ixH_in {i:Int} {m l:Nat} {A:Prop} (h:0≤i∧i<(m:Int)) (hl:m=l) (hA:A):ixH i m l A:=sT (decide_eq_true h.1) (sT (decide_eq_true h.2) (sT (decide_eq_true (by omega)) hA))
def nxTt (ys:List (List Sc)) (m:Nat) (n i:Int) (R:RO→Prop) (xs:List Int):Prop:=R (.next (sTt xs ys m n (w64 (i+1))))
theorem tt_tree (xs:List Int) (ys:List (List Sc)) (m:Nat) (n i:Int) (R:RO→Prop):(rTt (sTt xs ys m n i)).run R =
 sel (decide (i<n)) (ixH i m ys.length (sel (!xB (ys.getD (0+i.toNat) []) 0) (ixH i m xs.length (nxTt ys m n i R (setI xs (0+i.toNat) 32 0)))
  (ixH i m xs.length (sel (decide (xs.getD (0+i.toNat) 0<32)) (ixH i m xs.length (nxTt ys m n i R (setI xs (0+i.toNat) 32 0))) (nxTt ys m n i R xs))))) (R (.done .normal (dTt xs m))):=by kernel_rfl
def sT0 (n i:Int):St:={fr:=frame 34 [(3,.v (.c .sn)),(4,.v (.c .sn)),(12,.v (.c (.i .i64 n))),(13,.v (.c (.i .i64 i)))],rg:=[]}
def dT0:St:={fr:=frame 34 [(3,.v (.c .sn))],rg:=[]}
theorem tt_nil (R:RO→Prop):(rTt (sT0 0 0)).run R=R (.done .normal dT0):=by kernel_rfl
def zC (x:Int) (y:List Sc):Int:=bif !xB y 0 then 32 else bif decide (x<32) then 32 else x
def zw (xs:List Int) (ys:List (List Sc)):List Int:=List.zipWith zC xs ys
theorem zw_len {xs:List Int} {ys:List (List Sc)} (h:ys.length=xs.length):(zw xs ys).length=xs.length:=by
 unfold zw
 rw [List.length_zipWith]
 omega
def xsI (xs:List Int) (ys:List (List Sc)) (i:Nat):List Int:=(zw xs ys).take i++xs.drop i
section
variable {xs:List Int} {ys:List (List Sc)} {i:Nat} (hl:ys.length=xs.length) (h:i<xs.length)
include hl
theorem xsI_len (hi:i≤xs.length):(xsI xs ys i).length=xs.length:=by
 unfold xsI
 rw [List.length_append,List.length_take,List.length_drop,zw_len hl]
 omega
include h
theorem zw_take:((zw xs ys).take i).length=i:=by rw [List.length_take,zw_len hl]; omega
theorem xsI_get:(xsI xs ys i).getD i 0=xs.getD i 0:=by
 unfold xsI
 rw [List.getD_eq_getElem?_getD,List.getD_eq_getElem?_getD,List.getElem?_append_right (by rw [zw_take hl h]; omega),zw_take hl h,Nat.sub_self,List.getElem?_drop]
 rfl
theorem xsI_next:xsI xs ys (i+1)=(zw xs ys).take i++zC (xs.getD i 0) (ys.getD i [])::xs.drop (i+1):=by
 have hz:i<(zw xs ys).length:=by rw [zw_len hl]; exact h
 have hy:i<ys.length:=by omega
 have e:(zw xs ys)[i]=zC (xs.getD i 0) (ys.getD i []):=by
  rw [List.getD_eq_getElem?_getD,List.getD_eq_getElem?_getD,List.getElem?_eq_getElem h,List.getElem?_eq_getElem hy]
  exact List.getElem_zipWith
 unfold xsI
 rw [List.take_add_one,List.getElem?_eq_getElem hz,e,List.append_assoc]
 rfl
omit hl in
theorem xsI_at:xsI xs ys i=(zw xs ys).take i++xs.getD i 0::xs.drop (i+1):=by
 unfold xsI
 rw [List.drop_eq_getElem_cons h,List.getD_eq_getElem?_getD,List.getElem?_eq_getElem h]
 rfl
theorem xsI_set {v:Int} (hv:v=zC (xs.getD i 0) (ys.getD i [])):setI (xsI xs ys i) (0+i) v 0=xsI xs ys (i+1):=by
 rw [setI_set,Nat.zero_add,xsI_at h,xsI_next hl h,List.set_append_right _ _ (by rw [zw_take hl h]; omega),zw_take hl h,Nat.sub_self,List.set_cons_zero,hv]
end
structure ATt where
 xs:List Int
 ys:List (List Sc)
 i:Nat
def hTt (x:ATt):St:=sTt (xsI x.xs x.ys x.i) x.ys x.xs.length (x.xs.length:Int) (x.i:Int)
def preTt (x:ATt) (R:NExit × St→Prop):Prop:=(x.i≤x.xs.length∧x.xs.length≤1000000∧x.ys.length=x.xs.length)∧R (.normal,dTt (zw x.xs x.ys) x.xs.length)
def nxtTt (x:ATt) (R:NExit × St→Prop) (q:RO):Prop:=match q with
 | .next s=>∃ y,s=hTt y∧y.xs.length - y.i<x.xs.length - x.i∧preTt y R
 | .done e s=>R (e,s)
theorem tt_in (x:ATt) (R:NExit × St→Prop) (h:preTt x R):Box ((rTt (hTt x)).run (nxtTt x R)):=by
 obtain ⟨xs,ys,i⟩:=x
 obtain ⟨⟨h1,h2,hl⟩,hR⟩:=h
 simp only at h1 h2 hl hR
 have hw:w64 ((i:Int)+1)=((i+1:Nat):Int):=by show IntKind.i64.wrap _=_; rw [IntKind.wrap_i64]; omega
 have ek:((i:Nat):Int).toNat=i:=by simp
 refine Box.of_eq (tt_tree (xsI xs ys i) ys xs.length (xs.length:Int) (i:Int) _) ?_
 by_cases hk:i<xs.length
 ·have nx:nxTt ys xs.length (xs.length:Int) (i:Int) (nxtTt ⟨xs,ys,i⟩ R) (xsI xs ys (i+1)):=by
   unfold nxTt
   rw [hw]
   exact ⟨⟨xs,ys,i+1⟩,rfl,by simp only; omega,⟨by simp only; omega,h2,hl⟩,hR⟩
  have hi:0≤(i:Int)∧(i:Int)<(xs.length:Int):=⟨by omega,by omega⟩
  have l2:xs.length=(xsI xs ys i).length:=(xsI_len hl h1).symm
  refine sT (decide_eq_true hi.2) (ixH_in hi hl.symm ?_)
  rw [ek]
  have tc:∀ v,v=zC (xs.getD i 0) (ys.getD i [])→nxTt ys xs.length (xs.length:Int) (i:Int) (nxtTt ⟨xs,ys,i⟩ R) (setI (xsI xs ys i) (0+i) v 0):=fun v hv=>by
   rw [xsI_set hl hk hv]
   exact nx
  rw [Nat.zero_add] at tc ⊢
  rw [xsI_get hl hk]
  unfold zC at tc
  cases ho:xB (ys.getD i []) 0 with
  | false=>rw [ho] at tc; exact sT rfl (ixH_in hi l2 (tc _ rfl))
  | true=>
    rw [ho] at tc
    refine sF rfl (ixH_in hi l2 ?_)
    cases hc:decide (xs.getD i 0<32) with
    | true=>rw [hc] at tc; exact sT rfl (ixH_in hi l2 (tc _ rfl))
    | false=>
      refine sF rfl ?_
      have e:xsI xs ys i=xsI xs ys (i+1):=by
       rw [xsI_at hk,xsI_next hl hk]
       unfold zC
       rw [ho,hc]
       rfl
      rw [e]
      exact nx
 ·have e:i=xs.length:=by omega
  subst e
  have ex:xsI xs ys xs.length=zw xs ys:=by
   unfold xsI
   rw [List.drop_length,List.append_nil,List.take_of_length_le (by rw [zw_len hl]; omega)]
  rw [ex]
  exact sF (decide_eq_false (by omega)) hR
def hTo:Option ATt→St
 | none=>sT0 0 0
 | some x=>hTt x
def preTo (x:Option ATt) (R:NExit × St→Prop):Prop:=match x with
 | none=>R (.normal,dT0)
 | some x=>preTt x R
def muTo:Option ATt→Nat
 | none=>0
 | some x=>x.xs.length - x.i
def lTt (s:St):Tr (NExit × St):=match s.rg with
 | [some ⟨_,_,.ints _ xs⟩,some ⟨_,_,.recs _ ys⟩]=>.must (s=sTt xs ys xs.length (xs.length:Int) 0∧ys.length=xs.length∧xs.length≤1000000) (.ret (.normal,dTt (zw xs ys) xs.length))
 | _=>.must (s=sT0 0 0) (.ret (.normal,dT0))
theorem loop_tt:LOk Tryz.prog GL 0 0 (bodyLoop f_tt 0) lTt:=by
 refine loop_ok (X:=X_tt) kc_tt mixed (LAll.none (by kernel_rfl)) [3,4,12,13] [3] hTo muTo preTo ?_ ?_
 ·intro s R h
  unfold lTt at h
  split at h
  case h_1=>
   rename_i _ _ _ xs _ _ _ ys hx
   obtain ⟨⟨hs,hl,h6⟩,hR⟩:=h
   exact ⟨some ⟨xs,ys,0⟩,hs,⟨Nat.zero_le _,h6,hl⟩,hR⟩
  case h_2=>
   obtain ⟨hs,hR⟩:=h
   exact ⟨none,hs,hR⟩
 ·intro x R h
  cases x with
  | none=>
    refine Tr.run_mono _ (fun q hq=>?_) ((Box.of_eq (tt_nil (fun q=>match q with | .next _=>False | .done e s=>R (e,s))) h).out)
    cases q with
    | next s=>exact hq.elim
    | done e s=>exact hq
  | some x=>
    refine Tr.run_mono _ (fun q hq=>?_) (tt_in x R h).out
    cases q with
    | next s=>
      obtain ⟨y,hy,hm,hp⟩:=hq
      exact ⟨some y,hy,hm,hp⟩
    | done e s=>exact hq
noncomputable def t_tt:Con:=fun args regs=>if regs.length=0 then nfun Tryz.prog GL c_tt [(0,[3,4,12,13],lTt)] f_tt args regs else .fail
theorem k_tt:Known Tryz.prog GL 69 t_tt:=known_loops 0 Tryz.func69 rfl (by kernel_rfl) mixed kc_tt (LAll.one (id:=0) (body:=bodyLoop f_tt 0) (by kernel_rfl) rfl loop_tt)
def oSt (t:ByteArray):Out:=⟨.v (.c (.s t)),[]⟩
def txV (b:List Int):ByteArray:=strOfNums (zw (b.map b7) (b.map odR))
def endT (b:List Int) (R:Out→Prop):Prop:=(sTt (b.map b7) (b.map odR) b.length (b.length:Int) 0=sTt (b.map b7) (b.map odR) (b.map b7).length ((b.map b7).length:Int) 0∧(b.map odR).length=(b.map b7).length∧(b.map b7).length≤1000000)∧sel (decide (0+(b.map b7).length≤(zw (b.map b7) (b.map odR)).length)) (R (oSt (strOfNums (List.take (b.map b7).length (List.drop 0 (zw (b.map b7) (b.map odR))))))) False
theorem ttx_tree (b:List Int) (R:Out→Prop):(t_tt [.c (.l .u8 b)] []).run R=(([NV.c (.l .u8 b)]=[NV.c (.l .u8 b)]∧b.length≤1000000∧∀ y∈b,0≤y∧y<256)∧sel b.isEmpty (sT0 0 0=sT0 0 0∧R (oSt ByteArray.empty)) (endT b R)):=by kernel_rfl
noncomputable def tTtx:Con:=fun args regs=>match args,regs with
 | [.c (.l _ b)],[]=>.must (args=[.c (.l .u8 b)]∧b.length≤1000000∧∀ y∈b,0≤y∧y<256) (.ret (oSt (txV b)))
 | _,_=>.fail
attribute [local irreducible] t_tt in
theorem kTtx:Known Tryz.prog GL 69 tTtx:=by
 refine k_tt.less fun args regs R h=>?_
 unfold tTtx at h
 split at h
 case h_2=>exact h.elim
 rename_i _ b
 obtain ⟨⟨h1,h2,h3⟩,h⟩:=h
 rw [h1]
 have h:R (oSt (txV b)):=h
 refine (Box.of_eq (ttx_tree b R) ⟨⟨rfl,h2,h3⟩,?_⟩).out
 have hl:(b.map odR).length=(b.map b7).length:=by rw [List.length_map,List.length_map]
 cases hb:b.isEmpty with
 | true=>
   rw [List.isEmpty_iff.1 hb] at h
   exact sT rfl ⟨rfl,h⟩
 | false=>
   refine sF rfl ⟨⟨?_,hl,by rw [List.length_map]; omega⟩,sT (decide_eq_true (by rw [zw_len hl]; omega)) ?_⟩
   ·rw [List.length_map]
   ·rw [List.drop_zero,List.take_of_length_le (by rw [zw_len hl]; omega)]
    exact h
theorem txV_size (b:List Int):(txV b).size=b.length:=by
 have hl:(b.map odR).length=(b.map b7).length:=by rw [List.length_map,List.length_map]
 have e:(strOfNums (zw (b.map b7) (b.map odR))).size=(zw (b.map b7) (b.map odR)).length:=by
  unfold strOfNums
  show (List.toArray _).size=_
  simp
 unfold txV
 rw [e,zw_len hl,List.length_map]
end gr
end
section
namespace ho
open sto (sT sF Ky Sp kyP kyNC)
open ac (Pg pgZ)
open Go Go.Nx pk mac bm rv
open gr (byR ap8 ap8_in w64)
noncomputable abbrev f_let:=Tryz.f28
noncomputable def X_let:Cx:={P:=Tryz.prog,con:=fun _=>Option.none,glob:=GL,m:=0,loops:=[]}
def slL:Option (List Int × Nat)→NC × List (Option Reg)
 | none=>(.sn,[])
 | some (xs,q)=>(.h 0 0 q,[some (byR xs)])
def sLt (b:List Int) (S:Option (List Int × Nat)) (i:Int):St:={fr:=frame 21 [(0,.v (.c (.l .u8 b))),(3,.v (.c (slL S).1)),(4,.v (.c (.i .i64 i)))],rg:=(slL S).2}
def dLt (S:Option (List Int × Nat)):St:={fr:=frame 21 [(3,.v (.c (slL S).1))],rg:=(slL S).2}
noncomputable def rLt (s:St):Tr RO:=roundT X_let 0 [0,3,4] [3] (bodyLoop f_let 0) s
def ltr (x:Int):Int:=IntKind.u8.wrap (65+x.tmod 26)
def nxLt (b:List Int) (i:Int) (R:RO→Prop) (S:Option (List Int × Nat)):Prop:=R (.next (sLt b S (w64 (i+1))))
theorem lt_none (b:List Int) (i:Int) (R:RO→Prop):(rLt (sLt b none i)).run R=sel (decide (i<(b.length:Int))) (ixU i b.length (nxLt b i R (some ([ltr (b.getD i.toNat 0)],1)))) (R (.done .normal (dLt none))):=by kernel_rfl
theorem lt_some (b xs:List Int) (q:Nat) (i:Int) (R:RO→Prop):(rLt (sLt b (some (xs,q)) i)).run R=sel (decide (i<(b.length:Int))) (ixU i b.length (ap8 q xs.length (nxLt b i R (some (List.take q xs++[ltr (b.getD i.toNat 0)],q+1))))) (R (.done .normal (dLt (some (xs,q))))):=by kernel_rfl
def ltO (b:List Int):Nat→Option (List Int × Nat)
 | 0=>none
 | k+1=>some ((b.take (k+1)).map ltr,k+1)
structure ALt where
 b:List Int
 i:Nat
def hLt (x:ALt):St:=sLt x.b (ltO x.b x.i) (x.i:Int)
def preLt (x:ALt) (R:NExit × St→Prop):Prop:=(x.i≤x.b.length∧x.b.length≤1000000)∧R (.normal,dLt (ltO x.b x.b.length))
def nxtLt (x:ALt) (R:NExit × St→Prop) (q:RO):Prop:=match q with
 | .next s=>∃ y,s=hLt y∧y.b.length - y.i<x.b.length - x.i∧preLt y R
 | .done e s=>R (e,s)
theorem lt_in (x:ALt) (R:NExit × St→Prop) (h:preLt x R):Box ((rLt (hLt x)).run (nxtLt x R)):=by
 obtain ⟨b,i⟩:=x
 obtain ⟨⟨h1,h2⟩,hR⟩:=h
 simp only at h1 h2 hR
 have hw:w64 ((i:Int)+1)=((i+1:Nat):Int):=by show IntKind.i64.wrap _=_; rw [IntKind.wrap_i64]; omega
 have ek:((i:Nat):Int).toNat=i:=by simp
 by_cases hk:i<b.length
 ·have eg:b.getD i 0=b[i]:=by rw [List.getD_eq_getElem?_getD,List.getElem?_eq_getElem hk]; rfl
  have et:b.take (i+1)=b.take i++[b[i]]:=by rw [List.take_add_one,List.getElem?_eq_getElem hk]; rfl
  have nx:nxLt b (i:Int) (nxtLt ⟨b,i⟩ R) (ltO b (i+1)):=by
   unfold nxLt
   rw [hw]
   exact ⟨⟨b,i+1⟩,rfl,by simp only; omega,⟨by simp only; omega,h2⟩,hR⟩
  cases i with
  | zero=>
    refine Box.of_eq (lt_none b 0 _) (sT (decide_eq_true (by omega)) (ixU_in ⟨by omega,by omega⟩ ?_))
    have e0:(0:Int).toNat=0:=rfl
    rw [e0,eg]
    have e1:ltO b (0+1)=some ([ltr b[0]],1):=by
     show some ((b.take 1).map ltr,1)=_
     have:b.take 1=[b[0]]:=by rw [et]; rfl
     rw [this]
     rfl
    rw [e1] at nx
    exact nx
  | succ i=>
    have hl:(b.take (i+1)).length=i+1:=by rw [List.length_take]; omega
    have l1:((b.take (i+1)).map ltr).length=i+1:=by rw [List.length_map,hl]
    refine Box.of_eq (lt_some b ((b.take (i+1)).map ltr) (i+1) ((i+1:Nat):Int) _) (sT (decide_eq_true (by omega)) (ixU_in ⟨by omega,by omega⟩ ?_))
    have t1:List.take (i+1) ((b.take (i+1)).map ltr)=(b.take (i+1)).map ltr:=List.take_of_length_le (by omega)
    rw [ek,eg,l1,t1]
    refine ap8_in (by omega) ?_
    have e1:ltO b (i+1+1)=some ((b.take (i+1)).map ltr++[ltr b[i+1]],i+1+1):=by
     show some ((b.take (i+1+1)).map ltr,i+1+1)=_
     rw [et,List.map_append]
     rfl
    rw [e1] at nx
    exact nx
 ·have e:b.length=i:=by omega
  cases i with
  | zero=>
    rw [e] at hR
    exact Box.of_eq (lt_none b 0 _) (sF (decide_eq_false (by omega)) hR)
  | succ n=>
    rw [e] at hR
    exact Box.of_eq (lt_some b ((b.take (n+1)).map ltr) (n+1) ((n+1:Nat):Int) _) (sF (decide_eq_false (by omega)) hR)
def lLt (s:St):Tr (NExit × St):=match s.fr[(0:Nat)]? with
 | some (.v (.c (.l _ b)))=>.must (s=sLt b none 0∧b.length≤1000000) (.br b.isEmpty (.ret (.normal,dLt none)) (.ret (.normal,dLt (some (b.map ltr,b.length)))))
 | _=>.fail
theorem loop_lt:LOk Tryz.prog GL 0 0 (bodyLoop f_let 0) lLt:=by
 refine loop_ok (X:=X_let) con_none mixed (LAll.none (by kernel_rfl)) [0,3,4] [3] hLt (fun x=>x.b.length - x.i) preLt ?_ ?_
 ·intro s R h
  unfold lLt at h
  split at h
  case h_2=>exact h.elim
  rename_i b hx
  obtain ⟨⟨hs,hl⟩,hR⟩:=h
  refine ⟨⟨b,0⟩,hs,⟨Nat.zero_le _,hl⟩,?_⟩
  have hR:sel b.isEmpty (R (.normal,dLt none)) (R (.normal,dLt (some (b.map ltr,b.length)))):=hR
  cases b with
  | nil=>exact hR
  | cons y b=>
    show R (.normal,dLt (some (((y::b).take (b.length+1)).map ltr,b.length+1)))
    rw [List.take_of_length_le (by simp)]
    exact hR
 ·intro x R h
  exact Tr.run_mono _ (fun q hq=>hq) (lt_in x R h).out
noncomputable def t_let0:Con:=fun args regs=>if regs.length=0 then nfun Tryz.prog GL (fun _=>Option.none) [(0,[0,3,4],lLt)] f_let args regs else .fail
theorem k_let0:Known Tryz.prog GL 28 t_let0:=known_loops 0 Tryz.func28 rfl (by kernel_rfl) mixed con_none (LAll.one (id:=0) (body:=bodyLoop f_let 0) (by kernel_rfl) rfl loop_lt)
noncomputable def t_letC:Con:=softT [] [0] [(0,0,0,.l .u8 [])] [] 0 t_let0
theorem k_letC:Known Tryz.prog GL 28 t_letC:=k_let0.soft [] [0] [(0,0,0,.l .u8 [])] [] 0
def oLe (b:List Int):Out:=⟨.v (.c (.l .u8 b)),[]⟩
theorem let_tree (b:List Int) (R:Out→Prop):(t_letC [.c (.l .u8 b)] []).run R=((sLt b none 0=sLt b none 0∧b.length≤1000000)∧sel b.isEmpty (R (oLe [])) (b.length=(b.map ltr).length∧R (oLe (b.map ltr)))):=by kernel_rfl
noncomputable def tLet:Con:=fun args regs=>match args,regs with
 | [.c (.l _ b)],[]=>.must (args=[.c (.l .u8 b)]∧b.length≤1000000) (.ret (oLe (b.map ltr)))
 | _,_=>.fail
attribute [local irreducible] t_letC in
theorem kLet:Known Tryz.prog GL 28 tLet:=by
 refine k_letC.less fun args regs R h=>?_
 unfold tLet at h
 split at h
 case h_2=>exact h.elim
 rename_i _ b
 obtain ⟨⟨h1,h2⟩,h⟩:=h
 rw [h1]
 have h:R (oLe (b.map ltr)):=h
 refine (Box.of_eq (let_tree b R) ⟨⟨rfl,h2⟩,?_⟩).out
 cases b with
 | nil=>exact h
 | cons y b=>exact sF rfl ⟨by rw [List.length_map],h⟩
def d1:Dv:=⟨1,0,0,0,1,[],[],[],[]⟩
def d2 (t:List Int):Dv:=⟨2,0,0,0,7,[],t,[],[]⟩
def d3:Dv:=⟨1,0,5,0,0,[],[],[],[]⟩
def dS (t:List Int):List Dv:=[d1,d2 t,d3]
noncomputable def c_snd:FuncId→Option Con:=conOf [(12,tByN),(24,tRpkN)]
theorem kc_snd:∀ f T,c_snd f=some T→Known Tryz.prog GL f T:=(Knowns.cons kByN (.cons kRpkN .nil)).get
noncomputable def t_snd:Con:=fun args regs=>nfun Tryz.prog GL c_snd [] Tryz.f29 args regs
theorem k_snd:Known Tryz.prog GL 29 t_snd:=known_inl Tryz.func29 rfl (by kernel_rfl) mixed kc_snd (by kernel_rfl)
noncomputable def oSn (V:Rv):Out:=⟨.tu [],rv.outV V⟩
noncomputable def sndT (V:Rv) (t:List Int) (R:Out→Prop):Prop:=pkK V d1 (pkK (V.bk.pk d1) (d2 t) (pkK ((V.bk.pk d1).bk.pk (d2 t)) d3 (R (oSn (((V.bk.pk d1).bk.pk (d2 t)).bk.pk d3)))))
theorem snd_tree (V:Rv) (t:List Int) (R:Out→Prop):(t_snd [.c (.p 0 0 0),.c (.l .u8 t)] (inV V)).run R=sndT V t R:=by kernel_rfl
noncomputable def tSnd:Con:=fun args regs=>match args with
 | [.c (.p 0 0 0),.c (.l _ t)]=>onV regs fun V=>.must (args=[.c (.p 0 0 0),.c (.l .u8 t)]∧V.m.good∧okKs V (dS t)) (.ret (oSn (V.pks (dS t))))
 | _=>.fail
attribute [local irreducible] t_snd in
theorem kSnd:Known Tryz.prog GL 29 tSnd:=by
 refine k_snd.less fun args regs R h=>?_
 unfold tSnd at h
 split at h
 case h_2=>exact h.elim
 rename_i _ t
 obtain ⟨V,rfl,hV,⟨h1,hg,k1,k2,k3,-⟩,h⟩:=onV_elim h
 rw [h1]
 have g1:=pk_good hg d1
 have g2:=pk_good g1 (d2 t)
 refine (Box.of_eq (snd_tree V t R) ?_).out
 unfold sndT
 rw [V.bk_eq hg.far,Rv.bk_eq _ g1.far,Rv.bk_eq _ g2.far]
 exact pkK_in hg k1 (pkK_in g1 k2 (pkK_in g2 k3 h))
end ho
end
end Go.Proofs.YthknkidbonfbnaaGreatDoor
