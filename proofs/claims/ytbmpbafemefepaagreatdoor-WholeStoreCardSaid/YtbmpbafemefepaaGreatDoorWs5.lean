/-
  Joined: AqJ, PkF, PkG, PkH, PkI, PkJ, LnA, HdA, HdB, HdC, HdN, HdD, AqK, AqL, AqM, AqN, AqO, AqP, AqQ, AqQa, AqQb, AqR, AqW, HmA, HmB, HmC, TsX, HdQ, TrX, TsY, LbA, LbC, AqS, AqT, AqTa, SvA, SvR, AqU, AqV, AqVa, AqVb, AqX, AqY, AqZ, AqZa, AqN1, AqN2, BmA, BmB.
-/
import Derived.Test.YtbmpbafemefepaaGreatDoorWs4
import Derived.Test.YtbmpbafemefepaaGreatDoorRows
set_option maxRecDepth 100000
set_option linter.unusedVariables false
namespace Go.Proofs.YtbmpbafemefepaaGreatDoor
namespace pge
open Go Go.Nx pk ac sto hd
noncomputable def c_pmk:FuncId→Option Con:=conOf [(141,tOd)]
theorem kc_pmk:∀ f T,c_pmk f=some T→Known Tryz.prog GL f T:=(Knowns.cons kOd .nil).get
noncomputable def t_pmk:Con:=fun args regs=>nfun Tryz.prog GL c_pmk [] Tryz.f171 args regs
theorem k_pmk:Known Tryz.prog GL 171 t_pmk:=known_inl Tryz.func171 rfl (by kernel_rfl) mixed kc_pmk (by kernel_rfl)
noncomputable def t_mu64:Con:=fun args regs=>nfun Tryz.prog GL (fun _=>Option.none) [] Tryz.f234 args regs
theorem k_mu64:Known Tryz.prog GL 234 t_mu64:=known_inl Tryz.func234 rfl (by kernel_rfl) mixed con_none (by kernel_rfl)
noncomputable def c_mu:FuncId→Option Con:=conOf [(234,t_mu64)]
theorem kc_mu:∀ f T,c_mu f=some T→Known Tryz.prog GL f T:=(Knowns.cons k_mu64 .nil).get
noncomputable def t_mu:Con:=fun args regs=>nfun Tryz.prog GL c_mu [] Tryz.f206 args regs
theorem k_mu:Known Tryz.prog GL 206 t_mu:=known_inl Tryz.func206 rfl (by kernel_rfl) mixed kc_mu (by kernel_rfl)
noncomputable def c_rep:FuncId→Option Con:=conOf [(206,t_mu)]
theorem kc_rep:∀ f T,c_rep f=some T→Known Tryz.prog GL f T:=(Knowns.cons k_mu .nil).get
noncomputable def X_rep:Cx:={P:=Tryz.prog,con:=c_rep,glob:=GL,m:=0,loops:=[]}
noncomputable def t_rep:Con:=fun args regs=>if regs.length=0 then nfun Tryz.prog GL c_rep [(0,[7,8],unroll X_rep 0 [7,8] [7] (bodyLoop Tryz.f170 0) 5)] Tryz.f170 args regs else .fail
theorem k_rep:Known Tryz.prog GL 170 t_rep:=known_loops 0 Tryz.func170 rfl (by kernel_rfl) mixed kc_rep (LAll.one (id:=0) (body:=bodyLoop Tryz.f170 0) (by kernel_rfl) rfl (unroll_ok (X:=X_rep) kc_rep mixed (LAll.none (by kernel_rfl)) [7,8] [7] 5))
structure Hx where
 mg:Int
 pn:Int
 sb:Int
 c0:Bool
 c1:Bool
 c2:Bool
 c3:Bool
 c4:Bool
 c5:Bool
 c6:Bool
 c7:Bool
 c8:Bool
 c9:Bool
 c10:Bool
 op:Int
def Hx.nc (h:Hx):List NC:=[.i .i64 h.mg,.i .i64 h.pn,.i .i64 h.sb,.b h.c0,.b h.c1,.b h.c2,.b h.c3,.b h.c4,.b h.c5,.b h.c6,.b h.c7,.b h.c8,.b h.c9,.b h.c10,.i .i64 h.op]
def Hx.rows (h:Hx):List (List Sc):=[[.b h.c0],[.b h.c1],[.b h.c2],[.b h.c3],[.b h.c4],[.b h.c5],[.b h.c6],[.b h.c7],[.b h.c8],[.b h.c9],[.b h.c10]]
noncomputable def c_nw0:FuncId→Option Con:=conOf [(136,tclTV),(171,t_pmk),(170,t_rep),(172,tMg)]
theorem kc_nw0:∀ f T,c_nw0 f=some T→Known Tryz.prog GL f T:=(Knowns.cons kclTV (.cons k_pmk (.cons k_rep (.cons kMg .nil)))).get
noncomputable def t_nw0:Con:=fun args regs=>nfun Tryz.prog GL c_nw0 [] Tryz.f123 args regs
theorem k_nw0:Known Tryz.prog GL 123 t_nw0:=known_inl Tryz.func123 rfl (by kernel_rfl) mixed kc_nw0 (by kernel_rfl)
noncomputable def t_nwC:Con:=softT [] [] [(0,5,0,.lr K3 [])] [] 0 t_nw0
theorem k_nwC:Known Tryz.prog GL 123 t_nwC:=k_nw0.soft [] [] [(0,5,0,.lr K3 [])] [] 0
def rep8 (t:List Int):List Int:=32::32::32::32::32::32::32::32::t
def dat (t:List Int):List Int:=List.take (8+t.length) (List.drop 0 (rep8 t))
noncomputable def newQ (h:Hx) (q:Pg) (t:List Int):Pg:={Pg.setR q 0 (dat t) with mg:=h.mg,pn:=h.pn,sb:=h.sb,c:=h.rows,op:=h.op}
noncomputable def tailN (h:Hx) (q:Pg) (t:List Int) (R:Out→Prop):Prop:=
 ([NV.c (.i .u8 32)]=[NV.c (.i .u8 32)]∧(0:Int)≤32∧(32:Int)<256)∧sel (decide ((8+t.length) * bytesT Tryz.prog 5≤140737488355328)) (sel (decide (8+t.length≤9223372036854775807)) (sel (decide (0+(8+t.length)≤(rep8 t).length))
   (([NV.sg [.ints .u8 40 (r40 q 0)],.c (.l .u8 (dat t)),.c (.b (thB q 0))]=[NV.sg [.ints .u8 40 (r40 q 0)],.c (.l .u8 (dat t)),.c (.b (thB q 0))]∧∀ b∈dat t,0≤b∧b<256)∧R (oPg (newQ h q t))) False) False) False
theorem nw_tree (h:Hx) (t:List Int) (p:Pg) (had:Bool) (R:Out→Prop):(t_nwC [.ag h.nc,.c (.l .u8 t),pgV p,.c (.b had)] []).run R =
 sel had (sel (!h.c0) (([NV.c (.lr K3 p.ex)]=[NV.c (.lr K3 p.ex)]∧p.ex.length≤1000000)∧tailN h p t R) (tailN h pgZ t R)) (tailN h pgZ t R):=by kernel_rfl
noncomputable def newP (h:Hx) (t:List Int) (p:Pg) (had:Bool):Pg:=newQ h (match had&&!h.c0 with | true=>p | false=>pgZ) t
theorem dat_eq (t:List Int):dat t=rep8 t:=by
 unfold dat
 rw [List.drop_zero,List.take_of_length_le]
 simp [rep8]
 omega
def rdHx:List NC→Option Hx
 | [.i _ mg,.i _ pn,.i _ sb,.b c0,.b c1,.b c2,.b c3,.b c4,.b c5,.b c6,.b c7,.b c8,.b c9,.b c10,.i _ op]=>some ⟨mg,pn,sb,c0,c1,c2,c3,c4,c5,c6,c7,c8,c9,c10,op⟩
 | _=>none
noncomputable def tNw:Con:=fun args regs=>match args,regs with
 | [.ag hs,.c (.l _ t),v,.c (.b had)],[]=>(match rdPg v,rdHx hs with
   | some p,some h=>.must (args=[.ag h.nc,.c (.l .u8 t),pgV p,.c (.b had)]∧p.ex.length≤1000000∧t.length≤1000000∧∀ b∈t,0≤b∧b<256) (.ret (oPg (newP h t p had)))
   | _,_=>.fail)
 | _,_=>.fail
theorem nw_in {h:Hx} {t:List Int} {p:Pg} {had:Bool} {R:Out→Prop} (h1:p.ex.length≤1000000) (h2:t.length≤1000000) (h3:∀ b∈t,0≤b∧b<256) (hR:R (oPg (newP h t p had))):Box ((t_nwC [.ag h.nc,.c (.l .u8 t),pgV p,.c (.b had)] []).run R):=by
 refine Box.of_eq (nw_tree h t p had R) ?_
 have hb:=bytesB
 have hl:(rep8 t).length=8+t.length:=by simp [rep8]; omega
 have hd:∀ b∈rep8 t,0≤b∧b<256:=by
  intro b hm
  simp only [rep8,List.mem_cons] at hm
  rcases hm with rfl | rfl | rfl | rfl | rfl | rfl | rfl | rfl | hm
  all_goals first | exact h3 b hm | omega
 have key:∀ q,R (oPg (newQ h q t))→tailN h q t R:=fun q hq=>by
  unfold tailN
  rw [dat_eq]
  refine ⟨⟨rfl,by omega,by omega⟩,sT (decide_eq_true (by rw [hb]; omega)) (sT (decide_eq_true (by omega)) (sT (decide_eq_true (by omega)) ⟨⟨rfl,hd⟩,hq⟩))⟩
 unfold newP at hR
 cases had with
 | false=>exact sF rfl (key _ hR)
 | true=>
   refine sT rfl ?_
   cases hc:h.c0 with
   | true=>rw [hc] at hR; exact sF rfl (key _ hR)
   | false=>rw [hc] at hR; exact sT rfl ⟨⟨rfl,h1⟩,key _ hR⟩
attribute [local irreducible] t_nwC in
theorem kNw:Known Tryz.prog GL 123 tNw:=by
 refine k_nwC.less fun args regs R h=>Box.out ?_
 unfold tNw at h
 split at h
 case h_2=>exact h.elim
 split at h
 case h_2=>exact h.elim
 obtain ⟨⟨h1,h2,h3,h4⟩,h⟩:=h
 rw [h1]
 exact nw_in h2 h3 h4 h
end pge
end Go.Proofs.YtbmpbafemefepaaGreatDoor
namespace Go.Nx
open Go
end Go.Nx
namespace Go.Proofs.YtbmpbafemefepaaGreatDoor
namespace pk
open Go Go.Nx
def oB (x:Bool):Out:=⟨.v (.c (.b x)),[]⟩
theorem bytes1:bytesT Tryz.prog 5=1:=by kernel_rfl
def oL (ds:List Int):Out:=⟨.v (.c (.h 0 0 ds.length)),[some ⟨1,5,.ints .u8 ds⟩]⟩
noncomputable def clo (ds:List Int) (R:Out→Prop):Prop:=sel (decide ((0+ds.length) * bytesT Tryz.prog 5≤140737488355328)) (sel (decide (0+ds.length≤9223372036854775807)) (R ⟨.v (.c (.h 0 0 (0+ds.length))),[some ⟨1,5,.ints .u8 ds⟩]⟩) False) False
theorem clone_tree (ds:List Int) (R:Out→Prop):(t_bclone [.c (.l .u8 ds)] []).run R=sel ds.isEmpty (∀ y:Bool,True→sel y (R ⟨.v (.c .sn),[]⟩) (clo ds R)) (clo ds R):=by kernel_rfl
noncomputable def tClone:Con:=fun args regs=>match args,regs with
 | [.c (.l .u8 ds)],[]=>.must (0<ds.length∧ds.length≤1000000) (.ret (oL ds))
 | _,_=>.fail
theorem kClone:Known Tryz.prog [] 108 tClone:=by
 refine k_bclone.less fun args regs R h=>Box.out ?_
 unfold tClone at h
 split at h
 case h_2=>exact h.elim
 rename_i ds
 have h1:=h.1
 have h2:R (oL ds):=h.2
 clear h
 refine Box.of_eq (clone_tree ds R) ?_
 refine selF ?_ ?_
 ·cases ds with
  | nil=>simp at h1
  | cons _ _=>rfl
 ·unfold clo
  rw [Nat.zero_add,bytes1]
  exact selT (dT (by omega)) (selT (dT (by omega)) h2)
theorem kg_clone:Known Tryz.prog GL 108 tClone:=known_gl kClone
theorem kg_open:Known Tryz.prog GL 117 tOpen:=known_gl kOpen
theorem kg_get:Known Tryz.prog GL 119 tGet:=known_gl kGet
def kindF (row:Int):Int:=bif decide (row=0) then 1 else bif decide (row ≥ 1)&&decide (row≤24) then 2 else bif decide (row ≥ 26)&&decide (row≤30) then row - 23 else 0
theorem kind_tree (row:Int) (R:Out→Prop):(t_kind [.c (.i .i64 row)] []).run R =
 sel (row==0) (R ⟨.v (.c (.i .i64 1)),[]⟩) (sel (decide (row ≥ 1)) (sel (decide (row≤24)) (R ⟨.v (.c (.i .i64 2)),[]⟩) (sel (decide (row ≥ 26)) (sel (decide (row≤30)) (sel (decide (0≤IntKind.i64.wrap (row - 26))) (sel (decide (IntKind.i64.wrap (row - 26)<((5:Nat):Int))) (sel (decide (0+(IntKind.i64.wrap (row - 26)).toNat<5)) (R ⟨.v (.c (.i .i64 ([3,4,5,6,7].getD (0+(IntKind.i64.wrap (row - 26)).toNat) 0))),[]⟩) False) False) False) (R ⟨.v (.c (.i .i64 0)),[]⟩)) (R ⟨.v (.c (.i .i64 0)),[]⟩)))
  (sel (decide (row ≥ 26)) (sel (decide (row≤30)) (sel (decide (0≤IntKind.i64.wrap (row - 26))) (sel (decide (IntKind.i64.wrap (row - 26)<((5:Nat):Int))) (sel (decide (0+(IntKind.i64.wrap (row - 26)).toNat<5)) (R ⟨.v (.c (.i .i64 ([3,4,5,6,7].getD (0+(IntKind.i64.wrap (row - 26)).toNat) 0))),[]⟩) False) False) False) (R ⟨.v (.c (.i .i64 0)),[]⟩)) (R ⟨.v (.c (.i .i64 0)),[]⟩))):=by kernel_rfl
noncomputable def adr0 (mag row:Int):Int:=put (bits .or .i64 (mag.tmod 8) (IntKind.i64.wrap (bits .and .i64 row 1 * 8)))
noncomputable def adr1 (row:Int):Int:=put (shrv .i64 row 1)
noncomputable def tKind:Con:=fun args regs=>match args,regs with
 | [.c (.i .i64 row)],[]=>.ret ⟨.v (.c (.i .i64 (kindF row))),[]⟩
 | _,_=>.fail
theorem kind_in {row:Int} {R:Out→Prop} (h:R ⟨.v (.c (.i .i64 (kindF row))),[]⟩):Box ((t_kind [.c (.i .i64 row)] []).run R):=by
 refine Box.of_eq (kind_tree row R) ?_
 unfold kindF at h
 have key:R ⟨.v (.c (.i .i64 (bif decide (row ≥ 26)&&decide (row≤30) then row - 23 else 0))),[]⟩→sel (decide (row ≥ 26)) (sel (decide (row≤30)) (sel (decide (0≤IntKind.i64.wrap (row - 26))) (sel (decide (IntKind.i64.wrap (row - 26)<((5:Nat):Int))) (sel (decide (0+(IntKind.i64.wrap (row - 26)).toNat<5)) (R ⟨.v (.c (.i .i64 ([3,4,5,6,7].getD (0+(IntKind.i64.wrap (row - 26)).toNat) 0))),[]⟩) False) False) False) (R ⟨.v (.c (.i .i64 0)),[]⟩)) (R ⟨.v (.c (.i .i64 0)),[]⟩):=by
  intro h
  refine sel_by (fun h1=>sel_by (fun h2=>?_) fun h2=>?_) fun h1=>?_
  ·have:row=26∨row=27∨row=28∨row=29∨row=30:=by omega
   rcases this with rfl | rfl | rfl | rfl | rfl <;> exact h
  ·rw [dT h1,dF h2] at h; exact h
  ·rw [dF h1] at h; exact h
 by_cases h0:row=0
 ·subst h0; exact h
 ·rw [dF h0] at h
  refine selF (by simpa using h0) (sel_by (fun h1=>sel_by (fun h2=>?_) fun h2=>?_) fun h1=>?_)
  ·rw [dT h1,dT h2] at h; exact h
  ·rw [dT h1,dF h2] at h; exact key h
  ·rw [dF h1] at h; exact key h
theorem kKind:Known Tryz.prog [] 118 tKind:=by
 refine k_kind.less fun args regs R h=>Box.out ?_
 unfold tKind at h
 split at h
 case h_2=>exact h.elim
 exact kind_in h
theorem kg_kind:Known Tryz.prog GL 118 tKind:=known_gl kKind
noncomputable def c_read:FuncId→Option Con:=conOf [(117,tOpen),(118,tKind),(108,tClone),(119,tGet)]
theorem kc_read:∀ f T,c_read f=some T→Known Tryz.prog GL f T:=(Knowns.cons kg_open (.cons kg_kind (.cons kg_clone (.cons kg_get .nil)))).get
noncomputable def t_read:Con:=fun args regs=>nfun Tryz.prog GL c_read [] Tryz.f73 args regs
theorem k_read:Known Tryz.prog GL 73 t_read:=known_inl Tryz.func73 rfl (by kernel_rfl) mixed kc_read (by kernel_rfl)
def oPE (k:Nat):Out:=⟨.tu [.ag [.i .i64 0,.i .i64 0,.i .i64 0,.i .i64 0,.sn],.c (.e k)],[]⟩
def oPk (mag row kind code:Int) (ds:List Int):Out:=⟨.tu [.ag [.i .i64 mag,.i .i64 row,.i .i64 kind,.i .i64 code,.h 0 0 ds.length],.c .en],[some ⟨1,5,.ints .u8 ds⟩]⟩
noncomputable def rowOf (x y:Int):Int:=bits .or .i64 (shlv .i64 y 1) (IntKind.i64.wrap (x.tdiv 8))
def magOf (x:Int):Int:=bif x.tmod 8==0 then 8 else x.tmod 8
def Hd (bs:List Int):List Int:=List.drop 0 (List.take (2:Int).toNat bs)
def Tl (bs:List Int):List Int:=List.drop (2:Int).toNat (List.take bs.length bs)
def Ut (l:List Int):List Int:=List.take (l.length - (1:Int).toNat) (List.drop (0+(1:Int).toNat) l)
noncomputable def restE (bs:List Int) (m r:Int) (R:Out→Prop):Prop:=
 sel (decide (2≤(bs.length:Int))) ((0<(Tl bs).length∧(Tl bs).length≤1000000)∧sel (kindF r==0) (R (oPE eKnd)) (sel (decide (r ≥ 26))
  (sel (decide (0<((Tl bs).length:Int))) (sel (decide (0+(0:Int).toNat<(Tl bs).length)) (sel (!getB ((Tl bs).getD 0 0)) (R (oPE eBit))
    (sel (decide (1≤((Tl bs).length:Int))) (sel (decide (0+(1:Int).toNat+((Tl bs).length - (1:Int).toNat)≤(Tl bs).length)) ((0<(Ut (Tl bs)).length∧(Ut (Tl bs)).length≤1000000)∧R (oPk m r (kindF r) (getN ((Tl bs).getD 0 0)) (Ut (Tl bs)))) False) False)) False) False)
  (R (oPk m r (kindF r) 0 (Tl bs))))) False
theorem read_tree (bs:List Int) (R:Out→Prop):(t_read [.c (.l .u8 bs)] []).run R =
 sel ((bs.length:Int) !=42) (R (oPE eLen)) (sel (decide (2≤(bs.length:Int))) ((Hd bs).length=2∧sel (getB ((Hd bs).getD 0 0)&&getB ((Hd bs).getD 1 0))
  (sel ((getN ((Hd bs).getD 0 0)).tmod 8==0) (restE bs 8 (rowOf (getN ((Hd bs).getD 0 0)) (getN ((Hd bs).getD 1 0))) R) (restE bs ((getN ((Hd bs).getD 0 0)).tmod 8) (rowOf (getN ((Hd bs).getD 0 0)) (getN ((Hd bs).getD 1 0))) R))
  (R (oPE eBit))) False):=by kernel_rfl
noncomputable def bodyT (a b:Int) (ds:List Int):Tr Out:=
 .br (getB a&&getB b)
  (.br (decide (kindF (rowOf (getN a) (getN b))=0)) (.ret (oPE eKnd))
    (.br (decide (rowOf (getN a) (getN b) ≥ 26))
      (.br (getB (ds.getD 0 0)) (.ret (oPk (magOf (getN a)) (rowOf (getN a) (getN b)) (kindF (rowOf (getN a) (getN b))) (getN (ds.getD 0 0)) (ds.drop 1))) (.ret (oPE eBit)))
      (.ret (oPk (magOf (getN a)) (rowOf (getN a) (getN b)) (kindF (rowOf (getN a) (getN b))) 0 ds))))
  (.ret (oPE eBit))
noncomputable def tRead:Con:=fun args regs=>match args,regs with
 | [.c (.l .u8 bs)],[]=>.br (decide (bs.length=42)) (bodyT (bs.getD 0 0) (bs.getD 1 0) (bs.drop 2)) (.ret (oPE eLen))
 | [.c .sn],[]=>.ret (oPE eLen)
 | _,_=>.fail
theorem read_nil (R:Out→Prop):(t_read [.c .sn] []).run R=R (oPE eLen):=by kernel_rfl
theorem rest_in {a b:Int} {ds:List Int} {m r:Int} {R:Out→Prop} (h40:ds.length=40)
  (h:sel (decide (kindF r=0)) (R (oPE eKnd)) (sel (decide (r ≥ 26)) (sel (getB (ds.getD 0 0)) (R (oPk m r (kindF r) (getN (ds.getD 0 0)) (ds.drop 1))) (R (oPE eBit))) (R (oPk m r (kindF r) 0 ds)))):restE (a::b::ds) m r R:=by
 have eT:Tl (a::b::ds)=ds:=by
  show List.drop 2 (List.take (a::b::ds).length (a::b::ds))=ds
  rw [List.take_length]
  rfl
 have eU:Ut ds=ds.drop 1:=by
  show List.take (ds.length - 1) (List.drop 1 ds)=_
  rw [List.take_of_length_le (by rw [List.length_drop]; exact Nat.le_refl _)]
 have e1:(0:Int).toNat=0:=rfl
 have e2:(1:Int).toNat=1:=rfl
 unfold restE
 rw [eT,eU,e1,e2]
 refine selT (dT (by simp; omega)) ⟨⟨by omega,by omega⟩,?_⟩
 rcases sel_iff.1 h with ⟨c,h⟩ | ⟨c,h⟩
 ·exact selT (by rw [beq_iff_eq]; exact of_decide_eq_true c) h
 ·refine selF (by rw [beq_eq_false_iff_ne]; exact of_decide_eq_false c) ?_
  rcases sel_iff.1 h with ⟨c,h⟩ | ⟨c,h⟩
  ·refine selT c (selT (dT (by omega)) (selT (dT (by omega)) ?_))
   rcases sel_iff.1 h with ⟨c,h⟩ | ⟨c,h⟩
   ·refine selF (by rw [c]; rfl) (selT (dT (by omega)) (selT (dT (by omega)) ⟨⟨?_,?_⟩,h⟩))
    ·rw [List.length_drop]; omega
    ·rw [List.length_drop]; omega
   ·exact selT (by rw [c]; rfl) h
  ·exact selF c h
theorem read_in {bs:List Int} {R:Out→Prop} (h:sel (decide (bs.length=42)) ((bodyT (bs.getD 0 0) (bs.getD 1 0) (bs.drop 2)).run R) (R (oPE eLen))):Box ((t_read [.c (.l .u8 bs)] []).run R):=by
 refine Box.of_eq (read_tree bs R) ?_
 rcases sel_iff.1 h with ⟨c,h⟩ | ⟨c,h⟩
 ·have c:=of_decide_eq_true c
  match bs,c with
  | a::b::ds,c=>
    have h40:ds.length=40:=by simpa using c
    have eH:Hd (a::b::ds)=[a,b]:=rfl
    have h:(bodyT a b ds).run R:=h
    rw [eH]
    refine selF (by simp [bne]; omega) (selT (dT (by simp; omega)) ⟨rfl,?_⟩)
    show sel (getB a&&getB b) _ _
    rcases sel_iff.1 h with ⟨c,h⟩ | ⟨c,h⟩
    ·refine selT c ?_
     show sel ((getN a).tmod 8==0) (restE (a::b::ds) 8 (rowOf (getN a) (getN b)) R) (restE (a::b::ds) ((getN a).tmod 8) (rowOf (getN a) (getN b)) R)
     unfold magOf at h
     cases hm:((getN a).tmod 8==0) with
     | true=>rw [hm] at h; exact rest_in h40 h
     | false=>rw [hm] at h; exact rest_in h40 h
    ·exact selF c h
 ·have c:=of_decide_eq_false c
  exact selT (by rw [bne_iff_ne]; omega) h
theorem kRead:Known Tryz.prog GL 73 tRead:=by
 refine k_read.less fun args regs R h=>Box.out ?_
 unfold tRead at h
 split at h
 case h_3=>exact h.elim
 case h_1 bs=>exact read_in h
 case h_2=>exact Box.of_eq (read_nil R) h
end pk
namespace ln
end ln
namespace hd
open Go Go.Nx pk ln
noncomputable def t_at:Con:=fun args regs=>nfun Tryz.prog GL (fun _=>Option.none) [] Tryz.f129 args regs
theorem k_at:Known Tryz.prog GL 129 t_at:=known_inl Tryz.func129 rfl (by kernel_rfl) mixed con_none (by kernel_rfl)
noncomputable def c_opn:FuncId→Option Con:=conOf [(119,tGet)]
theorem kc_opn:∀ f T,c_opn f=some T→Known Tryz.prog GL f T:=(Knowns.cons kg_get .nil).get
noncomputable def X_opn:Cx:={P:=Tryz.prog,con:=c_opn,glob:=GL,m:=0,loops:=[]}
noncomputable def t_opn:Con:=fun args regs=>if regs.length=0 then nfun Tryz.prog GL c_opn [(0,[4,9,10,11],unroll X_opn 0 [4,9,10,11] [2,3,4] (bodyLoop Tryz.f117 0) 9)] Tryz.f117 args regs else .fail
theorem k_opn:Known Tryz.prog GL 117 t_opn:=known_loops 0 Tryz.func117 rfl (by kernel_rfl) mixed kc_opn (LAll.one (id:=0) (body:=bodyLoop Tryz.f117 0) (by kernel_rfl) rfl (unroll_ok (X:=X_opn) kc_opn mixed (LAll.none (by kernel_rfl)) [4,9,10,11] [2,3,4] 9))
noncomputable def t_of:Con:=fun args regs=>nfun Tryz.prog GL (fun _=>Option.none) [] Tryz.f126 args regs
theorem k_of:Known Tryz.prog GL 126 t_of:=known_inl Tryz.func126 rfl (by kernel_rfl) mixed con_none (by kernel_rfl)
noncomputable def t_bitf:Con:=fun args regs=>nfun Tryz.prog GL (fun _=>Option.none) [] Tryz.f203 args regs
theorem k_bitf:Known Tryz.prog GL 203 t_bitf:=known_inl Tryz.func203 rfl (by kernel_rfl) mixed con_none (by kernel_rfl)
theorem at_tree (m r k c i:Int) (ds:List Int) (R:Out→Prop):(t_at [.ag [.i .i64 m,.i .i64 r,.i .i64 k,.i .i64 c,.l .u8 ds],.c (.i .i64 i)] []).run R =
 sel (decide (i<0)) (R ⟨.v (.c (.i .u8 0)),[]⟩) (sel (decide (i ≥ (ds.length:Int))) (R ⟨.v (.c (.i .u8 0)),[]⟩) (sel (decide (0≤i)) (sel (decide (i<(ds.length:Int))) (sel (decide (i.toNat<ds.length)) (R ⟨.v (.c (.i .u8 (ds.getD i.toNat 0))),[]⟩) False) False) False)):=by kernel_rfl
noncomputable def tAt:Con:=fun args regs=>match args,regs with
 | [.ag [.i .i64 _,.i .i64 _,.i .i64 _,.i .i64 _,.l .u8 ds],.c (.i .i64 i)],[]=>.must (0≤i∧i<(ds.length:Int)) (.ret ⟨.v (.c (.i .u8 (ds.getD i.toNat 0))),[]⟩)
 | _,_=>.fail
theorem kAt:Known Tryz.prog GL 129 tAt:=by
 refine k_at.less fun args regs R h=>Box.out ?_
 unfold tAt at h
 split at h
 case h_2=>exact h.elim
 rename_i m r k c ds i
 have h1:=h.1
 have h2:R ⟨.v (.c (.i .u8 (ds.getD i.toNat 0))),[]⟩:=h.2
 clear h
 exact Box.of_eq (at_tree m r k c i ds R) (selF (dF (by omega)) (selF (dF (by omega)) (selT (dT h1.1) (selT (dT h1.2) (selT (dT (by omega)) h2)))))
theorem bitf_tree (b:Bool) (R:Out→Prop):(t_bitf [.c (.b b)] []).run R=sel b (R ⟨.v (.c (.i .i64 1)),[]⟩) (R ⟨.v (.c (.i .i64 0)),[]⟩):=by kernel_rfl
def bI (c:Bool):Int:=bif c then 1 else 0
noncomputable def tBitf:Con:=fun args regs=>match args,regs with
 | [.c (.b b)],[]=>.ret ⟨.v (.c (.i .i64 (bI b))),[]⟩
 | _,_=>.fail
theorem kBitf:Known Tryz.prog GL 203 tBitf:=by
 refine k_bitf.less fun args regs R h=>Box.out ?_
 unfold tBitf at h
 split at h
 case h_2=>exact h.elim
 rename_i b
 have h2:R ⟨.v (.c (.i .i64 (bI b))),[]⟩:=h
 clear h
 refine Box.of_eq (bitf_tree b R) ?_
 cases b with
 | true=>exact selT rfl h2
 | false=>exact selF rfl h2
theorem sel_and {a b:Bool} {R:Bool→Prop} (h:R (a&&b)):sel a (R b) (R false):=by
 cases a with
 | true=>exact selT rfl h
 | false=>exact selF rfl h
theorem sel_thn {a:Bool} {A B C:Prop} (h:sel a A B) (hh:A→C):sel a C B:=by
 rcases sel_iff.1 h with ⟨c,h⟩ | ⟨c,h⟩
 ·exact selT c (hh h)
 ·exact selF c h
def oOn (xs:List Int):Out:=⟨.tu [.c (.h 0 0 xs.length),.c (.b true)],[some ⟨1,3,.ints .i64 xs⟩]⟩
def openE (R:Out→Prop) (A:Prop):List Int→Prop
 | []=>A
 | b::bs=>sel (!getB b) (R oN) (openE R A bs)
theorem openE_in {R:Out→Prop} {A:Prop}:∀ {l:List Int},sel (l.all getB) A (R oN)→openE R A l
 | [],h=>by
   rcases sel_iff.1 h with ⟨_,h⟩ | ⟨c,_⟩
   ·exact h
   ·cases c
 | b::bs,h=>by
   show sel (!getB b) (R oN) (openE R A bs)
   have e:(b::bs).all getB=(getB b&&bs.all getB):=rfl
   rw [e] at h
   cases hb:getB b with
   | true=>rw [hb] at h; exact selF rfl (openE_in h)
   | false=>rw [hb] at h; exact selT rfl (by rcases sel_iff.1 h with ⟨c,_⟩ | ⟨_,h⟩; cases c; exact h)
theorem open_6 (a b c d e f:Int) (R:Out→Prop):(t_opn [.c (.l .u8 [a,b,c,d,e,f])] []).run R=openE R (R (oOn ([a,b,c,d,e,f].map getN))) [a,b,c,d,e,f]:=by kernel_rfl
theorem open_8 (a b c d e f g h:Int) (R:Out→Prop):(t_opn [.c (.l .u8 [a,b,c,d,e,f,g,h])] []).run R=openE R (R (oOn ([a,b,c,d,e,f,g,h].map getN))) [a,b,c,d,e,f,g,h]:=by kernel_rfl
noncomputable def tOpn:Con:=fun args regs=>match args,regs with
 | [.c (.l .u8 [a,b,c,d,e,f])],[]=>.br ([a,b,c,d,e,f].all getB) (.ret (oOn ([a,b,c,d,e,f].map getN))) (.ret oN)
 | [.c (.l .u8 [a,b,c,d,e,f,g,h])],[]=>.br ([a,b,c,d,e,f,g,h].all getB) (.ret (oOn ([a,b,c,d,e,f,g,h].map getN))) (.ret oN)
 | _,_=>.fail
theorem kOpn:Known Tryz.prog GL 117 tOpn:=by
 refine k_opn.less fun args regs R h=>Box.out ?_
 unfold tOpn at h
 split at h
 case h_3=>exact h.elim
 case h_1 a b c d e f=>exact Box.of_eq (open_6 a b c d e f R) (openE_in h)
 case h_2 a b c d e f g i=>exact Box.of_eq (open_8 a b c d e f g i R) (openE_in h)
noncomputable abbrev fPart:=Tryz.f125
noncomputable def cPart:FuncId→Option Con:=conOf [(129,tAt)]
theorem kcPart:∀ f T,cPart f=some T→Known Tryz.prog GL f T:=(Knowns.cons kAt .nil).get
noncomputable def XPart:Cx:={P:=Tryz.prog,con:=cPart,glob:=GL,m:=0,loops:=[]}
noncomputable def sPart (fr m r k c:Int) (ds xs:List Int) (q:Nat) (n i:Int):St:={fr:=frame 26 [(1,.v (.c (.i .i64 fr))),(3,.v (.c (.p 0 0 0))),(7,.v (.c (.h 1 0 q))),(12,.v (.c (.i .i64 n))),(13,.v (.c (.i .i64 i)))],rg:=[some ⟨5,164,.cells [.i .i64 m,.i .i64 r,.i .i64 k,.i .i64 c,.l .u8 ds]⟩,some ⟨1,5,.ints .u8 xs⟩]}
noncomputable def dPart (xs:List Int) (q:Nat):St:={fr:=frame 26 [(7,.v (.c (.h 0 0 q)))],rg:=[some ⟨1,5,.ints .u8 xs⟩]}
theorem round_part (fr m r k c:Int) (ds xs:List Int) (q:Nat) (n i:Int) (R:RO→Prop):(roundT XPart 0 [1,3,7,12,13] [7] (bodyLoop fPart 0) (sPart fr m r k c ds xs q n i)).run R =
 sel (decide (i<n)) ((0≤IntKind.i64.wrap (fr+i)∧IntKind.i64.wrap (fr+i)<(ds.length:Int))∧sel (decide (0≤i)) (sel (decide (i<(q:Int))) (sel (decide (0+i.toNat<xs.length)) (R (.next (sPart fr m r k c ds (setI xs (0+i.toNat) (ds.getD (IntKind.i64.wrap (fr+i)).toNat 0) 0) q n (IntKind.i64.wrap (i+1))))) False) False) False)
 (R (.done .normal (dPart xs q))):=by kernel_rfl
noncomputable def pPart:List Pat:=pats 26 [(1,.i .i64),(3,.p 0 0 0),(7,.h 1 0),(12,.i .i64),(13,.i .i64)]
def rPart:List RPat:=[.cells 5 164 [.i .i64,.i .i64,.i .i64,.i .i64,.l .u8],.ints 1 5 .u8]
def fillP (ds:List Int) (f i:Nat):Nat→List Int→List Int
 | _,[]=>[]
 | k,x::xs=>(match Nat.blt k i with | true=>x | false=>ds.getD (f+k) 0)::fillP ds f i (k+1) xs
theorem fill_set (ds:List Int) (f i:Nat):∀ (k:Nat) (xs:List Int) (j:Nat),k+j=i→j<xs.length→fillP ds f (i+1) k (xs.set j (ds.getD (f+i) 0))=fillP ds f i k xs
 | _,[],_,_,h=>by simp at h
 | k,x::xs,0,h,_=>by
   have e:k=i:=by omega
   subst e
   show (match Nat.blt k (k+1) with | true=>_ | false=>_)::_=(match Nat.blt k k with | true=>_ | false=>_)::_
   rw [show Nat.blt k (k+1)=true by simp [Nat.blt_eq],show Nat.blt k k=false by rw [← Bool.not_eq_true,Nat.blt_eq]; omega]
   congr 1
   exact fill_over ds f (k+1) k (k+1) xs (by omega) (by omega)
 | k,x::xs,j+1,h,hl=>by
   have h1:=fill_set ds f i (k+1) xs j (by omega) (by simpa using hl)
   show (match Nat.blt k (i+1) with | true=>x | false=>_)::fillP ds f (i+1) (k+1) (xs.set j (ds.getD (f+i) 0))=(match Nat.blt k i with | true=>x | false=>_)::_
   rw [h1,show Nat.blt k (i+1)=true by rw [Nat.blt_eq]; omega,show Nat.blt k i=true by rw [Nat.blt_eq]; omega]
where
 fill_over (ds:List Int) (f i i2:Nat):∀ (k:Nat) (xs:List Int),i≤k→i2≤k→fillP ds f i k xs=fillP ds f i2 k xs
 | _,[],_,_=>rfl
 | k,x::xs,h,h2=>by
   show (match Nat.blt k i with | true=>_ | false=>_)::_=(match Nat.blt k i2 with | true=>_ | false=>_)::_
   rw [fill_over ds f i i2 (k+1) xs (by omega) (by omega),show Nat.blt k i=false by rw [← Bool.not_eq_true,Nat.blt_eq]; omega,show Nat.blt k i2=false by rw [← Bool.not_eq_true,Nat.blt_eq]; omega]
theorem fill_end (ds:List Int) (f i:Nat):∀ (k:Nat) (xs:List Int),k+xs.length≤i→fillP ds f i k xs=xs
 | _,[],_=>rfl
 | k,x::xs,h=>by
   have h:k+(xs.length+1)≤i:=h
   show (match Nat.blt k i with | true=>_ | false=>_)::_=_
   rw [fill_end ds f i (k+1) xs (by omega),show Nat.blt k i=true by rw [Nat.blt_eq]; omega]
theorem fill_length (ds:List Int) (f i:Nat):∀ (k:Nat) (xs:List Int),(fillP ds f i k xs).length=xs.length
 | _,[]=>rfl
 | k,x::xs=>by show (fillP ds f i (k+1) xs).length+1=_; rw [fill_length ds f i (k+1) xs]; rfl
noncomputable def lPart:List Leaf × List (List Leaf)→Tr (NExit × St):=fun x=>match x with
 | ([.i fr,.n q,.i n,.i i],[[.i _,.i _,.i _,.i _,.l ds],[.l xs]])=>.must (n=(q:Int)∧q=xs.length∧0≤i∧i≤n∧0≤fr∧fr+n≤(ds.length:Int)∧fr+n<1000000) (.ret (.normal,dPart (fillP ds fr.toNat i.toNat 0 xs) q))
 | _=>.fail
def muPart:List Leaf × List (List Leaf)→Nat:=fun x=>match x with
 | ([.i _,.n _,.i n,.i i],_)=>(n - i).toNat
 | _=>0
theorem loop_part:LOk Tryz.prog GL 0 0 (bodyLoop fPart 0) (sumP pPart rPart lPart):=by
 refine sumP_ok (X:=XPart) kcPart mixed (LAll.none (by kernel_rfl)) [1,3,7,12,13] [7] _ _ _ muPart ?_
 rintro ⟨a,b⟩ R h
 unfold lPart at h
 split at h
 case h_2=>exact h.elim
 rename_i fr q n i m r k c ds xs he
 cases he
 have h1:=h.1
 have h2:R (.normal,dPart (fillP ds fr.toNat i.toNat 0 xs) q):=h.2
 clear h
 obtain ⟨rfl,hq,hi0,hin,hf,hd,hs⟩:=h1
 show (roundT XPart 0 [1,3,7,12,13] [7] (bodyLoop fPart 0) (sPart fr m r k c ds xs q q i)).run _
 rw [round_part]
 refine sel_by (fun hlt=>?_) fun hge=>?_
 ·have w1:IntKind.i64.wrap (fr+i)=fr+i:=by rw [IntKind.wrap_i64]; omega
  have w2:IntKind.i64.wrap (i+1)=i+1:=by rw [IntKind.wrap_i64]; omega
  rw [w1,w2]
  refine ⟨by omega,selT (dT hi0) (selT (dT hlt) (selT (dT (by omega)) ?_))⟩
  refine ⟨([.i fr,.n q,.i q,.i (i+1)],[[.i m,.i r,.i k,.i c,.l ds],[.l (setI xs (0+i.toNat) (ds.getD (fr+i).toNat 0) 0)]]),rfl,by show ((q:Int) - (i+1)).toNat<((q:Int) - i).toNat; omega,?_⟩
  rw [setI_set,Nat.zero_add]
  refine ⟨⟨rfl,by rw [List.length_set]; exact hq,by omega,by omega,hf,hd,hs⟩,?_⟩
  show R (.normal,dPart (fillP ds fr.toNat (i+1).toNat 0 (xs.set i.toNat (ds.getD (fr+i).toNat 0))) q)
  rw [show (i+1).toNat=i.toNat+1 by omega,show (fr+i).toNat=fr.toNat+i.toNat by omega,fill_set ds fr.toNat i.toNat 0 xs i.toNat (by omega) (by omega)]
  exact h2
 ·rw [fill_end ds fr.toNat i.toNat 0 xs (by omega)] at h2
  exact h2
noncomputable def t_part:Con:=fun args regs=>if regs.length=0 then nfun Tryz.prog GL cPart [(0,[1,3,7,12,13],sumP pPart rPart lPart)] fPart args regs else .fail
theorem k_part:Known Tryz.prog GL 125 t_part:=known_loops 0 Tryz.func125 rfl (by kernel_rfl) mixed kcPart (LAll.one (id:=0) (body:=bodyLoop fPart 0) (by kernel_rfl) rfl loop_part)
end hd
namespace hd
open Go Go.Nx pk
def oI (a b:Int):Int:=bits .or .i64 a b
def aI (a b:Int):Int:=bits .and .i64 a b
noncomputable def nb3 (s o:Int):Int:=oI (aI (shrv .i64 s 4) 7) (shlv .i64 o 3)
noncomputable def nb4 (s:Int):Int:=aI (shrv .i64 s 8) 15
noncomputable def nb5 (s t:Int):Int:=oI (aI (shrv .i64 s 12) 3) (shlv .i64 t 2)
theorem aI_15 (n:Int):aI n 15=n % 16:=and_mask64 n 4 (by decide)
theorem aI_7 (n:Int):aI n 7=n % 8:=and_mask64 n 3 (by decide)
theorem aI_3 (n:Int):aI n 3=n % 4:=and_mask64 n 2 (by decide)
theorem aI_1 (n:Int):aI n 1=n % 2:=and_mask64 n 1 (by decide)
theorem sh_4 (n:Int):shrv .i64 n 4=n / 16:=shrv64 n 4 (by decide)
theorem sh_8 (n:Int):shrv .i64 n 8=n / 256:=shrv64 n 8 (by decide)
theorem sh_12 (n:Int):shrv .i64 n 12=n / 4096:=shrv64 n 12 (by decide)
theorem sh_1 (n:Int):shrv .i64 n 1=n / 2:=shrv64 n 1 (by decide)
theorem sl_of (x:Int) (j:Nat) (hj:j<20) (h0:0≤x) (h1:x<65536):shlv .i64 x j=x * 2 ^ j:=by
 refine shlv64 x j (by omega) h0 ?_
 have:(2:Int) ^ j≤2 ^ 20:=by
  have h2:((2:Int) ^ j)=((2 ^ j:Nat):Int):=by simp
  rw [h2]; exact Int.ofNat_le.2 (Nat.le_trans (Nat.pow_le_pow_right (n:=2) (by decide) (show j≤20 by omega)) (by decide))
 calc x * 2 ^ j≤x * 2 ^ 20:=Int.mul_le_mul_of_nonneg_left this h0
  _<2 ^ 63:=by omega
theorem or_parts (y x:Int) (i:Nat) (hi:i<20) (hy0:0≤y) (hy:y<2 ^ i) (hx0:0≤x) (hx:x<65536):oI y (shlv .i64 x i)=y+x * 2 ^ i:=by
 rw [sl_of x i hi hx0 hx]
 have hp:(0:Int)<2 ^ i:=Int.pow_pos (by decide)
 refine or_join64 (x * 2 ^ i) y i (by omega) (Int.mul_emod_left _ _) (Int.mul_nonneg hx0 (Int.le_of_lt hp)) ?_ hy0 hy
 have:(2:Int) ^ i≤2 ^ 20:=by
  have h2:((2:Int) ^ i)=((2 ^ i:Nat):Int):=by simp
  rw [h2]; exact Int.ofNat_le.2 (Nat.le_trans (Nat.pow_le_pow_right (n:=2) (by decide) (show i≤20 by omega)) (by decide))
 calc x * 2 ^ i≤x * 2 ^ 20:=Int.mul_le_mul_of_nonneg_left this hx0
  _<2 ^ 63:=by omega
theorem or2 (y x:Int) (hy0:0≤y) (hy:y<4) (hx0:0≤x) (hx:x<65536):oI y (shlv .i64 x 2)=y+x * 4:=or_parts y x 2 (by decide) hy0 hy hx0 hx
theorem or3 (y x:Int) (hy0:0≤y) (hy:y<8) (hx0:0≤x) (hx:x<65536):oI y (shlv .i64 x 3)=y+x * 8:=or_parts y x 3 (by decide) hy0 hy hx0 hx
theorem nb3_eq (s o:Int) (h:0≤o∧o<2):nb3 s o=s / 16 % 8+o * 8:=by
 unfold nb3
 rw [sh_4,aI_7]
 exact or3 _ _ (by omega) (by omega) h.1 (by omega)
theorem nb5_eq (s t:Int) (h:0≤t∧t<4):nb5 s t=s / 4096 % 4+t * 4:=by
 unfold nb5
 rw [sh_12,aI_3]
 exact or2 _ _ (by omega) (by omega) h.1 (by omega)
theorem nb4_eq (s:Int):nb4 s=s / 256 % 16:=by unfold nb4; rw [sh_8,aI_15]
noncomputable def pageOf (x y:Int):Int:=oI x (shlv .i64 y 4)
noncomputable def subOf (a b c d:Int):Int:=oI (oI (oI a (shlv .i64 (aI b 7) 4)) (shlv .i64 c 8)) (shlv .i64 (aI d 3) 12)
end hd
namespace hd
open Go Go.Nx pk ln
noncomputable def c_option:FuncId→Option Con:=conOf [(203,tBitf)]
theorem kc_option:∀ f T,c_option f=some T→Known Tryz.prog GL f T:=(Knowns.cons kBitf .nil).get
noncomputable def t_option:Con:=fun args regs=>nfun Tryz.prog GL c_option [] Tryz.f168 args regs
theorem k_option:Known Tryz.prog GL 168 t_option:=known_inl Tryz.func168 rfl (by kernel_rfl) mixed kc_option (by kernel_rfl)
noncomputable def c_hread:FuncId→Option Con:=conOf [(125,t_part),(117,tOpn),(126,t_of),(168,t_option)]
theorem kc_hread:∀ f T,c_hread f=some T→Known Tryz.prog GL f T:=(Knowns.cons k_part (.cons kOpn (.cons k_of (.cons k_option .nil)))).get
noncomputable def X_hread:Cx:={P:=Tryz.prog,con:=c_hread,glob:=GL,m:=0,loops:=[]}
noncomputable def t_hread:Con:=fun args regs=>if regs.length=0 then nfun Tryz.prog GL c_hread [(0,[1,2,7,10,52],unroll X_hread 0 [1,2,7,10,52] [1,2,7] (bodyLoop Tryz.f120 0) 12)] Tryz.f120 args regs else .fail
theorem k_hread:Known Tryz.prog GL 120 t_hread:=known_loops 0 Tryz.func120 rfl (by kernel_rfl) mixed kc_hread (LAll.one (id:=0) (body:=bodyLoop Tryz.f120 0) (by kernel_rfl) rfl (unroll_ok (X:=X_hread) kc_hread mixed (LAll.none (by kernel_rfl)) [1,2,7,10,52] [1,2,7] 12))
noncomputable def t_samep:Con:=fun args regs=>nfun Tryz.prog GL (fun _=>Option.none) [] Tryz.f14 args regs
theorem k_samep:Known Tryz.prog GL 14 t_samep:=known_inl Tryz.func14 rfl (by kernel_rfl) mixed con_none (by kernel_rfl)
theorem samep_tree (a b c x y z:Int) (R:Out→Prop):(t_samep [.ag [.i .i64 a,.i .i64 b,.i .i64 c],.ag [.i .i64 x,.i .i64 y,.i .i64 z]] []).run R=sel (a==x) (sel (b==y) (R (oB (c==z))) (R (oB false))) (R (oB false)):=by kernel_rfl
noncomputable def G (ds:List Int) (j:Nat):Int:=getN (ds.getD j 0)
def mustP (ds:List Int) (f n:Nat):Prop:=((n:Int)=(n:Int)∧n=(List.replicate n (0:Int)).length∧0≤(0:Int)∧(0:Int)≤(n:Int)∧0≤(f:Int)∧(f:Int)+(n:Int)≤(ds.length:Int)∧(f:Int)+(n:Int)<1000000)
end hd
namespace dec
open Go Go.Nx pk ac sto hd pge
structure Px where
 mg:Int
 row:Int
 kd:Int
 cd:Int
 ds:List Int
def Px.nv (p:Px):NV:=.ag [.i .i64 p.mg,.i .i64 p.row,.i .i64 p.kd,.i .i64 p.cd,.l .u8 p.ds]
noncomputable def t_hrC:Con:=softT [] [0] [] [] 0 t_hread
theorem k_hrC:Known Tryz.prog GL 120 t_hrC:=k_hread.soft [] [0] [] [] 0
def h8 (ds:List Int):List Int:=[ds.getD 0 0,ds.getD 1 0,ds.getD 2 0,ds.getD 3 0,ds.getD 4 0,ds.getD 5 0,ds.getD 6 0,ds.getD 7 0]
noncomputable def nb (ds:List Int) (k:Nat):Int:=getN (ds.getD k 0)
noncomputable def flV (ds:List Int):Int:=bits .or .i64 (bits .or .i64 (bits .or .i64 (shrv .i64 (nb ds 3) 3) (shlv .i64 (shrv .i64 (nb ds 5) 2) 1)) (shlv .i64 (nb ds 6) 3)) (shlv .i64 (nb ds 7) 7)
noncomputable def cV (ds:List Int) (k:Int):Bool:=bits .and .i64 (shrv .i64 (flV ds) k) 1==1
noncomputable def hdV (m:Int) (ds:List Int):Hx:=⟨m,bits .or .i64 (nb ds 0) (shlv .i64 (nb ds 1) 4),
 bits .or .i64 (bits .or .i64 (bits .or .i64 (nb ds 2) (shlv .i64 (bits .and .i64 (nb ds 3) 7) 4)) (shlv .i64 (nb ds 4) 8)) (shlv .i64 (bits .and .i64 (nb ds 5) 3) 12),
 cV ds 0,cV ds 1,cV ds 2,cV ds 3,cV ds 4,cV ds 5,cV ds 6,cV ds 7,cV ds 8,cV ds 9,cV ds 10,
 IntKind.i64.wrap (IntKind.i64.wrap (IntKind.i64.wrap (4 * bI (cV ds 8))+IntKind.i64.wrap (2 * bI (cV ds 9)))+bI (cV ds 10))⟩
def hxZ:Hx:=⟨0,0,0,false,false,false,false,false,false,false,false,false,false,false,0⟩
def txV (ds:List Int):List Int:=fillP ds 8 0 0 (List.replicate 32 0)
theorem hr_tree (m r c:Int) (ds:List Int) (R:Out→Prop):(t_hrC [.ag [.i .i64 m,.i .i64 r,.i .i64 1,.i .i64 c,.l .u8 ds]] []).run R =
 (((8:Int)=((8:Nat):Int)∧(8:Nat)=(List.replicate 8 (0:Int)).length∧(0:Int)≤0∧(0:Int)≤8∧(0:Int)≤0∧(0:Int)+8≤(ds.length:Int)∧(0:Int)+8<1000000)∧sel ((h8 ds).all getB)
   (((32:Int)=((32:Nat):Int)∧(32:Nat)=(List.replicate 32 (0:Int)).length∧(0:Int)≤0∧(0:Int)≤32∧(0:Int)≤8∧(8:Int)+32≤(ds.length:Int)∧(8:Int)+32<1000000)∧(32=32∧R ⟨.tu [.ag (hdV m ds).nc,.c (.l .u8 (txV ds)),.c .en],[]⟩))
   (R ⟨.tu [.ag hxZ.nc,.c .sn,.c (.e eBit)],[]⟩)):=by kernel_rfl
noncomputable def hdOk (ds:List Int):Bool:=(h8 ds).all getB
noncomputable def oHr (m:Int) (ds:List Int):Out:=⟨.tu [.ag (hdV m ds).nc,.c (.l .u8 (txV ds)),.c .en],[]⟩
def oHe:Out:=⟨.tu [.ag hxZ.nc,.c .sn,.c (.e eBit)],[]⟩
noncomputable def tHr:Con:=fun args regs=>match args,regs with
 | [.ag [.i _ m,.i _ r,.i _ _,.i _ c,.l _ ds]],[]=>.must (args=[.ag [.i .i64 m,.i .i64 r,.i .i64 1,.i .i64 c,.l .u8 ds]]∧ds.length=40) (.br (hdOk ds) (.ret (oHr m ds)) (.ret oHe))
 | _,_=>.fail
attribute [local irreducible] t_hrC in
theorem kHr:Known Tryz.prog GL 120 tHr:=by
 refine k_hrC.less fun args regs R h=>Box.out ?_
 unfold tHr at h
 split at h
 case h_2=>exact h.elim
 rename_i _ m _ r _ _ _ c _ ds
 obtain ⟨⟨h1,h2⟩,h⟩:=h
 rw [h1]
 refine Box.of_eq (hr_tree m r c ds R) ⟨⟨rfl,rfl,by omega,by omega,by omega,by omega,by omega⟩,?_⟩
 have h:sel (hdOk ds) (R (oHr m ds)) (R oHe):=h
 unfold hdOk at h
 cases hk:(h8 ds).all getB with
 | true=>rw [hk] at h; exact sT rfl ⟨⟨rfl,rfl,by omega,by omega,by omega,by omega,by omega⟩,rfl,h⟩
 | false=>rw [hk] at h; exact sF rfl h
def pxE (k:Nat):Out:=⟨.tu [.ag [.i .i64 0,.i .i64 0,.i .i64 0,.i .i64 0,.sn],.c (.e k)],[]⟩
inductive PkR where
 | bad (k:Nat)
 | ok (p:Px)
noncomputable def rwB (bs:List Int):Int:=rowOf (getN (bs.getD 0 0)) (getN (bs.getD 1 0))
noncomputable def pkV (bs:List Int):PkR:=
 match decide (bs.length=42) with
 | false=>.bad eLen
 | true=>match getB (bs.getD 0 0)&&getB (bs.getD 1 0) with
   | false=>.bad eBit
   | true=>match decide (kindF (rwB bs)=0) with
     | true=>.bad eKnd
     | false=>match decide (rwB bs ≥ 26) with
       | false=>.ok ⟨magOf (getN (bs.getD 0 0)),rwB bs,kindF (rwB bs),0,bs.drop 2⟩
       | true=>match getB ((bs.drop 2).getD 0 0) with
         | true=>.ok ⟨magOf (getN (bs.getD 0 0)),rwB bs,kindF (rwB bs),getN ((bs.drop 2).getD 0 0),(bs.drop 2).drop 1⟩
         | false=>.bad eBit
def PkR.out:PkR→Out
 | .bad k=>pxE k
 | .ok p=>⟨.tu [p.nv,.c .en],[]⟩
noncomputable def t_rdC:Con:=softT [] [0] [] [] 0 tRead
theorem k_rdC:Known Tryz.prog GL 73 t_rdC:=kRead.soft [] [0] [] [] 0
theorem soft_bad (k:Nat) (R:Out→Prop):(((frzT [0] (trimL [] (oPE k))).bind fun o=>Tr.ret ⟨(nilO [] [] o).res,(nilO [] [] o).rg.take 0⟩)).run R=R (pxE k):=by kernel_rfl
theorem soft_ok (m r k c:Int) (ds:List Int) (R:Out→Prop):(((frzT [0] (trimL [] (oPk m r k c ds))).bind fun o=>Tr.ret ⟨(nilO [] [] o).res,(nilO [] [] o).rg.take 0⟩)).run R=(ds.length=ds.length∧R ⟨.tu [(⟨m,r,k,c,ds⟩:Px).nv,.c .en],[]⟩):=by kernel_rfl
noncomputable def tRdS:Con:=fun args regs=>match args,regs with
 | [.c (.l .u8 bs)],[]=>.ret (pkV bs).out
 | [.c .sn],[]=>.ret (pxE eLen)
 | _,_=>.fail
theorem sel_d {x:Bool} {p q:Prop} (h:match x with | true=>p | false=>q):sel x p q:=by
 cases x with
 | true=>exact sT rfl h
 | false=>exact sF rfl h
theorem kRdS:Known Tryz.prog GL 73 tRdS:=by
 refine k_rdC.less fun args regs R h=>?_
 unfold tRdS at h
 unfold t_rdC softT
 rw [Tr.run_bind]
 split at h
 case h_3=>exact h.elim
 case h_2=>
  show (fun o=>_) (oPE eLen)
  exact (soft_bad eLen R).mpr h
 case h_1 bs=>
  show (Tr.br (decide (bs.length=42)) (bodyT (bs.getD 0 0) (bs.getD 1 0) (bs.drop 2)) (Tr.ret (oPE eLen))).run _
  have h:R (pkV bs).out:=h
  unfold pkV at h
  refine sel_d ?_
  cases h1:decide (bs.length=42) with
  | false=>rw [h1] at h; exact (soft_bad eLen R).mpr h
  | true=>
    rw [h1] at h
    unfold bodyT
    refine sel_d ?_
    cases h2:(getB (bs.getD 0 0)&&getB (bs.getD 1 0)) with
    | false=>rw [h2] at h; exact (soft_bad eBit R).mpr h
    | true=>
      rw [h2] at h
      unfold rwB at h
      refine sel_d ?_
      cases h3:decide (kindF (rowOf (getN (bs.getD 0 0)) (getN (bs.getD 1 0)))=0) with
      | true=>rw [h3] at h; exact (soft_bad eKnd R).mpr h
      | false=>
        rw [h3] at h
        refine sel_d ?_
        cases h4:decide (rowOf (getN (bs.getD 0 0)) (getN (bs.getD 1 0)) ≥ 26) with
        | false=>rw [h4] at h; exact (soft_ok _ _ _ _ _ R).mpr ⟨rfl,h⟩
        | true=>
          rw [h4] at h
          refine sel_d ?_
          cases h5:getB ((bs.drop 2).getD 0 0) with
          | true=>rw [h5] at h; exact (soft_ok _ _ _ _ _ R).mpr ⟨rfl,h⟩
          | false=>rw [h5] at h; exact (soft_bad eBit R).mpr h
end dec
namespace mac
open Go Go.Nx pk ac sto pge dec
structure Mv where
 opn:Bool
 p:Pg
 h:Hx
 t:List Int
 bg:Bool
 rg:Int
 td:Bool
def mvZ:Mv:=⟨false,pgZ,hxZ,[],false,0,false⟩
def mgOf (m:Mv):Mg:=⟨m.opn,m.p,.lr K3 m.p.ex,⟨m.h.mg,m.h.pn,m.h.sb,m.h.rows,m.h.op⟩,.l .u8 m.t,m.bg,m.rg,m.td⟩
structure Ix where
 a:Int
 b:Int
 e:Int
 n:Int
 o:Int
 d:Int
 h:Int
 m:Int
 s:Int
 z:ByteArray
 td:Bool
def Ix.nc (i:Ix):List NC:=[.i .i64 i.a,.i .i64 i.b,.i .i64 i.e,.i .i64 i.n,.i .i64 i.o,.i .i64 i.d,.i .i64 i.h,.i .i64 i.m,.i .i64 i.s,.s i.z,.b i.td]
def ixZ:Ix:=⟨0,0,0,0,0,0,0,0,0,ByteArray.empty,false⟩
structure Mc where
 v:Nat→Mv
 inf:Ix
 st:Sp
def upd (v:Nat→Mv) (g:Nat) (m:Mv) (k:Nat):Mv:=match Nat.beq k g with
 | true=>m
 | false=>v k
theorem upd_same (v:Nat→Mv) (g:Nat) (m:Mv):upd v g m g=m:=by unfold upd; rw [Nat.beq_refl]
theorem upd_other {v:Nat→Mv} {g k:Nat} {m:Mv} (h:k≠g):upd v g m k=v k:=by unfold upd; rw [show Nat.beq k g=false by rw [← Bool.not_eq_true,Nat.beq_eq]; exact h]
noncomputable def mcG (r:Nat) (v:Nat→Mv) (inf:Ix):Reg:=mcReg r (fun k=>mgOf (v k)) inf.nc
noncomputable def stM (s:Sto) (x:NC):Reg:=stReg s.most 2 x s.pin.1 s.pin.2.1 s.pin.2.2 s.pd
noncomputable def inM (M:Mc):List Reg:=[mcG 1 M.v M.inf,stM M.st.sto (.hz 3 M.st.sto.l.length),mpReg M.st.sto.m,ordReg (kyRows M.st.sto.l)]
noncomputable def outM (M:Mc):List (Option Reg):=[some (mcG 1 M.v M.inf),some (stM M.st.sto (.hz 8 M.st.sto.l.length)),some (mpReg M.st.sto.m),none,none,none,none,none,some (ordReg (kyRows M.st.sto.l))]
def mpP (x:Sp):Sp:={x with L:=(ents x.L).map fun e=>ofRow e.2}
theorem mpP_eq (x:Sp):mpP x=x:=by unfold mpP; rw [ents_back]
noncomputable def c_en:FuncId→Option Con:=conOf [(169,tPu)]
theorem kc_en:∀ f T,c_en f=some T→Known Tryz.prog GL f T:=(Knowns.cons kPu.known .nil).get
noncomputable def t_en0:Con:=fun args regs=>nfun Tryz.prog GL c_en [] Tryz.f121 args regs
theorem k_en0:KnownF Tryz.prog GL 121 t_en0:=known_inlF Tryz.func121 rfl (by kernel_rfl) mixed kc_en (by kernel_rfl)
noncomputable def t_enC (g:Nat):Con:=softT [] [] [] [(0,9 * g+5,0,.lr K3 [])] 9 (canonT 8 [(1,2,ordReg [])] none t_en0)
theorem k_enC (g:Nat):Known Tryz.prog GL 121 (t_enC g):=(k_en0.canon 8 [(1,2,ordReg [])] none).soft [] [] [] [(0,9 * g+5,0,.lr K3 [])] 9
def Mv.shut (m:Mv):Mv:={m with opn:=false,p:=pgZ}
noncomputable def enT (M:Mc) (g:Nat) (R:Out→Prop):Prop:=
 sel (M.v g).opn (([NV.c (.p 0 0 0),.ag (kyNC (kyP (M.v g).p)),pgV (M.v g).p]=[NV.c (.p 0 0 0),.ag (kyNC (kyP (M.v g).p)),pgV (M.v g).p])∧(inP M.st=inP (mpP M.st)∧(mpP M.st).ok)∧(mpP M.st).L.length<1000000∧
   R ⟨.tu [],outM {M with v:=upd M.v g (Mv.shut (M.v g)),st:=Sp.put (M.v g).p (mpP M.st)}⟩)
  (R ⟨.tu [],outM M⟩)
theorem en_tree1 (M:Mc) (R:Out→Prop):(t_enC 1 [.c (.p 0 0 0),.c (.i .i64 1)] (inM M)).run R=enT M 1 R:=by kernel_rfl
theorem en_tree2 (M:Mc) (R:Out→Prop):(t_enC 2 [.c (.p 0 0 0),.c (.i .i64 2)] (inM M)).run R=enT M 2 R:=by kernel_rfl
theorem en_tree3 (M:Mc) (R:Out→Prop):(t_enC 3 [.c (.p 0 0 0),.c (.i .i64 3)] (inM M)).run R=enT M 3 R:=by kernel_rfl
theorem en_tree4 (M:Mc) (R:Out→Prop):(t_enC 4 [.c (.p 0 0 0),.c (.i .i64 4)] (inM M)).run R=enT M 4 R:=by kernel_rfl
theorem en_tree5 (M:Mc) (R:Out→Prop):(t_enC 5 [.c (.p 0 0 0),.c (.i .i64 5)] (inM M)).run R=enT M 5 R:=by kernel_rfl
theorem en_tree6 (M:Mc) (R:Out→Prop):(t_enC 6 [.c (.p 0 0 0),.c (.i .i64 6)] (inM M)).run R=enT M 6 R:=by kernel_rfl
theorem en_tree7 (M:Mc) (R:Out→Prop):(t_enC 7 [.c (.p 0 0 0),.c (.i .i64 7)] (inM M)).run R=enT M 7 R:=by kernel_rfl
theorem en_tree8 (M:Mc) (R:Out→Prop):(t_enC 8 [.c (.p 0 0 0),.c (.i .i64 8)] (inM M)).run R=enT M 8 R:=by kernel_rfl
def clsAt (l:List Seg) (i:Nat):List NC:=match l[i]? with
 | some (.cells xs)=>xs
 | _=>[]
def rcsAt (l:List Seg) (i:Nat):List (List Sc):=match l[i]? with
 | some (.recs _ _ xs)=>xs
 | _=>[]
def insAt (l:List Seg) (i:Nat):List Int:=match l[i]? with
 | some (.ints _ _ xs)=>xs
 | _=>[]
def ncI:Option NC→Int
 | some (.i _ n)=>n
 | _=>0
def ncB:Option NC→Bool
 | some (.b x)=>x
 | _=>false
def ncL:Option NC→List Int
 | some (.l _ xs)=>xs
 | _=>[]
def ncR:Option NC→List (List Sc)
 | some (.lr _ xs)=>xs
 | _=>[]
def ncS:Option NC→ByteArray
 | some (.s z)=>z
 | _=>ByteArray.empty
def flg (c:List (List Sc)) (k:Nat):Bool:=((c.getD k []).getD 0 (.i 0)).t
def rdMv (l:List Seg) (k o:Nat):Mv:=
 ⟨ncB (clsAt l (9 * k))[o]?,⟨ncI (clsAt l (9 * k))[o+1]?,ncI (clsAt l (9 * k))[o+2]?,ncI (clsAt l (9 * k))[o+3]?,rcsAt l (9 * k+1),ncI (clsAt l (9 * k+2))[(0:Nat)]?,insAt l (9 * k+3),rcsAt l (9 * k+4),ncR (clsAt l (9 * k+5))[(0:Nat)]?,rcsAt l (9 * k+6),ncB (clsAt l (9 * k+7))[(0:Nat)]?,ncI (clsAt l (9 * k+7))[(1:Nat)]?⟩,
  ⟨ncI (clsAt l (9 * k+7))[(2:Nat)]?,ncI (clsAt l (9 * k+7))[(3:Nat)]?,ncI (clsAt l (9 * k+7))[(4:Nat)]?,flg (rcsAt l (9 * k+8)) 0,flg (rcsAt l (9 * k+8)) 1,flg (rcsAt l (9 * k+8)) 2,flg (rcsAt l (9 * k+8)) 3,flg (rcsAt l (9 * k+8)) 4,flg (rcsAt l (9 * k+8)) 5,flg (rcsAt l (9 * k+8)) 6,flg (rcsAt l (9 * k+8)) 7,flg (rcsAt l (9 * k+8)) 8,flg (rcsAt l (9 * k+8)) 9,flg (rcsAt l (9 * k+8)) 10,ncI (clsAt l (9 * k+9))[(0:Nat)]?⟩,
  ncL (clsAt l (9 * k+9))[(1:Nat)]?,ncB (clsAt l (9 * k+9))[(2:Nat)]?,ncI (clsAt l (9 * k+9))[(3:Nat)]?,ncB (clsAt l (9 * k+9))[(4:Nat)]?⟩
def rdV (l:List Seg):Nat→Mv
 | 0=>rdMv l 0 1
 | 1=>rdMv l 1 5
 | 2=>rdMv l 2 5
 | 3=>rdMv l 3 5
 | 4=>rdMv l 4 5
 | 5=>rdMv l 5 5
 | 6=>rdMv l 6 5
 | 7=>rdMv l 7 5
 | 8=>rdMv l 8 5
 | _=>mvZ
def rdIx (l:List Seg):Ix:=⟨ncI (clsAt l 81)[(5:Nat)]?,ncI (clsAt l 81)[(6:Nat)]?,ncI (clsAt l 81)[(7:Nat)]?,ncI (clsAt l 81)[(8:Nat)]?,ncI (clsAt l 81)[(9:Nat)]?,ncI (clsAt l 81)[(10:Nat)]?,ncI (clsAt l 81)[(11:Nat)]?,ncI (clsAt l 81)[(12:Nat)]?,ncI (clsAt l 81)[(13:Nat)]?,ncS (clsAt l 81)[(14:Nat)]?,ncB (clsAt l 81)[(15:Nat)]?⟩
def rdMc:List Reg→Option Mc
 | [⟨_,_,.sg l⟩,⟨_,_,.cells [.i _ most,.m _,.hz _ _,.i _ a,.i _ b,.i _ c,.b pd]⟩,⟨_,_,.mp _ _ m⟩,⟨_,_,.recs _ _⟩]=>some ⟨rdV l,rdIx l,⟨most,(a,b,c),pd,m.map fun e=>ofRow e.2⟩⟩
 | _=>none
def bk (M:Mc):Mc:=⟨rdV (mcSegs 1 (fun k=>mgOf (M.v k)) M.inf.nc),rdIx (mcSegs 1 (fun k=>mgOf (M.v k)) M.inf.nc),mpP M.st⟩
def Mc.far (M:Mc):Prop:=∀ k,9≤k→M.v k=mvZ
theorem rdV_eq (M:Mc) (h:M.far):rdV (mcSegs 1 (fun k=>mgOf (M.v k)) M.inf.nc)=M.v:=by
 funext k
 match k with
 | 0=>rfl
 | 1=>rfl
 | 2=>rfl
 | 3=>rfl
 | 4=>rfl
 | 5=>rfl
 | 6=>rfl
 | 7=>rfl
 | 8=>rfl
 | n+9=>exact (h (n+9) (by omega)).symm
theorem bk_eq (M:Mc) (h:M.far):bk M=M:=by
 unfold bk
 rw [rdV_eq M h,mpP_eq]
 rfl
def Mc.ok (M:Mc):Prop:=M.far∧M.st.ok
def onM (regs:List Reg) (f:Mc→Tr Out):Tr Out:=
 match rdMc regs with
 | some M=>.must (regs=inM M∧M.ok) (f M)
 | none=>.fail
theorem onM_elim {regs:List Reg} {f:Mc→Tr Out} {R:Out→Prop} (h:(onM regs f).run R):∃ M,regs=inM M∧M.ok∧(f M).run R:=by
 unfold onM at h
 split at h
 ·exact ⟨_,h.1.1,h.1.2,h.2⟩
 ·exact h.elim
def Mc.endM (M:Mc) (g:Nat):Mc:=match (M.v g).opn with
 | true=>{M with v:=upd M.v g (Mv.shut (M.v g)),st:=Sp.put (M.v g).p M.st}
 | false=>M
noncomputable def oEn (M:Mc):Out:=⟨.tu [],outM M⟩
noncomputable def tEn:Con:=fun args regs=>match args with
 | [.c (.p 0 0 0),.c (.i _ g)]=>onM regs fun M=>.must (args=[.c (.p 0 0 0),.c (.i .i64 g)]∧(1≤g∧g≤8)∧M.st.L.length<1000000) (.ret (oEn (M.endM g.toNat)))
 | _=>.fail
theorem en_in {M:Mc} {g:Nat} {R:Out→Prop} (hM:M.ok) (hl:M.st.L.length<1000000) (h:R (oEn (M.endM g))):enT M g R:=by
 unfold enT
 rw [mpP_eq]
 unfold Mc.endM at h
 cases ho:(M.v g).opn with
 | true=>rw [ho] at h; exact sT rfl ⟨rfl,⟨rfl,hM.2⟩,hl,h⟩
 | false=>rw [ho] at h; exact sF rfl h
theorem Known_eight {P:Program} {gl:List Nat} {f:FuncId} {T:Nat→Con} {T' : Con} (hk:∀ g,Known P gl f (T g)) (h:∀ args regs R,(T' args regs).run R→∃ g,(T g args regs).run R):Known P gl f T':=
 ⟨(hk 0).goes,fun args regs R hr=>by obtain ⟨g,hg⟩:=h args regs R hr; exact (hk g).sound args regs R hg⟩
attribute [local irreducible] t_enC in
theorem kEn:Known Tryz.prog GL 121 tEn:=by
 refine Known_eight k_enC fun args regs R h=>?_
 unfold tEn at h
 split at h
 case h_2=>exact h.elim
 rename_i g
 obtain ⟨M,rfl,hM,⟨h1,hg,hl⟩,h⟩:=onM_elim h
 rw [h1]
 have hg:g=1∨g=2∨g=3∨g=4∨g=5∨g=6∨g=7∨g=8:=by omega
 rcases hg with rfl | rfl | rfl | rfl | rfl | rfl | rfl | rfl
 ·exact ⟨1,(en_tree1 M R).mpr (en_in hM hl h)⟩
 ·exact ⟨2,(en_tree2 M R).mpr (en_in hM hl h)⟩
 ·exact ⟨3,(en_tree3 M R).mpr (en_in hM hl h)⟩
 ·exact ⟨4,(en_tree4 M R).mpr (en_in hM hl h)⟩
 ·exact ⟨5,(en_tree5 M R).mpr (en_in hM hl h)⟩
 ·exact ⟨6,(en_tree6 M R).mpr (en_in hM hl h)⟩
 ·exact ⟨7,(en_tree7 M R).mpr (en_in hM hl h)⟩
 ·exact ⟨8,(en_tree8 M R).mpr (en_in hM hl h)⟩
noncomputable def t_hfill:Con:=fun args regs=>nfun Tryz.prog GL (fun _=>Option.none) [] Tryz.f122 args regs
theorem k_hfill:Known Tryz.prog GL 122 t_hfill:=known_inl Tryz.func122 rfl (by kernel_rfl) mixed con_none (by kernel_rfl)
noncomputable abbrev f_hd:=Tryz.f74
noncomputable def c_hd:FuncId→Option Con:=conOf [(120,tHr),(121,tEn),(122,t_hfill),(79,tGe),(123,tNw)]
theorem kc_hd:∀ f T,c_hd f=some T→Known Tryz.prog GL f T:=(Knowns.cons kHr (.cons kEn (.cons k_hfill (.cons kGe (.cons kNw .nil))))).get
noncomputable def X_hd:Cx:={P:=Tryz.prog,con:=c_hd,glob:=GL,m:=4,loops:=[]}
def pxReg (p:Px):Reg:=⟨5,164,.cells [.i .i64 p.mg,.i .i64 p.row,.i .i64 p.kd,.i .i64 p.cd,.l .u8 p.ds]⟩
def hxReg (h:Hx):Reg:=⟨15,82,.cells h.nc⟩
noncomputable def rgA (j:Bool) (M:Mc):List (Option Reg):=match j with
 | false=>[some (mcG 1 M.v M.inf),some (stM M.st.sto (.hz 3 M.st.sto.l.length)),some (mpReg M.st.sto.m),some (ordReg (kyRows M.st.sto.l))]
 | true=>[some (mcG 1 M.v M.inf),some (stM M.st.sto (.hz 4 M.st.sto.l.length)),some (mpReg M.st.sto.m),none,some (ordReg (kyRows M.st.sto.l))]
def nmA (j:Bool):Nat:=match j with
 | false=>4
 | true=>5
noncomputable def s_hd (j:Bool) (M:Mc) (p:Px) (h:Hx) (t:List Int) (x:Nat) (i:Int):St:={fr:=frame 98 [(0,.v (.c (.p 0 0 0))),(3,.v (.c (.p (nmA j) 0 0))),(5,.v (.c (.p (nmA j+1) 0 0))),(6,.v (.c (.l .u8 t))),(8,.v (.c (.q 0 1 1081 x 0))),(9,.v (.c (.i .i64 i)))],rg:=rgA j M++[some (pxReg p),some (hxReg h)]}
noncomputable def e_hd (j:Bool) (M:Mc) (h:Hx) (t:List Int) (x:Nat):St:={fr:=frame 98 [(0,.v (.c (.p 0 0 0))),(5,.v (.c (.p (nmA j) 0 0))),(6,.v (.c (.l .u8 t))),(8,.v (.c (.q 0 1 1081 x 0)))],rg:=rgA j M++[some (hxReg h)]}
noncomputable def enN (M:Mc) (p:Px) (h:Hx) (t:List Int) (x:Nat) (i:Int) (R:RO→Prop):Prop:=
 (inM M=inM (bk M)∧(bk M).ok)∧([NV.c (.p 0 0 0),.c (.i .i64 i)]=[NV.c (.p 0 0 0),.c (.i .i64 i)]∧(1≤i∧i≤8)∧(bk M).st.L.length<1000000)∧R (.next (s_hd true ((bk M).endM i.toNat) p h t x (IntKind.i64.wrap (i+1))))
noncomputable def rndH (j:Bool) (M:Mc) (p:Px) (h:Hx) (t:List Int) (x:Nat) (i:Int) (R:RO→Prop):Prop:=
 sel (decide (i≤8)) (sel h.c7 (enN M p h t x i R) (sel (i==p.mg) (enN M p h t x i R) (R (.next (s_hd j M p h t x (IntKind.i64.wrap (i+1))))))) (R (.done .normal (e_hd j M h t x)))
theorem round_hdF (M:Mc) (p:Px) (h:Hx) (t:List Int) (x:Nat) (i:Int) (R:RO→Prop):(roundT X_hd 0 [0,3,5,6,8,9] [0,5,6,8] (bodyLoop f_hd 0) (s_hd false M p h t x i)).run R=rndH false M p h t x i R:=by kernel_rfl
theorem round_hdT (M:Mc) (p:Px) (h:Hx) (t:List Int) (x:Nat) (i:Int) (R:RO→Prop):(roundT X_hd 0 [0,3,5,6,8,9] [0,5,6,8] (bodyLoop f_hd 0) (s_hd true M p h t x i)).run R=rndH true M p h t x i R:=by kernel_rfl
end mac
namespace sto
open Go Go.Nx pk ac
theorem vic_mem {x:Sp} {k:Ky} (h:k∈x.L.map kyP):x.vic k∈x.L.map kyP:=by
 unfold Sp.vic vicK
 cases hf:(x.L.map kyP).find? (goesK x.sto k) with
 | none=>exact h
 | some y=>exact List.mem_of_find?_eq_some hf
theorem drop_lt {x:Sp} {k:Ky} (h:k∈x.L.map kyP):(x.drop k).L.length<x.L.length:=by
 obtain ⟨p,hp,rfl⟩:=List.mem_map.1 h
 show (x.L.filter (nk (kyP p))).length<x.L.length
 rw [List.length_filter_lt_length_iff_exists]
 refine ⟨p,hp,?_⟩
 unfold nk
 rw [kyEq_iff.2 rfl]
 decide
theorem put_len {x:Sp} {p:Pg} (hl:(x.L.length:Int)≤x.most):((x.put p).L.length:Int)≤x.most:=by
 have h1:=drop_len x (kyP p)
 have h2:((x.drop (kyP p)).push p).L.length=(x.drop (kyP p)).L.length+1:=by show ((x.drop (kyP p)).L++[p]).length=_; rw [List.length_append]; rfl
 have hm:kyP p∈((x.drop (kyP p)).push p).L.map kyP:=by
  show kyP p∈((x.drop (kyP p)).L++[p]).map kyP
  rw [List.map_append]
  simp
 unfold Sp.put
 cases hc:decide ((((x.drop (kyP p)).push p).L.length:Int)≤x.most) with
 | true=>exact of_decide_eq_true hc
 | false=>
   have h3:=drop_lt (vic_mem (x:=(x.drop (kyP p)).push p) hm)
   show ((((x.drop (kyP p)).push p).drop (((x.drop (kyP p)).push p).vic (kyP p))).L.length:Int)≤x.most
   omega
theorem put_most (x:Sp) (p:Pg):(x.put p).most=x.most:=by
 unfold Sp.put
 split <;> rfl
theorem put_mem {x:Sp} {p q:Pg} (h:q∈(x.put p).L):q∈x.L∨q=p:=by
 have key:q∈((x.drop (kyP p)).push p).L→q∈x.L∨q=p:=fun h=>by
  have h:q∈(x.drop (kyP p)).L++[p]:=h
  rcases List.mem_append.1 h with h | h
  ·exact .inl (List.mem_filter.1 h).1
  ·exact .inr (List.mem_singleton.1 h)
 unfold Sp.put at h
 split at h
 ·exact key h
 ·exact key (List.mem_filter.1 h).1
end sto
namespace mac
open Go Go.Nx pk ac sto pge dec
def fits (p:Pg):Prop:=p.ex.length≤208
structure Mc.good (M:Mc):Prop where
 far:M.far
 nd:(M.st.L.map kyP).Nodup
 m1:1≤M.st.most
 m8:M.st.most≤800
 len:(M.st.L.length:Int)≤M.st.most
 fit:∀ p∈M.st.L,fits p
 vfit:∀ k,fits (M.v k).p
 txt:∀ k,(M.v k).t.length≤1000
theorem Mc.good.ok {M:Mc} (h:M.good):M.ok:=⟨h.far,by have:=h.len; have:=h.m8; omega,h.nd⟩
theorem Mc.good.lt {M:Mc} (h:M.good):M.st.L.length<1000000:=by have:=h.len; have:=h.m8; omega
theorem Mc.good.bk {M:Mc} (h:M.good):bk M=M:=bk_eq M h.far
theorem fits_z:fits pgZ:=by unfold fits pgZ; decide
theorem Mc.good.upd {M:Mc} (h:M.good) {g:Nat} {m:Mv} (hg:g<9) (h1:fits m.p) (h2:m.t.length≤1000):Mc.good {M with v:=upd M.v g m}:=by
 refine ⟨fun k hk=>?_,h.nd,h.m1,h.m8,h.len,h.fit,fun k=>?_,fun k=>?_⟩
 ·exact (upd_other (by omega)).trans (h.far k hk)
 ·by_cases e:k=g
  ·subst e
   show fits (mac.upd M.v k m k).p
   rw [upd_same]; exact h1
  ·show fits (mac.upd M.v g m k).p
   rw [upd_other e]; exact h.vfit k
 ·by_cases e:k=g
  ·subst e
   show (mac.upd M.v k m k).t.length≤1000
   rw [upd_same]; exact h2
  ·show (mac.upd M.v g m k).t.length≤1000
   rw [upd_other e]; exact h.txt k
theorem Mc.good.put {M:Mc} (h:M.good) {p:Pg} (hp:fits p):Mc.good {M with st:=M.st.put p}:=by
 refine ⟨h.far,put_nodup h.nd,?_,?_,?_,fun q hq=>?_,h.vfit,h.txt⟩
 ·show 1≤(M.st.put p).most
  rw [put_most]; exact h.m1
 ·show (M.st.put p).most≤800
  rw [put_most]; exact h.m8
 ·show ((M.st.put p).L.length:Int)≤(M.st.put p).most
  rw [put_most]; exact put_len h.len
 ·rcases put_mem hq with h1 | rfl
  ·exact h.fit q h1
  ·exact hp
theorem Mc.good.endM {M:Mc} (h:M.good) {g:Nat} (hg:g<9):(M.endM g).good:=by
 unfold Mc.endM
 split
 ·exact (h.put (h.vfit g)).upd hg fits_z (h.txt g)
 ·exact h
def Mc.ends (c:Bool) (g:Int):Nat→Nat→Mc→Mc
 | 0,_,M=>M
 | n+1,i,M=>Mc.ends c g n (i+1) (match c||(i:Int)==g with
   | true=>M.endM i
   | false=>M)
def jEnd (c:Bool) (g:Int):Nat→Nat→Bool→Bool
 | 0,_,j=>j
 | n+1,i,j=>jEnd c g n (i+1) (match c||(i:Int)==g with
   | true=>true
   | false=>j)
theorem jEnd_one {c:Bool} {g:Int} (h:1≤g∧g≤8):jEnd c g 8 1 false=true:=by
 have hg:g=1∨g=2∨g=3∨g=4∨g=5∨g=6∨g=7∨g=8:=by omega
 rcases hg with rfl | rfl | rfl | rfl | rfl | rfl | rfl | rfl <;> cases c <;> rfl
theorem ends_good {c:Bool} {g:Int}:∀ (n i:Nat) (M:Mc),i+n≤9→M.good→(Mc.ends c g n i M).good
 | 0,_,_,_,h=>h
 | n+1,i,M,hi,h=>by
   unfold Mc.ends
   refine ends_good n (i+1) _ (by omega) ?_
   split
   ·exact h.endM (by omega)
   ·exact h
structure AH where
 j:Bool
 M:Mc
 p:Px
 h:Hx
 t:List Int
 x:Nat
 i:Nat
def preH (y:AH) (R:NExit × St→Prop):Prop:=((1≤y.i∧y.i≤9)∧y.M.good)∧R (.normal,e_hd (jEnd y.h.c7 y.p.mg (9 - y.i) y.i y.j) (Mc.ends y.h.c7 y.p.mg (9 - y.i) y.i y.M) y.h y.t y.x)
def rdPx:Reg→Option Px
 | ⟨_,_,.cells [.i _ a,.i _ b,.i _ c,.i _ d,.l _ ds]⟩=>some ⟨a,b,c,d,ds⟩
 | _=>none
def rdHr:Reg→Option Hx
 | ⟨_,_,.cells xs⟩=>rdHx xs
 | _=>none
def rdH (s:St):Option (Mc × Px × Hx × List Int × Nat):=match s.fr[(6:Nat)]?,s.fr[(8:Nat)]?,s.rg with
 | some (.v (.c (.l _ t))),some (.v (.c (.q 0 1 1081 x 0))),[some g0,some g1,some g2,some g3,some q,some r]=>(match rdMc [g0,g1,g2,g3],rdPx q,rdHr r with
   | some M,some p,some h=>some (M,p,h,t,x)
   | _,_,_=>none)
 | _,_,_=>none
noncomputable def l_hd (s:St):Tr (NExit × St):=match rdH s with
 | some (M,p,h,t,x)=>.must (s=s_hd false M p h t x 1∧M.good∧1≤p.mg∧p.mg≤8) (.ret (.normal,e_hd true (Mc.ends h.c7 p.mg 8 1 M) h t x))
 | none=>.fail
theorem enN_of {M:Mc} {p:Px} {h:Hx} {t:List Int} {x i:Nat} {R:RO→Prop} (hM:M.good) (h1:1≤i) (h8:i≤8) (hR:R (.next (s_hd true (M.endM i) p h t x ((i+1:Nat):Int)))):enN M p h t x i R:=by
 unfold enN
 rw [hM.bk,Int.toNat_natCast,show IntKind.i64.wrap ((i:Int)+1)=((i+1:Nat):Int) by rw [IntKind.wrap_i64]; omega]
 exact ⟨⟨rfl,hM.ok⟩,⟨rfl,by omega,hM.lt⟩,hR⟩
theorem rndH_of {j:Bool} {M:Mc} {p:Px} {h:Hx} {t:List Int} {x i:Nat} {R:RO→Prop} (hM:M.good) (h1:1≤i) (h9:i≤9)
  (hn:i≤8→(h.c7||(i:Int)==p.mg)=true→R (.next (s_hd true (M.endM i) p h t x ((i+1:Nat):Int)))) (ho:i≤8→(h.c7||(i:Int)==p.mg)=false→R (.next (s_hd j M p h t x ((i+1:Nat):Int))))
  (hd:i=9→R (.done .normal (e_hd j M h t x))):rndH j M p h t x i R:=by
 unfold rndH
 by_cases h8:i≤8
 ·refine sT (decide_eq_true (by omega)) ?_
  rw [show IntKind.i64.wrap ((i:Int)+1)=((i+1:Nat):Int) by rw [IntKind.wrap_i64]; omega]
  cases h7:h.c7 with
  | true=>exact sT rfl (enN_of hM h1 h8 (hn h8 (by rw [h7]; rfl)))
  | false=>
    refine sF rfl ?_
    cases hg:((i:Int)==p.mg) with
    | true=>exact sT rfl (enN_of hM h1 h8 (hn h8 (by rw [h7,hg]; rfl)))
    | false=>exact sF rfl (ho h8 (by rw [h7,hg]; rfl))
 ·exact sF (decide_eq_false (by omega)) (hd (by omega))
attribute [local irreducible] roundT in
theorem loop_hd:LOk Tryz.prog GL 4 0 (bodyLoop f_hd 0) l_hd:=by
 refine loop_ok (X:=X_hd) kc_hd mixed (LAll.none (by kernel_rfl)) [0,3,5,6,8,9] [0,5,6,8] (fun y:AH=>s_hd y.j y.M y.p y.h y.t y.x y.i) (fun y=>9 - y.i) preH ?_ ?_
 ·intro s R hh
  unfold l_hd at hh
  split at hh
  case h_2=>exact hh.elim
  rename_i M p h t x hrd
  obtain ⟨⟨hs,hM,hg⟩,hR⟩:=hh
  refine ⟨⟨false,M,p,h,t,x,1⟩,hs,⟨⟨Nat.le_refl _,by show 1≤9; omega⟩,hM⟩,?_⟩
  simp only
  rw [jEnd_one hg]
  exact hR
 ·intro y R hh
  obtain ⟨j,M,p,h,t,x,i⟩:=y
  obtain ⟨⟨⟨h1,h9⟩,hM⟩,hR⟩:=hh
  simp only at h1 h9 hM hR
  have key:rndH j M p h t x i fun o=>match o with
     | .next s=>∃ b:AH,s=s_hd b.j b.M b.p b.h b.t b.x b.i∧9 - b.i<9 - i∧preH b R
     | .done e s=>R (e,s):=by
   refine rndH_of hM h1 h9 (fun h8 hc=>?_) (fun h8 hc=>?_) fun he=>?_
   ·have e:9 - i=(9 - (i+1))+1:=by omega
    rw [e] at hR
    simp only [jEnd,Mc.ends,hc] at hR
    exact ⟨⟨true,M.endM i,p,h,t,x,i+1⟩,rfl,by simp only; omega,⟨⟨by simp only; omega,by simp only; omega⟩,hM.endM (by omega)⟩,hR⟩
   ·have e:9 - i=(9 - (i+1))+1:=by omega
    rw [e] at hR
    simp only [jEnd,Mc.ends,hc] at hR
    exact ⟨⟨j,M,p,h,t,x,i+1⟩,rfl,by simp only; omega,⟨⟨by simp only; omega,by simp only; omega⟩,hM⟩,hR⟩
   ·subst he
    exact hR
  cases j with
  | false=>exact Tr.run_mono _ (fun o ho=>ho) (Box.of_eq (round_hdF M p h t x i _) key).out
  | true=>exact Tr.run_mono _ (fun o ho=>ho) (Box.of_eq (round_hdT M p h t x i _) key).out
noncomputable def t_hd0:Con:=fun args regs=>if regs.length=4 then nfun Tryz.prog GL c_hd [(0,[0,3,5,6,8,9],l_hd)] f_hd args regs else .fail
theorem k_hd0:KnownF Tryz.prog GL 74 t_hd0:=known_loopsF 4 Tryz.func74 rfl (by kernel_rfl) mixed kc_hd (LAll.one (id:=0) (body:=bodyLoop f_hd 0) (by kernel_rfl) rfl loop_hd)
noncomputable def t_hdC:Con:=softT [] [] [] [] 9 (canonT 8 [(1,2,ordReg [])] none t_hd0)
theorem k_hdC:Known Tryz.prog GL 74 t_hdC:=(k_hd0.canon 8 [(1,2,ordReg [])] none).soft [] [] [] [] 9
def Mc.headed (M:Mc) (g:Nat) (h:Hx) (t:List Int):Mc:={M with v:=upd M.v g {M.v g with h:=h,t:=t,bg:=true}}
noncomputable def opP (x:Sp) (h:Hx) (t:List Int):Pg:=newP h t (x.get (h.mg,h.pn,h.sb)).1 (x.get (h.mg,h.pn,h.sb)).2
def Mc.set (M:Mc) (g:Nat) (p:Pg):Mc:={M with v:=upd M.v g {M.v g with opn:=true,p:=p}}
noncomputable def oMe (M:Mc) (e:NC):Out:=⟨.v (.c e),outM M⟩
noncomputable def hdT2 (M2:Mc) (g:Nat) (h:Hx) (t:List Int) (R:Out→Prop):Prop:=
 sel (h.pn==255) (R (oMe M2 .en))
  ((inP M2.st=inP (mpP M2.st)∧(mpP M2.st).ok)∧(some (stM M2.st.sto (.hz 4 M2.st.sto.l.length))=some (stM (mpP M2.st).sto (.hz 4 (mpP M2.st).sto.l.length)))∧(some (mpReg M2.st.sto.m)=some (mpReg (mpP M2.st).sto.m))∧(some (ordReg (kyRows M2.st.sto.l))=some (ordReg (kyRows (mpP M2.st).sto.l)))∧([NV.ag h.nc,.c (.l .u8 t),pgV ((mpP M2.st).get (h.mg,h.pn,h.sb)).1,.c (.b ((mpP M2.st).get (h.mg,h.pn,h.sb)).2)]=[NV.ag h.nc,.c (.l .u8 t),pgV ((mpP M2.st).get (h.mg,h.pn,h.sb)).1,.c (.b ((mpP M2.st).get (h.mg,h.pn,h.sb)).2)]∧((mpP M2.st).get (h.mg,h.pn,h.sb)).1.ex.length≤1000000∧t.length≤1000000∧∀ b∈t,0≤b∧b<256)∧
    sel (M2.v g).td (sel ((opP (mpP M2.st) h t).df==0) (R (oMe (M2.set g {opP (mpP M2.st) h t with df:=IntKind.i64.wrap (1+(M2.v g).rg)}) .en)) (R (oMe (M2.set g (opP (mpP M2.st) h t)) .en))) (R (oMe (M2.set g (opP (mpP M2.st) h t)) .en)))
noncomputable def hdT (M:Mc) (g:Nat) (row cd:Int) (ds:List Int) (R:Out→Prop):Prop:=
 ([(⟨(g:Int),row,1,cd,ds⟩:Px).nv]=[(⟨(g:Int),row,1,cd,ds⟩:Px).nv]∧ds.length=40)∧sel (hdOk ds)
   ((s_hd false (M.headed g (hdV g ds) (txV ds)) ⟨g,row,1,cd,ds⟩ (hdV g ds) (txV ds) g 1=s_hd false (bk (M.headed g (hdV g ds) (txV ds))) ⟨g,row,1,cd,ds⟩ (hdV g ds) (txV ds) g 1∧(bk (M.headed g (hdV g ds) (txV ds))).good∧1≤(g:Int)∧(g:Int)≤8)∧
     hdT2 (Mc.ends (hdV g ds).c7 g 8 1 (bk (M.headed g (hdV g ds) (txV ds)))) g (hdV g ds) (txV ds) R)
   (R (oMe M (.e eBit)))
theorem hd_tree1 (M:Mc) (row cd:Int) (ds:List Int) (R:Out→Prop):(t_hdC [.c (.p 0 0 0),(⟨1,row,1,cd,ds⟩:Px).nv] (inM M)).run R=hdT M 1 row cd ds R:=by kernel_rfl
theorem hd_tree2 (M:Mc) (row cd:Int) (ds:List Int) (R:Out→Prop):(t_hdC [.c (.p 0 0 0),(⟨2,row,1,cd,ds⟩:Px).nv] (inM M)).run R=hdT M 2 row cd ds R:=by kernel_rfl
theorem hd_tree3 (M:Mc) (row cd:Int) (ds:List Int) (R:Out→Prop):(t_hdC [.c (.p 0 0 0),(⟨3,row,1,cd,ds⟩:Px).nv] (inM M)).run R=hdT M 3 row cd ds R:=by kernel_rfl
theorem hd_tree4 (M:Mc) (row cd:Int) (ds:List Int) (R:Out→Prop):(t_hdC [.c (.p 0 0 0),(⟨4,row,1,cd,ds⟩:Px).nv] (inM M)).run R=hdT M 4 row cd ds R:=by kernel_rfl
theorem hd_tree5 (M:Mc) (row cd:Int) (ds:List Int) (R:Out→Prop):(t_hdC [.c (.p 0 0 0),(⟨5,row,1,cd,ds⟩:Px).nv] (inM M)).run R=hdT M 5 row cd ds R:=by kernel_rfl
theorem hd_tree6 (M:Mc) (row cd:Int) (ds:List Int) (R:Out→Prop):(t_hdC [.c (.p 0 0 0),(⟨6,row,1,cd,ds⟩:Px).nv] (inM M)).run R=hdT M 6 row cd ds R:=by kernel_rfl
theorem hd_tree7 (M:Mc) (row cd:Int) (ds:List Int) (R:Out→Prop):(t_hdC [.c (.p 0 0 0),(⟨7,row,1,cd,ds⟩:Px).nv] (inM M)).run R=hdT M 7 row cd ds R:=by kernel_rfl
theorem hd_tree8 (M:Mc) (row cd:Int) (ds:List Int) (R:Out→Prop):(t_hdC [.c (.p 0 0 0),(⟨8,row,1,cd,ds⟩:Px).nv] (inM M)).run R=hdT M 8 row cd ds R:=by kernel_rfl
end mac
namespace mac
open Go Go.Nx pk ac sto pge dec hd
theorem fillP_mem {ds:List Int} {f:Nat} {b:Int}:∀ (k:Nat) (xs:List Int),b∈fillP ds f 0 k xs→∃ j,b=ds.getD j 0
 | _,[],h=>by cases h
 | k,x::xs,h=>by
   have h:b∈(match Nat.blt k 0 with | true=>x | false=>ds.getD (f+k) 0)::fillP ds f 0 (k+1) xs:=h
   rcases List.mem_cons.1 h with h | h
   ·rw [show Nat.blt k 0=false by rw [← Bool.not_eq_true,Nat.blt_eq]; omega] at h
    exact ⟨f+k,h⟩
   ·exact fillP_mem (k+1) xs h
theorem getD_by {ds:List Int} (h:∀ b∈ds,0≤b∧b<256) (j:Nat):0≤ds.getD j 0∧ds.getD j 0<256:=by
 rw [List.getD_eq_getElem?_getD]
 cases e:ds[j]? with
 | none=>exact ⟨by decide,by decide⟩
 | some x=>exact h x (List.mem_of_getElem? e)
theorem txV_by {ds:List Int} (h:∀ b∈ds,0≤b∧b<256):∀ b∈dec.txV ds,0≤b∧b<256:=fun b hb=>by
 obtain ⟨j,rfl⟩:=fillP_mem 0 _ hb
 exact getD_by h j
theorem txV_len (ds:List Int):(dec.txV ds).length=32:=by
 unfold dec.txV
 rw [fill_length]
 rfl
theorem get_fits {x:Sp} (h:∀ p∈x.L,fits p) (k:Ky):fits (x.get k).1:=by
 unfold Sp.get
 split
 ·rename_i p hp
  exact h p (List.mem_of_find?_eq_some hp)
 ·exact fits_z
theorem newP_ex (h:Hx) (t:List Int) (p:Pg) (had:Bool):(newP h t p had).ex=(match had&&!h.c0 with | true=>p | false=>pgZ).ex:=rfl
theorem opP_fits {x:Sp} (hx:∀ p∈x.L,fits p) (h:Hx) (t:List Int):fits (opP x h t):=by
 unfold fits opP
 rw [newP_ex]
 split
 ·exact get_fits hx _
 ·exact fits_z
theorem Mc.good.set {M:Mc} (h:M.good) {g:Nat} (hg:g<9) {p:Pg} (hp:fits p):(M.set g p).good:=h.upd hg hp (h.txt g)
theorem Mc.good.headed {M:Mc} (h:M.good) {g:Nat} (hg:g<9) {hx:Hx} {t:List Int} (ht:t.length≤1000):(M.headed g hx t).good:=h.upd hg (h.vfit g) ht
def dfP (m:Mv) (p:Pg):Pg:=match m.td&&(p.df==0) with
 | true=>{p with df:=IntKind.i64.wrap (1+m.rg)}
 | false=>p
theorem dfP_fits {m:Mv} {p:Pg} (h:fits p):fits (dfP m p):=by
 unfold dfP
 split <;> exact h
noncomputable def Mc.open' (M2:Mc) (g:Nat) (h:Hx) (t:List Int):Mc:=match h.pn==255 with
 | true=>M2
 | false=>M2.set g (dfP (M2.v g) (opP M2.st h t))
noncomputable def Mc.hdM (M:Mc) (g:Nat) (ds:List Int):Mc:=Mc.open' (Mc.ends (hdV g ds).c7 g 8 1 (M.headed g (hdV g ds) (dec.txV ds))) g (hdV g ds) (dec.txV ds)
theorem hdM_good {M:Mc} (h:M.good) {g:Nat} (hg:1≤g∧g≤8) (ds:List Int):(M.hdM g ds).good:=by
 have h1:(Mc.ends (hdV g ds).c7 g 8 1 (M.headed g (hdV g ds) (dec.txV ds))).good:=ends_good 8 1 _ (by omega) (h.headed (by omega) (by rw [txV_len]; omega))
 unfold Mc.hdM Mc.open'
 split
 ·exact h1
 ·exact h1.set (by omega) (dfP_fits (opP_fits h1.fit _ _))
theorem hdT2_of {M2:Mc} {g:Nat} {h:Hx} {t:List Int} {R:Out→Prop} (hM:M2.good) (ht:t.length≤1000) (hb:∀ b∈t,0≤b∧b<256) (hR:R (oMe (Mc.open' M2 g h t) .en)):hdT2 M2 g h t R:=by
 unfold hdT2
 rw [mpP_eq]
 unfold Mc.open' at hR
 cases hc:(h.pn==255) with
 | true=>rw [hc] at hR; exact sT rfl hR
 | false=>
   rw [hc] at hR
   have hf:=get_fits hM.fit (h.mg,h.pn,h.sb)
   unfold fits at hf
   refine sF rfl ⟨⟨rfl,hM.ok.2⟩,rfl,rfl,rfl,⟨rfl,by omega,by omega,hb⟩,?_⟩
   have hR:R (oMe (M2.set g (dfP (M2.v g) (opP M2.st h t))) .en):=hR
   unfold dfP at hR
   cases ht:(M2.v g).td with
   | false=>rw [ht] at hR; exact sF rfl hR
   | true=>
     rw [ht] at hR
     refine sT rfl ?_
     cases hd:((opP M2.st h t).df==0) with
     | true=>rw [hd] at hR; exact sT rfl hR
     | false=>rw [hd] at hR; exact sF rfl hR
theorem hdT_of {M:Mc} {g:Nat} {row cd:Int} {ds:List Int} {R:Out→Prop} (hM:M.good) (hg:1≤g∧g≤8) (hl:ds.length=40) (hb:∀ b∈ds,0≤b∧b<256) (hR:sel (hdOk ds) (R (oMe (M.hdM g ds) .en)) (R (oMe M (.e eBit)))):hdT M g row cd ds R:=by
 unfold hdT
 refine ⟨⟨rfl,hl⟩,?_⟩
 have h1:(M.headed g (hdV g ds) (dec.txV ds)).good:=hM.headed (by omega) (by rw [txV_len]; omega)
 rcases sel_iff.1 hR with ⟨c,hR⟩ | ⟨c,hR⟩
 ·refine sT c ?_
  rw [h1.bk]
  exact ⟨⟨rfl,h1,by omega,by omega⟩,hdT2_of (ends_good 8 1 _ (by omega) h1) (by rw [txV_len]; omega) (txV_by hb) hR⟩
 ·exact sF c hR
noncomputable def tHd:Con:=fun args regs=>match args with
 | [.c (.p 0 0 0),.ag [.i _ g,.i _ row,.i _ _,.i _ cd,.l _ ds]]=>onM regs fun M=>.must (args=[.c (.p 0 0 0),(⟨g,row,1,cd,ds⟩:Px).nv]∧(1≤g∧g≤8)∧M.good∧ds.length=40∧∀ b∈ds,0≤b∧b<256) (.br (hdOk ds) (.ret (oMe (M.hdM g.toNat ds) .en)) (.ret (oMe M (.e eBit))))
 | _=>.fail
attribute [local irreducible] t_hdC in
theorem kHd:Known Tryz.prog GL 74 tHd:=by
 refine k_hdC.less fun args regs R h=>?_
 unfold tHd at h
 split at h
 case h_2=>exact h.elim
 rename_i _ g _ row _ _ _ cd _ ds
 obtain ⟨M,rfl,hM,⟨h1,hg,hgd,hl,hb⟩,h⟩:=onM_elim h
 rw [h1]
 have hg:g=1∨g=2∨g=3∨g=4∨g=5∨g=6∨g=7∨g=8:=by omega
 rcases hg with rfl | rfl | rfl | rfl | rfl | rfl | rfl | rfl
 ·exact (hd_tree1 M row cd ds R).mpr (hdT_of hgd (by omega) hl hb h)
 ·exact (hd_tree2 M row cd ds R).mpr (hdT_of hgd (by omega) hl hb h)
 ·exact (hd_tree3 M row cd ds R).mpr (hdT_of hgd (by omega) hl hb h)
 ·exact (hd_tree4 M row cd ds R).mpr (hdT_of hgd (by omega) hl hb h)
 ·exact (hd_tree5 M row cd ds R).mpr (hdT_of hgd (by omega) hl hb h)
 ·exact (hd_tree6 M row cd ds R).mpr (hdT_of hgd (by omega) hl hb h)
 ·exact (hd_tree7 M row cd ds R).mpr (hdT_of hgd (by omega) hl hb h)
 ·exact (hd_tree8 M row cd ds R).mpr (hdT_of hgd (by omega) hl hb h)
end mac
namespace mac
open Go Go.Nx pk ac sto pge dec
def KI:Nat:=1000
def psOf:Code→Array Tmp
 | .rangeFunc _ ps _ _=>ps
 | _=>#[]
def asOf:Code→Code
 | .rangeFunc _ _ a _=>a
 | _=>.skip
def bdOf:Code→Code
 | .rangeFunc _ _ _ b=>b
 | _=>.skip
noncomputable def t_all:Con:=fun args regs=>nfun Tryz.prog GL (fun _=>Option.none) [] Tryz.f81 args regs
theorem k_all:Known Tryz.prog GL 81 t_all:=known_inl Tryz.func81 rfl (by kernel_rfl) mixed con_none (by kernel_rfl)
noncomputable abbrev f_it:=Tryz.f137
noncomputable def cIt:FuncId→Option Con:=conOf [(33,tKe)]
theorem kcIt:∀ f T,cIt f=some T→Known Tryz.prog GL f T:=(Knowns.cons kKe.known .nil).get
noncomputable abbrev f_fd:=Tryz.f36
noncomputable def rgF:Code:=theRange f_fd 0
end mac
namespace ham
open Go Go.Nx
theorem mixed:Tryz.prog.follows .mixedOrders=true:=by kernel_rfl
noncomputable def tOnes:Con:=fun args regs=>nfun Tryz.prog [] (fun _=>Option.none) [] Tryz.f235 args regs
theorem kOnes:Known Tryz.prog [] 235 tOnes:=known_inl Tryz.func235 rfl (by kernel_rfl) mixed con_none (by kernel_rfl)
def parTo {m:Nat} (v:BitVec m):Nat→Bool
 | 0=>false
 | n+1=>parTo v n ^^ v.getLsbD n
def pcTo (x:Nat):Nat→Nat
 | 0=>0
 | n+1=>pcTo x n+(x / 2 ^ n) % 2
noncomputable def tab:ByteArray:=⟨((List.range 256).map fun i=>UInt8.ofNat (pcTo i 8)).toArray⟩
noncomputable def pop (w:Int):Int:=IntKind.i64.wrap (IntKind.u8.wrap (IntKind.u8.wrap (IntKind.u8.wrap (byteAt tab (shrv .u32 w 24).toNat+byteAt tab (bits .and .u32 (shrv .u32 w 16) 255).toNat)+byteAt tab (bits .and .u32 (shrv .u32 w 8) 255).toNat)+byteAt tab (bits .and .u32 w 255).toNat))
theorem ones_tree (w:Int) (R:Out→Prop):(tOnes [.c (.i .u32 w)] []).run R =
  sel (decide (0≤shrv .u32 w 24)) (sel (decide (shrv .u32 w 24<(tab.size:Int)))
   (sel (decide (0≤bits .and .u32 (shrv .u32 w 16) 255)) (sel (decide (bits .and .u32 (shrv .u32 w 16) 255<(tab.size:Int)))
    (sel (decide (0≤bits .and .u32 (shrv .u32 w 8) 255)) (sel (decide (bits .and .u32 (shrv .u32 w 8) 255<(tab.size:Int)))
     (sel (decide (0≤bits .and .u32 w 255)) (sel (decide (bits .and .u32 w 255<(tab.size:Int)))
      (R ⟨.v (.c (.i .i64 (pop w))),[]⟩) False) False) False) False) False) False) False) False:=by
 kernel_rfl
def parN (x:Nat):Nat→Bool
 | 0=>false
 | n+1=>parN x n ^^ x.testBit n
theorem pc_par (x:Nat):∀ n,pcTo x n % 2=(parN x n).toNat
 | 0=>rfl
 | n+1=>by
   have ih:=pc_par x n
   simp only [pcTo,parN,Nat.testBit_eq_decide_div_mod_eq]
   cases h:parN x n <;> rw [h] at ih <;> by_cases h2:x / 2 ^ n % 2=1 <;> simp [h2,Bool.toNat] at ih ⊢ <;> omega
theorem tab_at:∀ i<256,byteAt tab i=(pcTo i 8:Int):=by decide +kernel
theorem pc_le (x:Nat):∀ n,pcTo x n≤n
 | 0=>Nat.le_refl _
 | n+1=>by have:=pc_le x n; simp only [pcTo]; omega
theorem pop_eq (v:BitVec 32):pop (u32 v)=((pcTo (v >>> 24).toNat 8+pcTo ((v >>> 16) &&& 255#32).toNat 8+pcTo ((v >>> 8) &&& 255#32).toNat 8+pcTo (v &&& 255#32).toNat 8:Nat):Int):=by
 have s24:shrv .u32 (u32 v) 24=u32 (v >>> 24):=shr_u32 v 24 (by decide)
 have s16:shrv .u32 (u32 v) 16=u32 (v >>> 16):=shr_u32 v 16 (by decide)
 have s8:shrv .u32 (u32 v) 8=u32 (v >>> 8):=shr_u32 v 8 (by decide)
 have an:∀ x:BitVec 32,bits .and .u32 (u32 x) 255=u32 (x &&& 255#32):=fun x=>by
  rw [bits_u32,bvop_and,Nx.ofInt_u32]; simp
 have lt:∀ x:BitVec 32,(x &&& 255#32).toNat<256:=fun x=>by
  rw [BitVec.toNat_and]
  exact Nat.lt_of_le_of_lt Nat.and_le_right (by decide)
 have lt24:(v >>> 24).toNat<256:=by
  rw [BitVec.toNat_ushiftRight,Nat.shiftRight_eq_div_pow]
  have:=v.isLt
  omega
 have un:∀ x:BitVec 32,(u32 x).toNat=x.toNat:=fun x=>by simp [u32]
 unfold pop
 rw [s24,s16,s8,an,an,an,un,un,un,un,tab_at _ lt24,tab_at _ (lt _),tab_at _ (lt _),tab_at _ (lt _)]
 have h1:=pc_le (v >>> 24).toNat 8
 have h2:=pc_le ((v >>> 16) &&& 255#32).toNat 8
 have h3:=pc_le ((v >>> 8) &&& 255#32).toNat 8
 have h4:=pc_le (v &&& 255#32).toNat 8
 rw [IntKind.wrap_u8,IntKind.wrap_u8,IntKind.wrap_u8,IntKind.wrap_i64]
 omega
theorem parN_bv {m:Nat} (x:Nat) (v:BitVec m) (k:Nat):∀ n,(∀ i<n,x.testBit i=v.getLsbD (k+i))→parTo v (k+n)=(parTo v k ^^ parN x n)
 | 0,_=>by simp [parN]
 | n+1,h=>by
   have ih:=parN_bv x v k n fun i hi=>h i (by omega)
   show parTo v (k+n+1)=_
   simp only [parTo,parN,ih,h n (by omega),Bool.xor_assoc]
theorem pop_par (v:BitVec 32):pop (u32 v) % 2=((parTo v 32).toNat:Int):=by
 have b3:∀ i<8,(v >>> 24).toNat.testBit i=v.getLsbD (24+i):=fun i hi=>by
  rw [BitVec.testBit_toNat,BitVec.getLsbD_ushiftRight]
 have bb:∀ k,∀ i<8,((v >>> k) &&& 255#32).toNat.testBit i=v.getLsbD (k+i):=fun k i hi=>by
  rw [BitVec.testBit_toNat,BitVec.getLsbD_and,BitVec.getLsbD_ushiftRight]
  have:(255#32).getLsbD i=true:=by
   match i,hi with
   | 0,_=>rfl
   | 1,_=>rfl
   | 2,_=>rfl
   | 3,_=>rfl
   | 4,_=>rfl
   | 5,_=>rfl
   | 6,_=>rfl
   | 7,_=>rfl
  rw [this,Bool.and_true]
 have b0:∀ i<8,(v &&& 255#32).toNat.testBit i=v.getLsbD (0+i):=fun i hi=>by
  have:=bb 0 i hi
  simpa using this
 have e8:=parN_bv _ v 0 8 b0
 have e16:=parN_bv _ v 8 8 (bb 8)
 have e24:=parN_bv _ v 16 8 (bb 16)
 have e32:=parN_bv _ v 24 8 b3
 have z:parTo v 0=false:=rfl
 rw [z,Bool.false_xor] at e8
 have p0:=pc_par (v &&& 255#32).toNat 8
 have p1:=pc_par ((v >>> 8) &&& 255#32).toNat 8
 have p2:=pc_par ((v >>> 16) &&& 255#32).toNat 8
 have p3:=pc_par (v >>> 24).toNat 8
 have h32:parTo v 32=((((parN (v &&& 255#32).toNat 8) ^^ (parN ((v >>> 8) &&& 255#32).toNat 8)) ^^ (parN ((v >>> 16) &&& 255#32).toNat 8)) ^^ (parN (v >>> 24).toNat 8)):=by
  rw [← e8,← e16,← e24]; exact e32
 rw [pop_eq,h32]
 generalize parN (v &&& 255#32).toNat 8=q0 at *
 generalize parN ((v >>> 8) &&& 255#32).toNat 8=q1 at *
 generalize parN ((v >>> 16) &&& 255#32).toNat 8=q2 at *
 generalize parN (v >>> 24).toNat 8=q3 at *
 generalize pcTo (v &&& 255#32).toNat 8=c0 at *
 generalize pcTo ((v >>> 8) &&& 255#32).toNat 8=c1 at *
 generalize pcTo ((v >>> 16) &&& 255#32).toNat 8=c2 at *
 generalize pcTo (v >>> 24).toNat 8=c3 at *
 cases q0 <;> cases q1 <;> cases q2 <;> cases q3 <;> simp only [Bool.toNat_true,Bool.toNat_false] at p0 p1 p2 p3 <;> simp <;> omega
theorem in_byte {x:BitVec 32} (hx:x.toNat<256) {A:Prop} (hA:A):sel (decide (0≤u32 x)) (sel (decide (u32 x<256)) A False) False:=by
 have h0:decide (0≤u32 x)=true:=by simp [u32]
 have h1:decide (u32 x<256)=true:=by
  rw [decide_eq_true_eq]
  unfold u32
  omega
 rw [h0,h1]
 exact hA
noncomputable def tPop:Con:=fun args regs=>match args,regs with
 | [.c (.i .u32 w)],[]=>.must (0≤w∧w<4294967296) (.ret ⟨.v (.c (.i .i64 (pop w))),[]⟩)
 | _,_=>.fail
theorem kPop:Known Tryz.prog [] 235 tPop:=by
 refine kOnes.less fun args regs R h=>?_
 unfold tPop at h
 split at h
 case h_2=>exact h.elim
 rename_i w
 obtain ⟨⟨h0,h1⟩,hR⟩:=h
 rw [ones_tree]
 have hw:=fit_u32 h0 h1
 generalize BitVec.ofInt 32 w=v at hw
 subst hw
 have s24:shrv .u32 (u32 v) 24=u32 (v >>> 24):=shr_u32 v 24 (by decide)
 have s16:shrv .u32 (u32 v) 16=u32 (v >>> 16):=shr_u32 v 16 (by decide)
 have s8:shrv .u32 (u32 v) 8=u32 (v >>> 8):=shr_u32 v 8 (by decide)
 have an:∀ x:BitVec 32,bits .and .u32 (u32 x) 255=u32 (x &&& 255#32):=fun x=>by
  rw [bits_u32,bvop_and,Nx.ofInt_u32]; simp
 have lt:∀ x:BitVec 32,(x &&& 255#32).toNat<256:=fun x=>by
  rw [BitVec.toNat_and]
  exact Nat.lt_of_le_of_lt Nat.and_le_right (by decide)
 have lt24:(v >>> 24).toNat<256:=by
  rw [BitVec.toNat_ushiftRight,Nat.shiftRight_eq_div_pow]
  have:=v.isLt
  omega
 have sz:(tab.size:Int)=256:=by decide +kernel
 rw [s24,s16,s8,an,an,an,sz]
 refine in_byte lt24 ?_
 refine in_byte (lt (v >>> 16)) ?_
 refine in_byte (lt (v >>> 8)) ?_
 refine in_byte (lt v) ?_
 exact hR
noncomputable abbrev fCheck:=Tryz.f207
noncomputable def cOnes:FuncId→Option Con:=conOf [(235,tPop)]
theorem kcOnes:∀ f T,cOnes f=some T→Known Tryz.prog [] f T:=(Knowns.cons kPop .nil).get
noncomputable def oCheck (w s:Int):St:={fr:=frame 24 [(0,.v (.c (.i .u32 w))),(4,.v (.c (.i .i64 s)))],rg:=[]}
noncomputable def isSet (w:Int) (p:Nat):Bool:=bits .and .u32 (shrv .u32 w ((p - 1:Nat):Int)) 1==1
noncomputable def syn (w:Int):Int→Nat→Int
 | s,0=>s
 | s,n+1=>syn w (if isSet w (23 - n) then bits .xor .i64 s ((23 - n:Nat):Int) else s) n
noncomputable def XCheck:Cx:={P:=Tryz.prog,con:=cOnes,glob:=[],m:=0,loops:=[]}
theorem round_check (w s p:Int) (R:RO→Prop):(roundT XCheck 0 [0,4,5] [0,4] (bodyLoop fCheck 0) {fr:=frame 24 [(0,.v (.c (.i .u32 w))),(4,.v (.c (.i .i64 s))),(5,.v (.c (.i .i64 p)))],rg:=[]}).run R =
  sel (decide (p<24))
   (sel (decide (0≤IntKind.i64.wrap (p - 1)))
    (sel (bits BinOp.and IntKind.u32 (shrv IntKind.u32 w (IntKind.i64.wrap (p - 1))) 1==1)
     (R (RO.next {fr:=frame 24 [(0,.v (.c (.i .u32 w))),(4,.v (.c (.i .i64 (bits BinOp.xor IntKind.i64 s p)))),(5,.v (.c (.i .i64 (IntKind.i64.wrap (p+1)))))],rg:=[]}))
     (R (RO.next {fr:=frame 24 [(0,.v (.c (.i .u32 w))),(4,.v (.c (.i .i64 s))),(5,.v (.c (.i .i64 (IntKind.i64.wrap (p+1)))))],rg:=[]})))
    False)
   (R (RO.done NExit.normal (oCheck w s))):=by
 kernel_rfl
theorem wrap_small (n:Int) (h0:0≤n) (h1:n<1000):IntKind.i64.wrap n=n:=by rw [IntKind.wrap_i64]; omega
noncomputable def lCheck:List Leaf × List (List Leaf)→Tr (NExit × St):=fun x=>match x with
 | ([.i w,.i s,.i p],[])=>.must (1≤p∧p≤24) (.ret (.normal,oCheck w (syn w s (24 - p).toNat)))
 | _=>.fail
noncomputable def pCheck:List Pat:=pats 24 [(0,.i .u32),(4,.i .i64),(5,.i .i64)]
theorem loop_check:LOk Tryz.prog [] 0 0 (bodyLoop fCheck 0) (sumP pCheck [] lCheck):=by
 refine sumP_ok (X:=XCheck) kcOnes mixed (LAll.none (by kernel_rfl)) [0,4,5] [0,4] _ _ _ (fun x=>match x with
  | ([.i _,.i _,.i p],[])=>(24 - p).toNat
  | _=>0) ?_
 rintro ⟨a,b⟩ R h
 unfold lCheck at h
 split at h
 case h_2=>exact h.elim
 rename_i w s p he
 cases he
 have h0:=h.1
 have h:=h.2
 have h1:=h0.1
 have h2:=h0.2
 clear h0
 show (roundT XCheck 0 [0,4,5] [0,4] (bodyLoop fCheck 0) {fr:=frame 24 [(0,.v (.c (.i .u32 w))),(4,.v (.c (.i .i64 s))),(5,.v (.c (.i .i64 p)))],rg:=[]}).run _
 rw [round_check]
 have h' : R (.normal,oCheck w (syn w s (24 - p).toNat)):=h
 by_cases hp:p=24
 ·subst hp
  exact sel_iff.2 (.inr ⟨by decide,h'⟩)
 ·obtain ⟨n,hn⟩:∃ n:Nat,(24 - p).toNat=n+1:=⟨(23 - p).toNat,by omega⟩
  have hpn:p=((23 - n:Nat):Int):=by omega
  have e2:IntKind.i64.wrap (p - 1)=((23 - n - 1:Nat):Int):=by rw [wrap_small _ (by omega) (by omega)]; omega
  have e3:IntKind.i64.wrap (p+1)=p+1:=wrap_small _ (by omega) (by omega)
  have e4:(24 - (p+1)).toNat=n:=by omega
  rw [e2,e3]
  rw [hn] at h'
  refine sel_iff.2 (.inl ⟨by rw [decide_eq_true_eq]; omega,sel_iff.2 (.inl ⟨by rw [decide_eq_true_eq]; omega,?_⟩)⟩)
  have h'' : R (.normal,oCheck w (syn w (if isSet w (23 - n) then bits .xor .i64 s ((23 - n:Nat):Int) else s) n)):=h'
  cases hb:isSet w (23 - n) with
  | true=>
    rw [hb] at h''
    refine sel_iff.2 (.inl ⟨hb,⟨([.i w,.i (bits .xor .i64 s p),.i (p+1)],[]),rfl,by simp only; omega,⟨by omega,by omega⟩,?_⟩⟩)
    show R (.normal,oCheck w (syn w (bits .xor .i64 s p) (24 - (p+1)).toNat))
    rw [e4,hpn]
    exact h''
  | false=>
    rw [hb] at h''
    refine sel_iff.2 (.inr ⟨hb,⟨([.i w,.i s,.i (p+1)],[]),rfl,by simp only; omega,⟨by omega,by omega⟩,?_⟩⟩)
    show R (.normal,oCheck w (syn w s (24 - (p+1)).toNat))
    rw [e4]
    exact h''
noncomputable def tCheck:Con:=fun args regs=>if regs.length=0 then nfun Tryz.prog [] cOnes [(0,[0,4,5],sumP pCheck [] lCheck)] fCheck args regs else .fail
theorem kCheck:Known Tryz.prog [] 207 tCheck:=known_loops 0 Tryz.func207 rfl (by kernel_rfl) mixed kcOnes (LAll.one (id:=0) (body:=bodyLoop fCheck 0) (by kernel_rfl) rfl loop_check)
noncomputable def tData:Con:=fun args regs=>nfun Tryz.prog [] (fun _=>Option.none) [] Tryz.f236 args regs
theorem kData:Known Tryz.prog [] 236 tData:=known_inl Tryz.func236 rfl (by kernel_rfl) mixed con_none (by kernel_rfl)
noncomputable def cData:FuncId→Option Con:=conOf [(236,tData)]
theorem kcData:∀ f T,cData f=some T→Known Tryz.prog [] f T:=(Knowns.cons kData .nil).get
noncomputable abbrev fNumber:=Tryz.f208
noncomputable def XNumber:Cx:={P:=Tryz.prog,con:=cData,glob:=[],m:=0,loops:=[]}
noncomputable def tNumber0:Con:=fun args regs=>if regs.length=0 then nfun Tryz.prog [] cData [(0,[0,3,4,5],unroll XNumber 0 [0,3,4,5] [3] (bodyLoop fNumber 0) 30)] fNumber args regs else .fail
theorem kNumber0:Known Tryz.prog [] 208 tNumber0:=known_loops 0 Tryz.func208 rfl (by kernel_rfl) mixed kcData
 (LAll.one (id:=0) (body:=bodyLoop fNumber 0) (by kernel_rfl) rfl (unroll_ok (X:=XNumber) kcData mixed (LAll.none (by kernel_rfl)) [0,3,4,5] [3] 30))
def dat (w:Int):List Nat→Int→Nat→Int
 | [],n,_=>n
 | p::ps,n,k=>dat w ps (bits .or .i64 n (shlv .i64 (IntKind.i64.wrap (bits .and .u32 (shrv .u32 w (Int.ofNat (p - 1))) 1)) (Int.ofNat k))) (k+1)
def spots:List Nat:=[3,5,6,7,9,10,11,12,13,14,15,17,18,19,20,21,22,23]
theorem number_tree (w:Int) (R:Out→Prop):(tNumber0 [.c (.i .u32 w)] []).run R=R ⟨.v (.c (.i .i64 (dat w spots 0 0))),[]⟩:=by kernel_rfl
noncomputable def tNumber:Con:=fun args regs=>match args,regs with
 | [.c (.i .u32 w)],[]=>.ret ⟨.v (.c (.i .i64 (dat w spots 0 0))),[]⟩
 | _,_=>.fail
theorem kNumber:Known Tryz.prog [] 208 tNumber:=by
 refine kNumber0.less fun args regs R h=>?_
 unfold tNumber at h
 split at h
 case h_2=>exact h.elim
 rename_i w
 rw [number_tree]
 exact h
theorem check_tree (w:Int) (R:Out→Prop):(tCheck [.c (.i .u32 w)] []).run R=((1≤(1:Int)∧(1:Int)≤24)∧((0≤w∧w<4294967296)∧R ⟨.tu [.c (.i .i64 (syn w 0 23)),.c (.b ((pop w).tmod 2==1))],[]⟩)):=by kernel_rfl
noncomputable def tCk:Con:=fun args regs=>match args,regs with
 | [.c (.i .u32 w)],[]=>.must (0≤w∧w<4294967296) (.ret ⟨.tu [.c (.i .i64 (syn w 0 23)),.c (.b ((pop w).tmod 2==1))],[]⟩)
 | _,_=>.fail
theorem kCk:Known Tryz.prog [] 207 tCk:=by
 refine kCheck.less fun args regs R h=>?_
 unfold tCk at h
 split at h
 case h_2=>exact h.elim
 rename_i w
 rw [check_tree]
 exact ⟨⟨by decide,by decide⟩,h⟩
noncomputable def cGet:FuncId→Option Con:=conOf [(207,tCk),(208,tNumber)]
theorem kcGet:∀ f T,cGet f=some T→Known Tryz.prog [] f T:=(Knowns.cons kCk (.cons kNumber .nil)).get
noncomputable def tGet:Con:=fun args regs=>nfun Tryz.prog [] cGet [] Tryz.f173 args regs
theorem kGet:Known Tryz.prog [] 173 tGet:=known_inl Tryz.func173 rfl (by kernel_rfl) mixed kcGet (by kernel_rfl)
noncomputable def word (a b c:Int):Int:=bits .or .u32 (bits .or .u32 (IntKind.u32.wrap a) (shlv .u32 (IntKind.u32.wrap b) 8)) (shlv .u32 (IntKind.u32.wrap c) 16)
noncomputable def place31 (w:Int):Int:=bits .xor .i64 (syn w 0 23) 31
noncomputable def some2 (n:Int):Out:=⟨.tu [.c (.i .i64 n),.c (.b true)],[]⟩
noncomputable def none2:Out:=⟨.tu [.c (.i .i64 0),.c (.b false)],[]⟩
theorem get_tree (a b c:Int) (R:Out→Prop):(tGet [.ag [.i .u8 a,.i .u8 b,.i .u8 c]] []).run R =
 ((0≤word a b c∧word a b c<4294967296)∧
  sel (place31 (word a b c)==0) (R (some2 (dat (word a b c) spots 0 0)))
   (sel ((pop (word a b c)).tmod 2==1) (R none2)
    (sel (decide (place31 (word a b c) ≥ 24)) (R none2)
     (sel (decide (0≤IntKind.i64.wrap (place31 (word a b c) - 1)))
      (R (some2 (dat (bits .xor .u32 (word a b c) (shlv .u32 1 (IntKind.i64.wrap (place31 (word a b c) - 1)))) spots 0 0)))
      False)))):=by kernel_rfl
def synv (v:BitVec 32):Nat→BitVec 64
 | 0=>0
 | n+1=>(bif v.getLsbD (22 - n) then BitVec.ofNat 64 (23 - n) else 0) ^^^ synv v n
theorem isSet_bv (v:BitVec 32) (p:Nat) (hp:p≤32):isSet (u32 v) p=v.getLsbD (p - 1):=by
 unfold isSet
 rw [shr_u32 v (p - 1) (by omega),bits_u32,bvop_and,Nx.ofInt_u32]
 have e:(1:Int)=u32 1#32:=rfl
 rw [show BitVec.ofInt 32 1=1#32 from rfl,e]
 have h1:(u32 (BitVec.setWidth 32 (v >>> (p - 1)) &&& 1#32)==u32 1#32)=((v >>> (p - 1)) &&& 1#32==1#32):=by
  rw [Bool.eq_iff_iff,beq_iff_eq,beq_iff_eq,u32_inj,BitVec.setWidth_eq]
 rw [h1,Bool.eq_iff_iff,beq_iff_eq]
 constructor
 ·intro h
  have:=congrArg (fun x:BitVec 32=>x.getLsbD 0) h
  simpa using this
 ·intro h
  apply BitVec.eq_of_getLsbD_eq
  intro i hi
  rw [BitVec.getLsbD_and,BitVec.getLsbD_ushiftRight]
  cases i with
  | zero=>simpa using h
  | succ i=>simp
theorem syn_bv (v:BitVec 32):∀ (n:Nat) (a:BitVec 64),n≤23→syn (u32 v) (i64 a) n=i64 (a ^^^ synv v n)
 | 0,a,_=>by simp [syn,synv]
 | n+1,a,hn=>by
   simp only [syn,synv]
   rw [isSet_bv v (23 - n) (by omega)]
   have e1:23 - n - 1=22 - n:=by omega
   rw [e1]
   cases v.getLsbD (22 - n) with
   | true=>
     rw [if_pos rfl,bits_i64,bvop_xor,Nx.ofInt_i64_64,BitVec.ofInt_natCast,syn_bv v n _ (by omega)]
     simp [BitVec.xor_assoc]
   | false=>
     rw [if_neg (by decide),syn_bv v n _ (by omega)]
     simp
def placev (n:BitVec 64):List Nat→BitVec 32→Nat→BitVec 32
 | [],w,_=>w
 | p::ps,w,k=>placev n ps (w ||| (bif n.getLsbD k then BitVec.twoPow 32 (p - 1) else 0)) (k+1)
theorem shr_and_one (n:BitVec 64) (k:Nat) (hk:k<64):bits .and .i64 (shrv .i64 (i64 n) (Int.ofNat k)) 1=(n.getLsbD k).toNat:=by
 rw [show Int.ofNat k=((k:Nat):Int) from rfl,shr_i64 n k (by omega),bits_i64,bvop_and,Nx.ofInt_i64_64]
 rw [show BitVec.ofInt 64 1=1#64 from rfl]
 have e:(n.sshiftRight k &&& 1#64)=bif n.getLsbD k then 1#64 else 0#64:=by
  apply BitVec.eq_of_getLsbD_eq
  intro i hi
  rw [BitVec.getLsbD_and,BitVec.getLsbD_sshiftRight]
  cases i with
  | zero=>
    have h1:k+0<64:=by omega
    cases n.getLsbD k <;> simp [hk]
  | succ i=>cases n.getLsbD k <;> simp
 rw [e]
 cases n.getLsbD k <;> rfl
theorem or_u32 (v w:BitVec 32):bits .or .u32 (u32 v) (u32 w)=u32 (v ||| w):=by
 rw [bits_u32,bvop_or,Nx.ofInt_u32,Nx.ofInt_u32,BitVec.setWidth_eq,BitVec.setWidth_eq]
def keepv (s:BitVec 64):List Nat→BitVec 32→BitVec 32
 | [],w=>w
 | k::ks,w=>keepv s ks (w ||| (bif !s.getLsbD k then BitVec.twoPow 32 (2 ^ k - 1) else 0))
def p0v (n:BitVec 64):BitVec 32:=placev n spots 0 0
def p1v (n:BitVec 64):BitVec 32:=keepv (synv (p0v n) 23) [0,1,2,3,4] (p0v n)
def wordv (n:BitVec 64):BitVec 32:=bif parTo (p1v n) 32 then p1v n else p1v n ||| 8388608#32
theorem spots_le:∀ p∈spots,p≤32∧0<p:=by decide
theorem synv_lt (v:BitVec 32):∀ n,n≤23→(synv v n).toNat<32
 | 0,_=>by simp [synv]
 | n+1,hn=>by
   have ih:=synv_lt v n (by omega)
   simp only [synv]
   rw [BitVec.toNat_xor]
   have h1:(bif v.getLsbD (22 - n) then BitVec.ofNat 64 (23 - n) else 0#64).toNat<2 ^ 5:=by
    cases v.getLsbD (22 - n) with
    | false=>exact (by decide:(0#64).toNat<2 ^ 5)
    | true=>
      show (BitVec.ofNat 64 (23 - n)).toNat<32
      rw [BitVec.toNat_ofNat]
      omega
   exact Nat.xor_lt_two_pow h1 ih
structure Code (v:BitVec 32):Prop where
 syn:synv v 23=31#64
 par:parTo v 32=true
 high:∀ i,24≤i→v.getLsbD i=false
def datw (v:BitVec 32):List Nat→BitVec 64→Nat→BitVec 64
 | [],n,_=>n
 | p::ps,n,k=>datw v ps (n ||| (bif v.getLsbD (p - 1) then BitVec.twoPow 64 k else 0)) (k+1)
def datv (v:BitVec 32):BitVec 64:=datw v spots 0 0
theorem and_one (v:BitVec 32) (j:Nat) (hj:j≤32):bits .and .u32 (shrv .u32 (u32 v) (Int.ofNat j)) 1=(v.getLsbD j).toNat:=by
 rw [show Int.ofNat j=((j:Nat):Int) from rfl,shr_u32 v j (by omega),bits_u32,bvop_and,Nx.ofInt_u32]
 rw [show BitVec.ofInt 32 1=1#32 from rfl]
 have e:(BitVec.setWidth 32 (v >>> j) &&& 1#32)=bif v.getLsbD j then 1#32 else 0#32:=by
  apply BitVec.eq_of_getLsbD_eq
  intro i hi
  rw [BitVec.setWidth_eq,BitVec.getLsbD_and,BitVec.getLsbD_ushiftRight]
  cases i with
  | zero=>cases v.getLsbD j <;> simp
  | succ i=>cases v.getLsbD j <;> simp
 rw [e]
 cases v.getLsbD j <;> rfl
theorem shl_bit64 (b:Bool) (j:Nat) (hj:j<64):shlv .i64 (IntKind.i64.wrap (b.toNat:Int)) (Int.ofNat j)=i64 (bif b then BitVec.twoPow 64 j else 0):=by
 rw [show Int.ofNat j=((j:Nat):Int) from rfl,shl_i64 _ j (by omega),wrap_i64,Nx.ofInt_i64_64,BitVec.ofInt_natCast]
 congr 1
 cases b with
 | true=>rfl
 | false=>simp
theorem or_i64 (v w:BitVec 64):bits .or .i64 (i64 v) (i64 w)=i64 (v ||| w):=by
 rw [bits_i64,bvop_or,Nx.ofInt_i64_64,Nx.ofInt_i64_64]
theorem xor_i64 (v w:BitVec 64):bits .xor .i64 (i64 v) (i64 w)=i64 (v ^^^ w):=by
 rw [bits_i64,bvop_xor,Nx.ofInt_i64_64,Nx.ofInt_i64_64]
theorem xor_u32 (v w:BitVec 32):bits .xor .u32 (u32 v) (u32 w)=u32 (v ^^^ w):=by
 rw [bits_u32,bvop_xor,Nx.ofInt_u32,Nx.ofInt_u32,BitVec.setWidth_eq,BitVec.setWidth_eq]
theorem dat_bv (v:BitVec 32):∀ (ps:List Nat) (n:BitVec 64) (k:Nat),k+ps.length≤64→(∀ p∈ps,p≤32)→dat (u32 v) ps (i64 n) k=i64 (datw v ps n k)
 | [],_,_,_,_=>rfl
 | p::ps,n,k,hk,hp=>by
   have h1:=hp p (by simp)
   simp only [List.length_cons] at hk
   simp only [dat,datw]
   rw [and_one v (p - 1) (by omega),shl_bit64 _ k (by omega),or_i64,dat_bv v ps _ (k+1) (by omega) fun q hq=>hp q (by simp [hq])]
theorem dat_datv (v:BitVec 32):dat (u32 v) spots 0 0=i64 (datv v):=
 dat_bv v spots 0 0 (by decide) (by decide)
theorem pop_nonneg (v:BitVec 32):(pop (u32 v)).tmod 2=((parTo v 32).toNat:Int):=by
 rw [← pop_par,pop_eq]
 rw [Int.tmod_eq_emod_of_nonneg (Int.natCast_nonneg _)]
theorem pop_odd (v:BitVec 32):((pop (u32 v)).tmod 2==1)=parTo v 32:=by
 rw [pop_nonneg]
 cases parTo v 32 <;> rfl
def b0 (v:BitVec 32):BitVec 8:=v.setWidth 8
def b1 (v:BitVec 32):BitVec 8:=(v >>> 8).setWidth 8
def b2 (v:BitVec 32):BitVec 8:=(v >>> 16).setWidth 8
def w3 (a b c:BitVec 8):BitVec 32:=a.setWidth 32 ||| (b.setWidth 32 <<< 8) ||| (c.setWidth 32 <<< 16)
theorem word_bv (a b c:BitVec 8):word (u8 a) (u8 b) (u8 c)=u32 (w3 a b c):=by
 unfold word w3
 rw [wrap_u32,wrap_u32,wrap_u32,Nx.ofInt_u8,Nx.ofInt_u8,Nx.ofInt_u8]
 have e8:shlv .u32 (u32 (BitVec.setWidth 32 b)) 8=_:=shl_u32 _ 8 (by decide)
 have e16:shlv .u32 (u32 (BitVec.setWidth 32 c)) 16=_:=shl_u32 _ 16 (by decide)
 rw [e8,e16,Nx.ofInt_u32,Nx.ofInt_u32,or_u32,or_u32,BitVec.setWidth_eq,BitVec.setWidth_eq]
def bytesv (v:BitVec 32):NS:=.v (.ag [.i .u8 (u8 (b0 v)),.i .u8 (u8 (b1 v)),.i .u8 (u8 (b2 v))])
theorem u32_fits (v:BitVec 32):0≤u32 v∧u32 v<4294967296:=by
 have:=v.isLt
 unfold u32
 omega
noncomputable def tPutV:Con:=fun args regs=>match args,regs with
 | [.c (.i .i64 n)],[]=>.must (-9223372036854775808≤n∧n<9223372036854775808) (.ret ⟨bytesv (wordv (BitVec.ofInt 64 n)),[]⟩)
 | _,_=>.fail
def atv (v:BitVec 32):BitVec 64:=synv v 23 ^^^ 31#64
def getN (v:BitVec 32):BitVec 64:=bif atv v==0 then datv v else bif parTo v 32 then 0 else bif decide (24≤(atv v).toNat) then 0 else datv (v ^^^ BitVec.twoPow 32 ((atv v).toNat - 1))
def getB (v:BitVec 32):Bool:=bif atv v==0 then true else bif parTo v 32 then false else bif decide (24≤(atv v).toNat) then false else true
theorem atv_lt (v:BitVec 32):(atv v).toNat<32:=by
 unfold atv
 rw [BitVec.toNat_xor]
 exact Nat.xor_lt_two_pow (n:=5) (synv_lt v 23 (by decide)) (by decide)
theorem i64_small (a:BitVec 64) (h:a.toNat<32):i64 a=(a.toNat:Int):=by
 unfold i64
 rw [BitVec.toInt_eq_toNat_bmod,Int.bmod_def]
 split <;> omega
theorem place31_bv (v:BitVec 32):place31 (u32 v)=((atv v).toNat:Int):=by
 unfold place31
 have:=syn_bv v 23 0 (by decide)
 rw [show syn (u32 v) 0 23=i64 (0 ^^^ synv v 23) from this]
 rw [show (31:Int)=i64 31#64 from rfl,xor_i64,← i64_small _ (atv_lt v)]
 unfold atv
 rw [show (0:BitVec 64) ^^^ synv v 23=synv v 23 from BitVec.zero_xor]
noncomputable def tGetV:Con:=fun args regs=>match args,regs with
 | [.ag [.i .u8 a,.i .u8 b,.i .u8 c]],[]=>.must ((0≤a∧a<256)∧(0≤b∧b<256)∧(0≤c∧c<256)) (.ret ⟨.tu [.c (.i .i64 (i64 (getN (w3 (BitVec.ofInt 8 a) (BitVec.ofInt 8 b) (BitVec.ofInt 8 c))))),.c (.b (getB (w3 (BitVec.ofInt 8 a) (BitVec.ofInt 8 b) (BitVec.ofInt 8 c))))],[]⟩)
 | _,_=>.fail
theorem kGetV:Known Tryz.prog [] 173 tGetV:=by
 refine kGet.less fun args regs R h=>?_
 unfold tGetV at h
 split at h
 case h_2=>exact h.elim
 rename_i a b c
 have h1:=h.1
 have h2:=h.2
 clear h
 have ha:=fit_u8 h1.1.1 h1.1.2
 have hb:=fit_u8 h1.2.1.1 h1.2.1.2
 have hc:=fit_u8 h1.2.2.1 h1.2.2.2
 generalize BitVec.ofInt 8 a=a' at *
 generalize BitVec.ofInt 8 b=b' at *
 generalize BitVec.ofInt 8 c=c' at *
 subst ha hb hc
 have h3:R ⟨.tu [.c (.i .i64 (i64 (getN (w3 a' b' c')))),.c (.b (getB (w3 a' b' c')))],[]⟩:=h2
 clear h2
 rw [get_tree,word_bv]
 generalize w3 a' b' c'=v at *
 refine And.intro (u32_fits v) ?_
 rw [place31_bv,pop_odd,dat_datv]
 have hlt:=atv_lt v
 unfold getN getB at h3
 have e0:(((atv v).toNat:Int)==0)=(atv v==0):=by
  rw [Bool.eq_iff_iff,beq_iff_eq,beq_iff_eq]
  constructor
  ·intro h
   apply BitVec.eq_of_toNat_eq
   have:(atv v).toNat=0:=by omega
   rw [this]; rfl
  ·intro h; rw [h]; rfl
 have e24:decide ((((atv v).toNat:Int)) ≥ 24)=decide (24≤(atv v).toNat):=by
  rw [decide_eq_decide]; omega
 rw [e0,e24]
 cases z:atv v==0
 case true=>rw [z] at h3; exact h3
 rw [z] at h3
 cases p:parTo v 32
 case true=>rw [p] at h3; exact h3
 rw [p] at h3
 cases g:decide (24≤(atv v).toNat)
 case true=>rw [g] at h3; exact h3
 rw [g] at h3
 have hz:(atv v).toNat≠0:=by
  intro h
  have:((atv v).toNat:Int)=0:=by omega
  rw [this] at e0
  rw [← e0] at z
  cases z
 have ew:IntKind.i64.wrap (((atv v).toNat:Int) - 1)=(((atv v).toNat - 1:Nat):Int):=by
  rw [IntKind.wrap_i64]; omega
 have es:shlv .u32 1 (((atv v).toNat - 1:Nat):Int)=u32 (BitVec.twoPow 32 ((atv v).toNat - 1)):=by
  rw [shl_u32 _ _ (by omega)]
  congr 1
 rw [ew,es,xor_u32,dat_datv]
 have ed:decide (0≤(((atv v).toNat - 1:Nat):Int))=true:=by simp
 rw [ed]
 exact h3
def In64 (n:Int):Prop:=-9223372036854775808≤n∧n<9223372036854775808
theorem u8_fits (v:BitVec 8):0≤u8 v∧u8 v<256:=by
 have:=v.isLt
 unfold u8
 omega
end ham
namespace ones
open Go Go.Nx
theorem mixed:Tryz.prog.follows .mixedOrders=true:=by kernel_rfl
noncomputable abbrev fOnes:=Tryz.f138
def bl (m:Nat):Nat:=if h:m=0 then 0 else m % 2+bl (m / 2)
termination_by m
decreasing_by exact Nat.div_lt_self (by omega) (by decide)
theorem bl_zero:bl 0=0:=by rw [bl]; rfl
theorem bl_step {m:Nat} (h:m≠0):bl m=m % 2+bl (m / 2):=by rw [bl,dif_neg h]
theorem bl_double (m:Nat):bl m=m % 2+bl (m / 2):=by
 by_cases h:m=0
 ·subst h; simp [bl_zero]
 ·exact bl_step h
theorem bl_le:∀ (n m:Nat),m<2 ^ n→bl m≤n
 | 0,m,h=>by
   have:m=0:=by simpa using h
   rw [this,bl_zero]; exact Nat.le_refl _
 | n+1,m,h=>by
   rw [bl_double]
   have:=bl_le n (m / 2) (by rw [Nat.pow_succ] at h; omega)
   omega
noncomputable def oOnes (k:Int):St:={fr:=frame 13 [(3,.v (.c (.i .i64 k)))],rg:=[]}
noncomputable def XOnes:Cx:={P:=Tryz.prog,con:=fun _=>Option.none,glob:=[],m:=0,loops:=[]}
theorem round_ones (n k:Int) (R:RO→Prop):(roundT XOnes 0 [0,3] [3] (bodyLoop fOnes 0) {fr:=frame 13 [(0,.v (.c (.i .i64 n))),(3,.v (.c (.i .i64 k)))],rg:=[]}).run R =
  sel (decide (n > 0))
   (R (RO.next {fr:=frame 13 [(0,.v (.c (.i .i64 (shrv .i64 n 1)))),(3,.v (.c (.i .i64 (IntKind.i64.wrap (k+bits .and .i64 n 1)))))],rg:=[]}))
   (R (RO.done NExit.normal (oOnes k))):=by
 kernel_rfl
noncomputable def lOnes:List Leaf × List (List Leaf)→Tr (NExit × St):=fun x=>match x with
 | ([.i n,.i k],[])=>.must ((0≤n∧n<9223372036854775808)∧(0≤k∧k+bl n.toNat≤1000)) (.ret (.normal,oOnes (k+bl n.toNat)))
 | _=>.fail
noncomputable def pOnes:List Pat:=pats 13 [(0,.i .i64),(3,.i .i64)]
theorem and1 (n:Int) (h0:0≤n) (h1:n<9223372036854775808):bits .and .i64 n 1=((n.toNat % 2:Nat):Int):=by
 have h:=fit_i64 (n:=n) (by omega) h1
 have hm:n=(n.toNat:Int):=by omega
 generalize n.toNat=m at *
 subst hm
 rw [bits_i64,bvop_and,BitVec.ofInt_natCast,show BitVec.ofInt 64 1=1#64 from rfl]
 have e:BitVec.ofNat 64 m &&& 1#64=BitVec.ofNat 64 (m % 2):=by
  apply BitVec.eq_of_toNat_eq
  rw [BitVec.toNat_and,BitVec.toNat_ofNat,BitVec.toNat_ofNat,BitVec.toNat_ofNat]
  rw [show 1 % 2 ^ 64=2 ^ 1 - 1 from rfl,Nat.and_two_pow_sub_one_eq_mod]
  omega
 rw [e]
 rcases Nat.mod_two_eq_zero_or_one m with h | h <;> rw [h] <;> rfl
theorem shr1 (n:Int):shrv .i64 n 1=n / 2:=by
 show Int.fdiv n (2 ^ 1)=n / 2
 rw [Int.fdiv_eq_ediv_of_nonneg _ (by decide)]
 rfl
theorem loop_ones:LOk Tryz.prog [] 0 0 (bodyLoop fOnes 0) (sumP pOnes [] lOnes):=by
 refine sumP_ok (X:=XOnes) con_none mixed (LAll.none (by kernel_rfl)) [0,3] [3] _ _ _ (fun x=>match x with
  | ([.i n,.i _],[])=>n.toNat
  | _=>0) ?_
 rintro ⟨a,b⟩ R h
 unfold lOnes at h
 split at h
 case h_2=>exact h.elim
 rename_i n k he
 cases he
 have h1:=h.1
 have h2:R (.normal,oOnes (k+bl n.toNat)):=h.2
 clear h
 show (roundT XOnes 0 [0,3] [3] (bodyLoop fOnes 0) {fr:=frame 13 [(0,.v (.c (.i .i64 n))),(3,.v (.c (.i .i64 k)))],rg:=[]}).run _
 rw [round_ones]
 by_cases hp:n > 0
 ·have hd:n.toNat / 2=(n / 2).toNat:=by omega
  have hb:=bl_step (m:=n.toNat) (by omega)
  rw [hd] at hb
  have hw:IntKind.i64.wrap (k+((n.toNat % 2:Nat):Int))=k+((n.toNat % 2:Nat):Int):=by rw [IntKind.wrap_i64]; omega
  refine sel_iff.2 (.inl ⟨by rw [decide_eq_true_eq]; exact hp,?_⟩)
  rw [and1 n h1.1.1 h1.1.2,shr1,hw]
  refine ⟨([.i (n / 2),.i (k+((n.toNat % 2:Nat):Int))],[]),rfl,by simp only; omega,⟨⟨by omega,by omega⟩,⟨by omega,by omega⟩⟩,?_⟩
  show R (.normal,oOnes (k+((n.toNat % 2:Nat):Int)+bl (n / 2).toNat))
  have:k+((n.toNat % 2:Nat):Int)+bl (n / 2).toNat=k+bl n.toNat:=by omega
  rw [this]
  exact h2
 ·have hz:n.toNat=0:=by omega
  rw [hz,bl_zero] at h2
  refine sel_iff.2 (.inr ⟨by rw [decide_eq_false_iff_not]; exact hp,?_⟩)
  have:k+((0:Nat):Int)=k:=by omega
  rw [this] at h2
  exact h2
noncomputable def tOnes0:Con:=fun args regs=>if regs.length=0 then nfun Tryz.prog [] (fun _=>Option.none) [(0,[0,3],sumP pOnes [] lOnes)] fOnes args regs else .fail
theorem kOnes0:Known Tryz.prog [] 138 tOnes0:=known_loops 0 Tryz.func138 rfl (by kernel_rfl) mixed con_none (LAll.one (id:=0) (body:=bodyLoop fOnes 0) (by kernel_rfl) rfl loop_ones)
theorem ones_tree (n:Int) (R:Out→Prop):(tOnes0 [.c (.i .i64 n)] []).run R=(((0≤n∧n<9223372036854775808)∧(0≤(0:Int)∧0+(bl n.toNat:Int)≤1000))∧R ⟨.v (.c (.i .i64 (0+(bl n.toNat:Int)))),[]⟩):=by kernel_rfl
noncomputable def tOnes:Con:=fun args regs=>match args,regs with
 | [.c (.i .i64 n)],[]=>.must (0≤n∧n<9223372036854775808) (.ret ⟨.v (.c (.i .i64 (bl n.toNat))),[]⟩)
 | _,_=>.fail
theorem kOnes:Known Tryz.prog [] 138 tOnes:=by
 refine kOnes0.less fun args regs R h=>?_
 unfold tOnes at h
 split at h
 case h_2=>exact h.elim
 rename_i n
 have h1:=h.1
 have h2:R ⟨.v (.c (.i .i64 (bl n.toNat))),[]⟩:=h.2
 clear h
 rw [ones_tree]
 have hl:=bl_le 63 n.toNat (by omega)
 refine ⟨⟨h1,by omega,by omega⟩,?_⟩
 rw [Int.zero_add]
 exact h2
def par (x:Nat):Nat→Bool
 | 0=>false
 | n+1=>par x n ^^ x.testBit n
theorem par_double (x:Nat):∀ n,par x (n+1)=(x.testBit 0 ^^ par (x / 2) n)
 | 0=>by simp [par]
 | n+1=>by
   rw [par,par_double x n,par,Nat.testBit_succ]
   cases x.testBit 0 <;> cases par (x / 2) n <;> cases (x / 2).testBit n <;> rfl
theorem bl_par:∀ (n x:Nat),x<2 ^ n→bl x % 2=(par x n).toNat
 | 0,x,h=>by
   have:x=0:=by simpa using h
   rw [this,bl_zero]; rfl
 | n+1,x,h=>by
   have ih:=bl_par n (x / 2) (by rw [Nat.pow_succ] at h; omega)
   rw [bl_double,par_double,Nat.testBit_zero]
   rcases Nat.mod_two_eq_zero_or_one x with hx | hx <;> cases hp:par (x / 2) n <;> rw [hp] at ih <;> rw [hx] <;> simp [Bool.toNat] at ih ⊢ <;> omega
end ones
namespace pk
open Go Go.Nx
noncomputable def c_rput:FuncId→Option Con:=conOf [(138,ones.tOnes)]
theorem kc_rput:∀ f T,c_rput f=some T→Known Tryz.prog [] f T:=(Knowns.cons ones.kOnes Knowns.nil).get
noncomputable def t_rput:Con:=fun args regs=>nfun Tryz.prog [] c_rput [] Tryz.f84 args regs
theorem k_rput:Known Tryz.prog [] 84 t_rput:=known_inl Tryz.func84 rfl (by kernel_rfl) mixed kc_rput (by kernel_rfl)
def o64 (a b:Int):Int:=bits .or .i64 a b
def x64 (a b:Int):Int:=bits .xor .i64 a b
noncomputable def e0 (n:Int):Int:=bits .and .i64 n 1
noncomputable def eK (n k:Int):Int:=bits .and .i64 (shrv .i64 n k) 1
def RBd (d0 d1 d2 d3:Int):Int:=o64 (o64 (o64 (o64 (o64 (o64 (shlv .i64 d0 1) (shlv .i64 d1 3)) (shlv .i64 d2 5)) (shlv .i64 d3 7)) (x64 (x64 (x64 1 d0) d2) d3)) (shlv .i64 (x64 (x64 (x64 1 d0) d1) d3) 2)) (shlv .i64 (x64 (x64 (x64 1 d0) d1) d2) 4)
noncomputable def RB (n:Int):Int:=RBd (e0 n) (eK n 1) (eK n 2) (eK n 3)
theorem rput_tree (n:Int) (R:Out→Prop):(t_rput [.c (.i .i64 n)] []).run R =
 ((0≤RB n∧RB n<9223372036854775808)∧sel ((ones.bl (RB n).toNat:Int).tmod 2==0) (R ⟨.v (.c (.i .u8 (IntKind.u8.wrap (o64 (RB n) 64)))),[]⟩) (R ⟨.v (.c (.i .u8 (IntKind.u8.wrap (RB n)))),[]⟩)):=by kernel_rfl
theorem rput_all:∀ m<16,(0≤RB (Int.ofNat m)∧RB (Int.ofNat m)<256)∧(bif ones.par (RB (Int.ofNat m)).toNat 8 then IntKind.u8.wrap (RB (Int.ofNat m)) else IntKind.u8.wrap (o64 (RB (Int.ofNat m)) 64))=put (Int.ofNat m):=by decide +kernel
noncomputable def tRPut:Con:=fun args regs=>match args,regs with
 | [.c (.i .i64 n)],[]=>.must (0≤n∧n<16) (.ret ⟨.v (.c (.i .u8 (put n))),[]⟩)
 | _,_=>.fail
theorem rput_in {n:Int} {R:Out→Prop} (h1:0≤n∧n<16) (h2:R ⟨.v (.c (.i .u8 (put n))),[]⟩):Box ((t_rput [.c (.i .i64 n)] []).run R):=by
 obtain ⟨m,hm,rfl⟩:∃ m:Nat,m<16∧n=Int.ofNat m:=⟨n.toNat,by omega,by show n=((n.toNat:Nat):Int); omega⟩
 obtain ⟨a1,a2⟩:=rput_all m hm
 refine Box.of_eq (rput_tree _ R) ⟨⟨a1.1,by omega⟩,?_⟩
 have hp:=ones.bl_par 8 (RB (Int.ofNat m)).toNat (by omega)
 rw [← a2] at h2
 cases hb:ones.par (RB (Int.ofNat m)).toNat 8 with
 | true=>
   rw [hb] at h2 hp
   refine selF ?_ h2
   rw [beq_eq_false_iff_ne,Int.tmod_eq_emod_of_nonneg (Int.natCast_nonneg _)]
   have hp' : ones.bl (RB (Int.ofNat m)).toNat % 2=1:=hp
   omega
 | false=>
   rw [hb] at h2 hp
   refine selT ?_ h2
   rw [beq_iff_eq,Int.tmod_eq_emod_of_nonneg (Int.natCast_nonneg _)]
   have hp' : ones.bl (RB (Int.ofNat m)).toNat % 2=0:=hp
   omega
theorem kRPut:Known Tryz.prog [] 84 tRPut:=by
 refine k_rput.less fun args regs R h=>Box.out ?_
 unfold tRPut at h
 split at h
 case h_2=>exact h.elim
 exact rput_in h.1 h.2
theorem kg_rput:Known Tryz.prog GL 84 tRPut:=known_gl kRPut
end pk
namespace ham
open Go Go.Nx
open ones (bl tOnes kOnes)
noncomputable def tSpots:Con:=fun args regs=>nfun Tryz.prog [] (fun _=>Option.none) [] Tryz.f180 args regs
theorem kSpots:Known Tryz.prog [] 180 tSpots:=known_inl Tryz.func180 rfl (by kernel_rfl) mixed con_none (by kernel_rfl)
noncomputable def cRef:FuncId→Option Con:=conOf [(180,tSpots),(138,ones.tOnes)]
theorem kcRef:∀ f T,cRef f=some T→Known Tryz.prog [] f T:=(Knowns.cons kSpots (.cons ones.kOnes .nil)).get
noncomputable def XRef:Cx:={P:=Tryz.prog,con:=cRef,glob:=[],m:=0,loops:=[]}
noncomputable abbrev fPut24:=Tryz.f140
noncomputable def XRef2:Cx:={P:=Tryz.prog,con:=cRef,glob:=[],m:=0,loops:=[(4,[3,6,7,8],unroll XRef 4 [3,6,7,8] [3,6,7] (bodyLoop fPut24 4) 30)]}
theorem loopR4:LOk Tryz.prog [] 0 4 (bodyLoop fPut24 4) (unroll XRef 4 [3,6,7,8] [3,6,7] (bodyLoop fPut24 4) 30):=unroll_ok (X:=XRef) kcRef mixed (LAll.none (by kernel_rfl)) [3,6,7,8] [3,6,7] 30
theorem loopR0:LOk Tryz.prog [] 0 0 (bodyLoop fPut24 0) (unroll XRef 0 [0,3,4,5] [3] (bodyLoop fPut24 0) 30):=unroll_ok (X:=XRef) kcRef mixed (LAll.none (by kernel_rfl)) [0,3,4,5] [3] 30
noncomputable def rplace (n:Int):List Nat→Int→Nat→Int
 | [],w,_=>w
 | p::ps,w,k=>rplace n ps (bits .or .i64 w (shlv .i64 (bits .and .i64 (shrv .i64 n (Int.ofNat k)) 1) (Int.ofNat (p - 1)))) (k+1)
noncomputable def oddR (w:Int):List Nat→Int→Int
 | [],o=>o
 | p::ps,o=>oddR w ps (bits .xor .i64 o (bits .and .i64 (shrv .i64 w (Int.ofNat (p - 1))) 1))
def those (k:Nat):List Nat:=(List.range 24).filter fun p=>p.testBit k
noncomputable def keepI:List Nat→Int→Int
 | [],w=>w
 | k::ks,w=>keepI ks (if oddR w (those k) 0=0 then bits .or .i64 w (Int.ofNat (2 ^ (2 ^ k - 1))) else w)
noncomputable def sPut (w k:Int):St:={fr:=frame 66 [(3,.v (.c (.i .i64 w))),(6,.v (.c (.i .i64 k)))],rg:=[]}
noncomputable def dPut (w:Int):St:={fr:=frame 66 [(3,.v (.c (.i .i64 w)))],rg:=[]}
theorem below5 {k:Nat} (h:k<5):k=0∨k=1∨k=2∨k=3∨k=4:=by omega
theorem round_put (w:Int) (R:RO→Prop) (k:Nat) (h:k<5):(roundT XRef2 2 [3,6] [3] (bodyLoop fPut24 2) (sPut w (k:Int))).run R =
  sel (oddR w (those k) 0==0) (R (RO.next (sPut (bits .or .i64 w (Int.ofNat (2 ^ (2 ^ k - 1)))) ((k+1:Nat):Int)))) (R (RO.next (sPut w ((k+1:Nat):Int)))):=by
 rcases below5 h with e | e | e | e | e <;> subst e <;> kernel_rfl
theorem round_end (w:Int) (R:RO→Prop):(roundT XRef2 2 [3,6] [3] (bodyLoop fPut24 2) (sPut w 5)).run R=R (RO.done NExit.normal (dPut w)):=by kernel_rfl
noncomputable def lPut:List Leaf × List (List Leaf)→Tr (NExit × St):=fun x=>match x with
 | ([.i w,.i k],[])=>.must (0≤k∧k≤5) (.ret (.normal,dPut (keepI ([0,1,2,3,4].drop k.toNat) w)))
 | _=>.fail
noncomputable def pPut:List Pat:=pats 66 [(3,.i .i64),(6,.i .i64)]
theorem drop5:∀ k<5,[0,1,2,3,4].drop k=k::[0,1,2,3,4].drop (k+1):=by decide
theorem loopR2:LOk Tryz.prog [] 0 2 (bodyLoop fPut24 2) (sumP pPut [] lPut):=by
 refine sumP_ok (X:=XRef2) kcRef mixed (LAll.one (id:=4) (body:=bodyLoop fPut24 4) (by kernel_rfl) rfl loopR4) [3,6] [3] _ _ _ (fun x=>match x with
  | ([.i _,.i k],[])=>(5 - k).toNat
  | _=>0) ?_
 rintro ⟨a,b⟩ R h
 unfold lPut at h
 split at h
 case h_2=>exact h.elim
 rename_i w k he
 cases he
 have h1:=h.1
 have h2:R (.normal,dPut (keepI ([0,1,2,3,4].drop k.toNat) w)):=h.2
 clear h
 show (roundT XRef2 2 [3,6] [3] (bodyLoop fPut24 2) (sPut w k)).run _
 by_cases hp:k=5
 ·subst hp
  rw [round_end]
  exact h2
 ·obtain ⟨n,hn⟩:∃ n:Nat,k=(n:Int):=⟨k.toNat,by omega⟩
  subst hn
  have h5:n<5:=by omega
  rw [round_put w _ n h5]
  rw [Int.toNat_natCast,drop5 n h5] at h2
  simp only [keepI] at h2
  by_cases ho:oddR w (those n) 0=0
  ·rw [if_pos ho] at h2
   refine sel_iff.2 (.inl ⟨by rw [beq_iff_eq]; exact ho,⟨([.i (bits .or .i64 w (Int.ofNat (2 ^ (2 ^ n - 1)))),.i ((n+1:Nat):Int)],[]),rfl,by simp only; omega,⟨by omega,by omega⟩,?_⟩⟩)
   exact h2
  ·rw [if_neg ho] at h2
   refine sel_iff.2 (.inr ⟨by rw [beq_eq_false_iff_ne]; exact ho,⟨([.i w,.i ((n+1:Nat):Int)],[]),rfl,by simp only; omega,⟨by omega,by omega⟩,?_⟩⟩)
   exact h2
noncomputable def tPut24a:Con:=fun args regs=>if regs.length=0 then nfun Tryz.prog [] cRef [(0,[0,3,4,5],unroll XRef 0 [0,3,4,5] [3] (bodyLoop fPut24 0) 30),(2,[3,6],sumP pPut [] lPut)] fPut24 args regs else .fail
theorem kPut24a:Known Tryz.prog [] 140 tPut24a:=known_loops 0 Tryz.func140 rfl (by kernel_rfl) mixed kcRef
 (LAll.two (i1:=0) (i2:=2) (b1:=bodyLoop fPut24 0) (b2:=bodyLoop fPut24 2) (by kernel_rfl) rfl (by decide) loopR0 loopR2)
theorem put24_tree (n:Int) (R:Out→Prop):(tPut24a [.c (.i .i64 n)] []).run R=((0≤(0:Int)∧(0:Int)≤5)∧((0≤keepI [0,1,2,3,4] (rplace n spots 0 0)∧keepI [0,1,2,3,4] (rplace n spots 0 0)<9223372036854775808)∧
 sel ((bl (keepI [0,1,2,3,4] (rplace n spots 0 0)).toNat:Int).tmod 2==0) (R ⟨.v (.c (.i .i64 (bits .or .i64 (keepI [0,1,2,3,4] (rplace n spots 0 0)) 8388608))),[]⟩) (R ⟨.v (.c (.i .i64 (keepI [0,1,2,3,4] (rplace n spots 0 0)))),[]⟩))):=by kernel_rfl
theorem u32_i64 (v:BitVec 32):u32 v=i64 (v.setWidth 64):=by
 unfold u32 i64
 have:=v.isLt
 rw [BitVec.toInt_eq_toNat_bmod,BitVec.toNat_setWidth,Int.bmod_def]
 split <;> omega
theorem or_u32i (v w:BitVec 32):bits .or .i64 (u32 v) (u32 w)=u32 (v ||| w):=by
 rw [u32_i64,u32_i64,or_i64,u32_i64,BitVec.setWidth_or]
theorem shl_biti (b:Bool) (j:Nat) (hj:j<64):shlv .i64 (b.toNat:Int) (Int.ofNat j)=i64 (bif b then BitVec.twoPow 64 j else 0):=by
 rw [← shl_bit64 b j hj]
 cases b <;> rfl
theorem shl_bitu (b:Bool) (j:Nat) (hj:j<32):shlv .i64 (b.toNat:Int) (Int.ofNat j)=u32 (bif b then BitVec.twoPow 32 j else 0):=by
 rw [shl_biti b j (by omega),u32_i64]
 congr 1
 cases b with
 | false=>simp
 | true=>
   apply BitVec.eq_of_toNat_eq
   show (BitVec.twoPow 64 j).toNat=((BitVec.twoPow 32 j).setWidth 64).toNat
   have h1:2 ^ j<2 ^ 32:=Nat.pow_lt_pow_right (by decide) hj
   rw [BitVec.toNat_setWidth,BitVec.toNat_twoPow,BitVec.toNat_twoPow]
   rw [Nat.mod_eq_of_lt (by omega:2 ^ j<2 ^ 64),Nat.mod_eq_of_lt (by omega:2 ^ j<2 ^ 32),Nat.mod_eq_of_lt (by omega)]
theorem and_onei (v:BitVec 32) (j:Nat) (hj:j<64):bits .and .i64 (shrv .i64 (u32 v) (Int.ofNat j)) 1=(v.getLsbD j).toNat:=by
 rw [u32_i64,shr_and_one _ j hj,BitVec.getLsbD_setWidth]
 simp [hj]
theorem rplace_bv (n:BitVec 64):∀ (ps:List Nat) (w:BitVec 32) (k:Nat),k+ps.length≤64→(∀ p∈ps,p≤32∧0<p)→rplace (i64 n) ps (u32 w) k=u32 (placev n ps w k)
 | [],_,_,_,_=>rfl
 | p::ps,w,k,hk,hp=>by
   have h1:=hp p (by simp)
   simp only [List.length_cons] at hk
   simp only [rplace,placev]
   rw [shr_and_one n k (by omega),shl_bitu _ (p - 1) (by omega),or_u32i,rplace_bv n ps _ (k+1) (by omega) fun q hq=>hp q (by simp [hq])]
def oddb (v:BitVec 32):List Nat→Bool→Bool
 | [],b=>b
 | p::ps,b=>oddb v ps (b ^^ v.getLsbD (p - 1))
theorem oddR_bv (v:BitVec 32):∀ (ps:List Nat) (b:Bool),(∀ p∈ps,p≤32)→oddR (u32 v) ps (b.toNat:Int)=((oddb v ps b).toNat:Int)
 | [],_,_=>rfl
 | p::ps,b,hp=>by
   have h1:=hp p (by simp)
   simp only [oddR,oddb]
   rw [and_onei v (p - 1) (by omega)]
   have e:bits .xor .i64 (b.toNat:Int) ((v.getLsbD (p - 1)).toNat:Int)=((b ^^ v.getLsbD (p - 1)).toNat:Int):=by
    cases b <;> cases v.getLsbD (p - 1) <;> decide
   rw [e,oddR_bv v ps _ fun q hq=>hp q (by simp [hq])]
theorem oddb_ext {v w:BitVec 32}:∀ (ps:List Nat) (b:Bool),(∀ p∈ps,v.getLsbD (p - 1)=w.getLsbD (p - 1))→oddb v ps b=oddb w ps b
 | [],_,_=>rfl
 | p::ps,b,h=>by
   simp only [oddb]
   rw [h p (by simp),oddb_ext ps _ fun q hq=>h q (by simp [hq])]
theorem oddb_start (v:BitVec 32):∀ (ps:List Nat) (b:Bool),oddb v ps b=(b ^^ oddb v ps false)
 | [],b=>by simp [oddb]
 | p::ps,b=>by
   simp only [oddb]
   rw [oddb_start v ps (b ^^ _),oddb_start v ps (false ^^ _),Bool.false_xor,Bool.xor_assoc]
def synl (v:BitVec 32):List Nat→BitVec 64
 | []=>0
 | p::ps=>(bif v.getLsbD (p - 1) then BitVec.ofNat 64 p else 0) ^^^ synl v ps
theorem synl_bit (v:BitVec 32) (k:Nat) (hk:k<64):∀ ps,(synl v ps).getLsbD k=oddb v (ps.filter fun p=>p.testBit k) false
 | []=>by simp [synl,oddb]
 | p::ps=>by
   simp only [synl,BitVec.getLsbD_xor]
   rw [synl_bit v k hk ps,List.filter_cons]
   have e:(bif v.getLsbD (p - 1) then BitVec.ofNat 64 p else 0).getLsbD k=(v.getLsbD (p - 1)&&p.testBit k):=by
    cases v.getLsbD (p - 1) with
    | false=>simp
    | true=>
      show (BitVec.ofNat 64 p).getLsbD k=_
      rw [BitVec.getLsbD_ofNat]
      simp [hk]
   rw [e]
   cases p.testBit k with
   | false=>simp
   | true=>
     simp only [if_true,oddb]
     rw [oddb_start v _ (false ^^ _)]
     simp
theorem synv_synl (v:BitVec 32):synv v 23=synl v (List.range 24).tail:=by
 simp only [synv]
 rfl
theorem those_tail:∀ k<5,those k=(List.range 24).tail.filter fun p=>p.testBit k:=by decide
theorem syn_odd (v:BitVec 32) (k:Nat) (hk:k<5):(synv v 23).getLsbD k=oddb v (those k) false:=by
 rw [synv_synl,synl_bit v k (by omega),those_tail k hk]
def keepO:List Nat→BitVec 32→BitVec 32
 | [],w=>w
 | k::ks,w=>keepO ks (bif oddb w (those k) false then w else w ||| BitVec.twoPow 32 (2 ^ k - 1))
theorem those_le:∀ k<5,∀ p∈those k,p≤32:=by decide
theorem pow_u32:∀ k<5,Int.ofNat (2 ^ (2 ^ k - 1))=u32 (BitVec.twoPow 32 (2 ^ k - 1)):=by decide +kernel
theorem keepI_bv:∀ (ks:List Nat) (w:BitVec 32),(∀ k∈ks,k<5)→keepI ks (u32 w)=u32 (keepO ks w)
 | [],_,_=>rfl
 | k::ks,w,hk=>by
   have h1:=hk k (by simp)
   have e:=oddR_bv w (those k) false (those_le k h1)
   simp only [keepI,keepO]
   rw [show oddR (u32 w) (those k) 0=oddR (u32 w) (those k) (false.toNat:Int) from rfl,e,pow_u32 k h1,or_u32i]
   cases ho:oddb w (those k) false with
   | true=>
     rw [if_neg (by decide)]
     exact keepI_bv ks _ fun q hq=>hk q (by simp [hq])
   | false=>
     rw [if_pos (by decide)]
     exact keepI_bv ks _ fun q hq=>hk q (by simp [hq])
theorem watch_own:∀ k<5,∀ q<5,k≠q→∀ p∈those q,2 ^ k - 1≠p - 1:=by decide
theorem keepO_v (s:BitVec 64):∀ (ks:List Nat) (w:BitVec 32),ks.Nodup→(∀ k∈ks,k<5)→(∀ k∈ks,oddb w (those k) false=s.getLsbD k)→keepO ks w=keepv s ks w
 | [],_,_,_,_=>rfl
 | k::ks,w,hn,hk,h=>by
   rw [List.nodup_cons] at hn
   have h1:=h k (by simp)
   have k5:=hk k (by simp)
   simp only [keepO,keepv]
   have e:(bif oddb w (those k) false then w else w ||| BitVec.twoPow 32 (2 ^ k - 1))=w ||| (bif !s.getLsbD k then BitVec.twoPow 32 (2 ^ k - 1) else 0):=by
    rw [h1]
    cases s.getLsbD k <;> simp
   rw [e]
   refine keepO_v s ks _ hn.2 (fun q hq=>hk q (by simp [hq])) fun q hq=>?_
   rw [← h q (by simp [hq])]
   apply oddb_ext
   intro p hp
   have ne:=watch_own k k5 q (hk q (by simp [hq])) (fun e=>hn.1 (e ▸ hq)) p hp
   rw [BitVec.getLsbD_or]
   cases s.getLsbD k with
   | true=>simp
   | false=>simp [BitVec.getLsbD_twoPow,ne]
theorem keepO_p1 (n:BitVec 64):keepO [0,1,2,3,4] (p0v n)=p1v n:=
 keepO_v (synv (p0v n) 23) [0,1,2,3,4] (p0v n) (by decide) (by decide) fun k hk=>(syn_odd _ k (by simp at hk; omega)).symm
theorem par_bv (v:BitVec 32):∀ n,ones.par v.toNat n=parTo v n
 | 0=>rfl
 | n+1=>by
   simp only [ones.par,parTo]
   rw [par_bv v n,BitVec.testBit_toNat]
theorem bl_even (v:BitVec 32):((bl (u32 v).toNat:Int).tmod 2==0)=!parTo v 32:=by
 have h:=ones.bl_par 32 v.toNat v.isLt
 rw [par_bv] at h
 rw [Int.tmod_eq_emod_of_nonneg (Int.natCast_nonneg _)]
 have e:(u32 v).toNat=v.toNat:=by simp [u32]
 rw [e]
 cases hp:parTo v 32 <;> rw [hp] at h <;> simp [Bool.toNat] at h ⊢ <;> omega
noncomputable def tPutR:Con:=fun args regs=>match args,regs with
 | [.c (.i .i64 n)],[]=>.must (In64 n) (.ret ⟨.v (.c (.i .i64 (u32 (wordv (BitVec.ofInt 64 n))))),[]⟩)
 | _,_=>.fail
theorem kPutR:Known Tryz.prog [] 140 tPutR:=by
 refine kPut24a.less fun args regs R h=>?_
 unfold tPutR at h
 split at h
 case h_2=>exact h.elim
 rename_i n
 have h1:=h.1
 have h2:R ⟨.v (.c (.i .i64 (u32 (wordv (BitVec.ofInt 64 n))))),[]⟩:=h.2
 clear h
 have hn:=fit_i64 h1.1 h1.2
 generalize BitVec.ofInt 64 n=v at *
 subst hn
 rw [put24_tree]
 have e0:rplace (i64 v) spots 0 0=u32 (p0v v):=rplace_bv v spots 0 0 (by decide) spots_le
 rw [e0,keepI_bv _ _ (by decide),keepO_p1]
 have hf:=u32_fits (p1v v)
 refine ⟨⟨by decide,by decide⟩,⟨hf.1,by omega⟩,?_⟩
 rw [bl_even,show (8388608:Int)=u32 8388608#32 from rfl,or_u32i]
 unfold wordv at h2
 cases hp:parTo (p1v v) 32 with
 | true=>
   rw [hp] at h2
   exact sel_iff.2 (.inr ⟨rfl,h2⟩)
 | false=>
   rw [hp] at h2
   exact sel_iff.2 (.inl ⟨rfl,h2⟩)
noncomputable def cRP:FuncId→Option Con:=conOf [(140,tPutR)]
theorem kcRP:∀ f T,cRP f=some T→Known Tryz.prog [] f T:=(Knowns.cons kPutR Knowns.nil).get
noncomputable def tPutRB:Con:=fun args regs=>nfun Tryz.prog [] cRP [] Tryz.f86 args regs
theorem kPutRB:Known Tryz.prog [] 86 tPutRB:=known_inl Tryz.func86 rfl (by kernel_rfl) mixed kcRP (by kernel_rfl)
noncomputable def bytes3i (w:Int):NS:=.v (.ag [.i .u8 (IntKind.u8.wrap w),.i .u8 (IntKind.u8.wrap (shrv .i64 w 8)),.i .u8 (IntKind.u8.wrap (shrv .i64 w 16))])
theorem putRB_tree (n:Int) (R:Out→Prop):(tPutRB [.c (.i .i64 n)] []).run R=(In64 n∧R ⟨bytes3i (u32 (wordv (BitVec.ofInt 64 n))),[]⟩):=by kernel_rfl
theorem shr_u32i (v:BitVec 32) (j:Nat) (hj:j≤32):shrv .i64 (u32 v) (j:Int)=u32 (v >>> j):=by
 rw [← shr_u32 v j hj]
 unfold shrv
 have e1:min (j:Int).toNat IntKind.i64.bits=j:=by
  show min (j:Int).toNat 64=j
  rw [Int.toNat_natCast]; omega
 have e2:min (j:Int).toNat IntKind.u32.bits=j:=by
  show min (j:Int).toNat 32=j
  rw [Int.toNat_natCast]; omega
 rw [e1,e2]
theorem bytes3i_bv (v:BitVec 32):bytes3i (u32 v)=bytesv v:=by
 unfold bytes3i bytesv
 have e8:shrv .i64 (u32 v) 8=_:=shr_u32i v 8 (by decide)
 have e16:shrv .i64 (u32 v) 16=_:=shr_u32i v 16 (by decide)
 rw [e8,e16,wrap_u8,wrap_u8,wrap_u8,Nx.ofInt_u32,Nx.ofInt_u32,Nx.ofInt_u32]
 rfl
theorem kPutRV:Known Tryz.prog [] 86 tPutV:=by
 refine kPutRB.less fun args regs R h=>?_
 unfold tPutV at h
 split at h
 case h_2=>exact h.elim
 rename_i n
 rw [putRB_tree,bytes3i_bv]
 exact h
end ham
namespace hd
end hd
namespace tr
open Go Go.Nx pk ln hd
noncomputable def t_thas:Con:=fun args regs=>nfun Tryz.prog GL (fun _=>Option.none) [] Tryz.f209 args regs
theorem k_thas:Known Tryz.prog GL 209 t_thas:=known_inl Tryz.func209 rfl (by kernel_rfl) mixed con_none (by kernel_rfl)
noncomputable def t_tof:Con:=fun args regs=>nfun Tryz.prog GL (fun _=>Option.none) [] Tryz.f210 args regs
theorem k_tof:Known Tryz.prog GL 210 t_tof:=known_inl Tryz.func210 rfl (by kernel_rfl) mixed con_none (by kernel_rfl)
noncomputable def c_numbers:FuncId→Option Con:=conOf [(125,t_part),(173,ham.tGetV)]
theorem kc_numbers:∀ f T,c_numbers f=some T→Known Tryz.prog GL f T:=(Knowns.cons k_part (.cons (known_gl ham.kGetV) .nil)).get
noncomputable def X_numbers:Cx:={P:=Tryz.prog,con:=c_numbers,glob:=GL,m:=0,loops:=[]}
noncomputable def t_numbers:Con:=fun args regs=>if regs.length=0 then nfun Tryz.prog GL c_numbers [(0,[1,4,5,9],unroll X_numbers 0 [1,4,5,9] [4,5] (bodyLoop Tryz.f124 0) 14)] Tryz.f124 args regs else .fail
theorem k_numbers:Known Tryz.prog GL 124 t_numbers:=known_loops 0 Tryz.func124 rfl (by kernel_rfl) mixed kc_numbers (LAll.one (id:=0) (body:=bodyLoop Tryz.f124 0) (by kernel_rfl) rfl (unroll_ok (X:=X_numbers) kc_numbers mixed (LAll.none (by kernel_rfl)) [1,4,5,9] [4,5] 14))
def k3:List CK:=[.i .i64,.i .i64,.i .i64]
def cI (row:List Sc) (j:Nat):Int:=(row.getD j (Sc.i 0)).n
noncomputable def nR (row:List Sc):Int:=oI (oI (aI (cI row 0) 63) (shlv .i64 (aI (cI row 1) 31) 6)) (shlv .i64 (aI (cI row 2) 127) 11)
noncomputable def wR (row:List Sc):BitVec 32:=ham.wordv (BitVec.ofInt 64 (nR row))
noncomputable def tw (row:List Sc):List Int:=[u8 (ham.b0 (wR row)),u8 (ham.b1 (wR row)),u8 (ham.b2 (wR row))]
def In64 (n:Int):Prop:=-9223372036854775808≤n∧n<9223372036854775808
theorem i64_in (v:BitVec 64):In64 (i64 v):=by
 have h1:=BitVec.le_toInt v
 have h2:=BitVec.toInt_lt (x:=v)
 unfold i64 In64
 omega
theorem nR_in (row:List Sc):In64 (nR row):=by
 unfold nR
 generalize oI (aI (cI row 0) 63) (shlv .i64 (aI (cI row 1) 31) 6)=a
 generalize shlv .i64 (aI (cI row 2) 127) 11=b
 have e:oI a b=i64 (BitVec.ofInt 64 a ||| BitVec.ofInt 64 b):=bits_i64 .or a b
 rw [e]
 exact i64_in _
noncomputable def LT (code:Int) (r0 r1 r2 r3 r4 r5 r6 r7 r8 r9 r10 r11 r12:List Sc):List Int:=put code::(tw r0++(tw r1++(tw r2++(tw r3++(tw r4++(tw r5++(tw r6++(tw r7++(tw r8++(tw r9++(tw r10++(tw r11++(tw r12)))))))))))))
noncomputable def wK (ds:List Int) (k:Nat):BitVec 32:=ham.w3 (BitVec.ofInt 8 (ds.getD (3 * k) 0)) (BitVec.ofInt 8 (ds.getD (3 * k+1) 0)) (BitVec.ofInt 8 (ds.getD (3 * k+2) 0))
noncomputable def nK (ds:List Int) (k:Nat):Int:=i64 (ham.getN (wK ds k))
noncomputable def gK (ds:List Int) (k:Nat):Bool:=ham.getB (wK ds k)
def inK (ds:List Int) (k:Nat):Prop:=(0≤ds.getD (3 * k) 0∧ds.getD (3 * k) 0<256)∧(0≤ds.getD (3 * k+1) 0∧ds.getD (3 * k+1) 0<256)∧(0≤ds.getD (3 * k+2) 0∧ds.getD (3 * k+2) 0<256)
noncomputable def oNm (ds:List Int):Out:=⟨.tu [.c (.h 0 0 13),.c (.h 1 0 13)],[some ⟨1,3,.ints .i64 [nK ds 0,nK ds 1,nK ds 2,nK ds 3,nK ds 4,nK ds 5,nK ds 6,nK ds 7,nK ds 8,nK ds 9,nK ds 10,nK ds 11,nK ds 12]⟩,some ⟨1,4,.recs [.b] [[Sc.b (gK ds 0)],[Sc.b (gK ds 1)],[Sc.b (gK ds 2)],[Sc.b (gK ds 3)],[Sc.b (gK ds 4)],[Sc.b (gK ds 5)],[Sc.b (gK ds 6)],[Sc.b (gK ds 7)],[Sc.b (gK ds 8)],[Sc.b (gK ds 9)],[Sc.b (gK ds 10)],[Sc.b (gK ds 11)],[Sc.b (gK ds 12)]]⟩]⟩
theorem numbers_tree (m w k c:Int) (ds:List Int) (R:Out→Prop):(t_numbers [.ag [.i .i64 m,.i .i64 w,.i .i64 k,.i .i64 c,.l .u8 ds]] []).run R =
 (mustP ds (3 * 0) 3∧(inK ds 0∧(mustP ds (3 * 1) 3∧(inK ds 1∧(mustP ds (3 * 2) 3∧(inK ds 2∧(mustP ds (3 * 3) 3∧(inK ds 3∧(mustP ds (3 * 4) 3∧(inK ds 4∧(mustP ds (3 * 5) 3∧(inK ds 5∧(mustP ds (3 * 6) 3∧(inK ds 6∧(mustP ds (3 * 7) 3∧(inK ds 7∧(mustP ds (3 * 8) 3∧(inK ds 8∧(mustP ds (3 * 9) 3∧(inK ds 9∧(mustP ds (3 * 10) 3∧(inK ds 10∧(mustP ds (3 * 11) 3∧(inK ds 11∧(mustP ds (3 * 12) 3∧(inK ds 12∧R (oNm ds))))))))))))))))))))))))))):=by kernel_rfl
noncomputable def tNumbers:Con:=fun args regs=>match args,regs with
 | [.ag [.i .i64 _,.i .i64 _,.i .i64 _,.i .i64 _,.l .u8 ds]],[]=>.must (39≤ds.length∧ds.length<1000∧∀ x∈ds,0≤x∧x<256) (.ret (oNm ds))
 | _,_=>.fail
theorem getD_in {ds:List Int} (h:∀ x∈ds,0≤x∧x<256) (j:Nat):0≤ds.getD j 0∧ds.getD j 0<256:=by
 rw [List.getD_eq_getElem?_getD]
 cases hj:ds[j]? with
 | none=>exact ⟨by decide,by decide⟩
 | some x=>exact h x (List.mem_of_getElem? hj)
theorem mustP_of {ds:List Int} (f n:Nat) (h:f+n≤ds.length) (hn:f+n<1000):mustP ds f n:=⟨rfl,by simp,Int.le_refl _,by omega,by omega,by omega,by omega⟩
theorem kNumbers:Known Tryz.prog GL 124 tNumbers:=by
 refine k_numbers.less fun args regs R h=>Box.out ?_
 unfold tNumbers at h
 split at h
 case h_2=>exact h.elim
 rename_i m w k c ds
 have h1:=h.1
 have h2:R (oNm ds):=h.2
 clear h
 obtain ⟨hl,hm,hb⟩:=h1
 have hi:∀ j,inK ds j:=fun j=>⟨getD_in hb _,getD_in hb _,getD_in hb _⟩
 exact Box.of_eq (numbers_tree m w k c ds R) ⟨mustP_of (3 * 0) 3 (by omega) (by omega),hi 0,mustP_of (3 * 1) 3 (by omega) (by omega),hi 1,mustP_of (3 * 2) 3 (by omega) (by omega),hi 2,mustP_of (3 * 3) 3 (by omega) (by omega),hi 3,mustP_of (3 * 4) 3 (by omega) (by omega),hi 4,mustP_of (3 * 5) 3 (by omega) (by omega),hi 5,mustP_of (3 * 6) 3 (by omega) (by omega),hi 6,mustP_of (3 * 7) 3 (by omega) (by omega),hi 7,mustP_of (3 * 8) 3 (by omega) (by omega),hi 8,mustP_of (3 * 9) 3 (by omega) (by omega),hi 9,mustP_of (3 * 10) 3 (by omega) (by omega),hi 10,mustP_of (3 * 11) 3 (by omega) (by omega),hi 11,mustP_of (3 * 12) 3 (by omega) (by omega),hi 12,h2⟩
noncomputable def c_region:FuncId→Option Con:=conOf [(124,tNumbers)]
theorem kc_region:∀ f T,c_region f=some T→Known Tryz.prog GL f T:=(Knowns.cons kNumbers .nil).get
noncomputable def t_region:Con:=fun args regs=>nfun Tryz.prog GL c_region [] Tryz.f75 args regs
theorem k_region:Known Tryz.prog GL 75 t_region:=known_inl Tryz.func75 rfl (by kernel_rfl) mixed kc_region (by kernel_rfl)
noncomputable def regB (k c:Int) (ds:List Int):Bool:=(k==5||k==6)&&((c==0||c==4)&&(gK ds 0&&(aI (nK ds 0) 15==0)))
noncomputable def regN (ds:List Int):Int:=aI (shrv .i64 (nK ds 0) 10) 15
noncomputable def oRg (n:Int) (b:Bool):Out:=⟨.tu [.c (.i .i64 n),.c (.b b)],[]⟩
def mustNum (ds:List Int):Prop:=39≤ds.length∧ds.length<1000∧∀ x∈ds,0≤x∧x<256
noncomputable def rgC (ds:List Int) (R:Out→Prop):Prop:=mustNum ds∧sel (!gK ds 0) (R (oRg 0 false)) (sel (aI (nK ds 0) 15 !=0) (R (oRg 0 false)) (R (oRg (regN ds) true)))
noncomputable def rgB (c:Int) (ds:List Int) (R:Out→Prop):Prop:=sel (c !=0) (sel (c !=4) (R (oRg 0 false)) (rgC ds R)) (rgC ds R)
theorem region_tree (m w k c:Int) (ds:List Int) (R:Out→Prop):(t_region [.ag [.i .i64 m,.i .i64 w,.i .i64 k,.i .i64 c,.l .u8 ds]] []).run R =
 sel (k !=5) (sel (k !=6) (R (oRg 0 false)) (rgB c ds R)) (rgB c ds R):=by kernel_rfl
noncomputable def tRegion:Con:=fun args regs=>match args,regs with
 | [.ag [.i .i64 _,.i .i64 _,.i .i64 k,.i .i64 c,.l .u8 ds]],[]=>.must (39≤ds.length∧ds.length<1000∧∀ x∈ds,0≤x∧x<256) (.ret (oRg (bif regB k c ds then regN ds else 0) (regB k c ds)))
 | _,_=>.fail
theorem rgC_in {ds:List Int} {R:Out→Prop} (hm:mustNum ds) (h:R (oRg (bif gK ds 0&&(aI (nK ds 0) 15==0) then regN ds else 0) (gK ds 0&&(aI (nK ds 0) 15==0)))):rgC ds R:=by
 refine ⟨hm,?_⟩
 cases h1:gK ds 0 with
 | false=>rw [h1] at h; exact selT rfl h
 | true=>
   rw [h1] at h
   refine selF rfl ?_
   cases h2:(aI (nK ds 0) 15==0) with
   | false=>rw [h2] at h; exact selT (by simp [bne,h2]) h
   | true=>rw [h2] at h; exact selF (by simp [bne,h2]) h
theorem rgB_in {c:Int} {ds:List Int} {R:Out→Prop} (hm:mustNum ds) (h:R (oRg (bif (c==0||c==4)&&(gK ds 0&&(aI (nK ds 0) 15==0)) then regN ds else 0) ((c==0||c==4)&&(gK ds 0&&(aI (nK ds 0) 15==0))))):rgB c ds R:=by
 cases h1:(c==0) with
 | true=>
   rw [h1] at h
   exact selF (by simp [bne,h1]) (rgC_in hm h)
 | false=>
   rw [h1] at h
   refine selT (by simp [bne,h1]) ?_
   cases h2:(c==4) with
   | true=>rw [h2] at h; exact selF (by simp [bne,h2]) (rgC_in hm h)
   | false=>rw [h2] at h; exact selT (by simp [bne,h2]) h
theorem kRegion:Known Tryz.prog GL 75 tRegion:=by
 refine k_region.less fun args regs R h=>Box.out ?_
 unfold tRegion at h
 split at h
 case h_2=>exact h.elim
 rename_i m w k c ds
 have hm:mustNum ds:=h.1
 have h2:R (oRg (bif regB k c ds then regN ds else 0) (regB k c ds)):=h.2
 clear h
 refine Box.of_eq (region_tree m w k c ds R) ?_
 unfold regB at h2
 cases h1:(k==5) with
 | true=>
   rw [h1] at h2
   exact selF (by simp [bne,h1]) (rgB_in hm h2)
 | false=>
   rw [h1] at h2
   refine selT (by simp [bne,h1]) ?_
   cases h3:(k==6) with
   | true=>rw [h3] at h2; exact selF (by simp [bne,h3]) (rgB_in hm h2)
   | false=>rw [h3] at h2; exact selT (by simp [bne,h3]) h2
noncomputable def c_tread:FuncId→Option Con:=conOf [(209,t_thas),(124,tNumbers),(210,t_tof)]
theorem kc_tread:∀ f T,c_tread f=some T→Known Tryz.prog GL f T:=(Knowns.cons k_thas (.cons kNumbers (.cons k_tof .nil))).get
noncomputable def X_tread:Cx:={P:=Tryz.prog,con:=c_tread,glob:=GL,m:=0,loops:=[]}
noncomputable def t_tread:Con:=fun args regs=>if regs.length=0 then nfun Tryz.prog GL c_tread [(0,[6,7,20,21,22],unroll X_tread 0 [6,7,20,21,22] [6,7] (bodyLoop Tryz.f177 0) 14)] Tryz.f177 args regs else .fail
theorem k_tread:Known Tryz.prog GL 177 t_tread:=known_loops 0 Tryz.func177 rfl (by kernel_rfl) mixed kc_tread (LAll.one (id:=0) (body:=bodyLoop Tryz.f177 0) (by kernel_rfl) rfl (unroll_ok (X:=X_tread) kc_tread mixed (LAll.none (by kernel_rfl)) [6,7,20,21,22] [6,7] 14))
noncomputable def rowX (X:Int):List Sc:=[Sc.i (aI X 63),Sc.i (aI (shrv .i64 X 6) 31),Sc.i (aI (shrv .i64 X 11) 127)]
noncomputable def XT (ds:List Int):List (List Sc):=[rowX (nK ds 0),rowX (nK ds 1),rowX (nK ds 2),rowX (nK ds 3),rowX (nK ds 4),rowX (nK ds 5),rowX (nK ds 6),rowX (nK ds 7),rowX (nK ds 8),rowX (nK ds 9),rowX (nK ds 10),rowX (nK ds 11),rowX (nK ds 12)]
noncomputable def GT (ds:List Int):List (List Sc):=[[Sc.b (gK ds 0)],[Sc.b (gK ds 1)],[Sc.b (gK ds 2)],[Sc.b (gK ds 3)],[Sc.b (gK ds 4)],[Sc.b (gK ds 5)],[Sc.b (gK ds 6)],[Sc.b (gK ds 7)],[Sc.b (gK ds 8)],[Sc.b (gK ds 9)],[Sc.b (gK ds 10)],[Sc.b (gK ds 11)],[Sc.b (gK ds 12)]]
noncomputable def oTr (ds:List Int):Out:=⟨.tu [.c (.h 0 0 13),.c (.h 1 0 13),.c .en],[some ⟨3,112,.recs [.i .i64,.i .i64,.i .i64] (XT ds)⟩,some ⟨1,4,.recs [.b] (GT ds)⟩]⟩
theorem tread_tree (m w c:Int) (ds:List Int) (R:Out→Prop):(t_tread [.ag [.i .i64 m,.i .i64 w,.i .i64 3,.i .i64 c,.l .u8 ds]] []).run R=(mustNum ds∧R (oTr ds)):=by kernel_rfl
noncomputable def tTread:Con:=fun args regs=>match args,regs with
 | [.ag [.i .i64 _,.i .i64 _,.i .i64 k,.i .i64 _,.l .u8 ds]],[]=>.must (k=3∧39≤ds.length∧ds.length<1000∧∀ x∈ds,0≤x∧x<256) (.ret (oTr ds))
 | _,_=>.fail
theorem kTread:Known Tryz.prog GL 177 tTread:=by
 refine k_tread.less fun args regs R h=>Box.out ?_
 unfold tTread at h
 split at h
 case h_2=>exact h.elim
 rename_i m w k c ds
 have h1:=h.1
 have h2:R (oTr ds):=h.2
 clear h
 obtain ⟨rfl,hm⟩:=h1
 exact Box.of_eq (tread_tree m w c ds R) ⟨hm,h2⟩
end tr
namespace ts
open Go Go.Nx pk ln hd tr
noncomputable def t_rtnum:Con:=fun args regs=>nfun Tryz.prog GL (fun _=>Option.none) [] Tryz.f87 args regs
theorem k_rtnum:Known Tryz.prog GL 87 t_rtnum:=known_inl Tryz.func87 rfl (by kernel_rfl) mixed con_none (by kernel_rfl)
noncomputable def c_rpacked:FuncId→Option Con:=conOf [(84,tRPut)]
theorem kc_rpacked:∀ f T,c_rpacked f=some T→Known Tryz.prog GL f T:=(Knowns.cons (known_gl kRPut) .nil).get
noncomputable def t_rpacked:Con:=fun args regs=>nfun Tryz.prog GL c_rpacked [] Tryz.f40 args regs
theorem k_rpacked:Known Tryz.prog GL 40 t_rpacked:=known_inl Tryz.func40 rfl (by kernel_rfl) mixed kc_rpacked (by kernel_rfl)
noncomputable def c_rtb:FuncId→Option Con:=conOf [(84,tRPut),(86,ham.tPutV),(87,t_rtnum),(40,t_rpacked)]
theorem kc_rtb:∀ f T,c_rtb f=some T→Known Tryz.prog GL f T:=(Knowns.cons (known_gl kRPut) (.cons (known_gl ham.kPutRV) (.cons k_rtnum (.cons k_rpacked .nil)))).get
noncomputable def X_rtb:Cx:={P:=Tryz.prog,con:=c_rtb,glob:=GL,m:=0,loops:=[]}
noncomputable def t_rtb:Con:=fun args regs=>if regs.length=0 then nfun Tryz.prog GL c_rtb [(0,[0,1,3,10,11],unroll X_rtb 0 [0,1,3,10,11] [0,1,10] (bodyLoop Tryz.f42 0) 14)] Tryz.f42 args regs else .fail
theorem k_rtb:Known Tryz.prog GL 42 t_rtb:=known_loops 0 Tryz.func42 rfl (by kernel_rfl) mixed kc_rtb (LAll.one (id:=0) (body:=bodyLoop Tryz.f42 0) (by kernel_rfl) rfl (unroll_ok (X:=X_rtb) kc_rtb mixed (LAll.none (by kernel_rfl)) [0,1,3,10,11] [0,1,10] 14))
noncomputable def c_rtbE:FuncId→Option Con:=conOf [(84,tRPut),(86,ham.tPutV),(87,t_rtnum),(40,t_rpacked)]
theorem kc_rtbE:∀ f T,c_rtbE f=some T→Known Tryz.prog GL f T:=(Knowns.cons (known_gl kRPut) (.cons (known_gl ham.kPutRV) (.cons k_rtnum (.cons k_rpacked .nil)))).get
noncomputable def X_rtbE:Cx:={P:=Tryz.prog,con:=c_rtbE,glob:=GL,m:=0,loops:=[]}
noncomputable def t_rtbE:Con:=fun args regs=>if regs.length=0 then nfun Tryz.prog GL c_rtbE [(0,[0,1,3,10,11],unroll X_rtbE 0 [0,1,3,10,11] [0,1,10] (bodyLoop Tryz.f42 0) 0)] Tryz.f42 args regs else .fail
theorem k_rtbE:Known Tryz.prog GL 42 t_rtbE:=known_loops 0 Tryz.func42 rfl (by kernel_rfl) mixed kc_rtbE (LAll.one (id:=0) (body:=bodyLoop Tryz.f42 0) (by kernel_rfl) rfl (unroll_ok (X:=X_rtbE) kc_rtbE mixed (LAll.none (by kernel_rfl)) [0,1,3,10,11] [0,1,10] 0))
def okTB (mag row code:Int):Bool:=decide (1≤mag∧mag≤8∧0≤code∧code≤15)&&(row==26||(row==28||row==29))
noncomputable def LTg (code:Int) (rows:List (List Sc)):List Int:=LT code (rows.getD 0 []) (rows.getD 1 []) (rows.getD 2 []) (rows.getD 3 []) (rows.getD 4 []) (rows.getD 5 []) (rows.getD 6 []) (rows.getD 7 []) (rows.getD 8 []) (rows.getD 9 []) (rows.getD 10 []) (rows.getD 11 []) (rows.getD 12 [])
theorem cons_of {α:Type} {l:List α} {n:Nat} (h:l.length=n+1):∃ a t,l=a::t∧t.length=n:=by
 cases l with
 | nil=>exact absurd h (by simp)
 | cons a t=>exact ⟨a,t,rfl,by simpa using h⟩
theorem list13 {α:Type} {rows:List α} (h:rows.length=13):∃ r0 r1 r2 r3 r4 r5 r6 r7 r8 r9 r10 r11 r12,rows=[r0,r1,r2,r3,r4,r5,r6,r7,r8,r9,r10,r11,r12]:=by
 obtain ⟨r0,l1,hl0,h⟩:=cons_of h
 obtain ⟨r1,l2,hl1,h⟩:=cons_of h
 obtain ⟨r2,l3,hl2,h⟩:=cons_of h
 obtain ⟨r3,l4,hl3,h⟩:=cons_of h
 obtain ⟨r4,l5,hl4,h⟩:=cons_of h
 obtain ⟨r5,l6,hl5,h⟩:=cons_of h
 obtain ⟨r6,l7,hl6,h⟩:=cons_of h
 obtain ⟨r7,l8,hl7,h⟩:=cons_of h
 obtain ⟨r8,l9,hl8,h⟩:=cons_of h
 obtain ⟨r9,l10,hl9,h⟩:=cons_of h
 obtain ⟨r10,l11,hl10,h⟩:=cons_of h
 obtain ⟨r11,l12,hl11,h⟩:=cons_of h
 obtain ⟨r12,l13,hl12,h⟩:=cons_of h
 have h13:=List.eq_nil_of_length_eq_zero h
 exact ⟨r0,r1,r2,r3,r4,r5,r6,r7,r8,r9,r10,r11,r12,by rw [hl0,hl1,hl2,hl3,hl4,hl5,hl6,hl7,hl8,hl9,hl10,hl11,hl12,h13]⟩
theorem Known_or {P:Program} {gl:List Nat} {f:FuncId} {A B T:Con} (ha:Known P gl f A) (hb:Known P gl f B) (h:∀ args regs R,(T args regs).run R→Box ((A args regs).run R)∨Box ((B args regs).run R)):Known P gl f T:=
 ⟨ha.goes,fun args regs R hR=>(h args regs R hR).elim (fun x=>ha.sound args regs R x.out) fun x=>hb.sound args regs R x.out⟩
noncomputable def rad9 (mag row:Int):Int:=bits .or .i64 (mag.tmod 8) (IntKind.i64.wrap (bits .and .i64 row 1 * 8))
def in16 (n:Int):Prop:=0≤n∧n<16
noncomputable def oRBy (mag row:Int) (ds:List Int):Out:=⟨.tu [.c (.h 0 0 (2+ds.length)),.c (.i .i64 0)],[some ⟨1,5,.ints .u8 (adr0 mag row::adr1 row::ds)⟩]⟩
def oRE (n:Int):Out:=⟨.tu [.c .sn,.c (.i .i64 n)],[]⟩
theorem rtb_26 (mag code:Int) (r0 r1 r2 r3 r4 r5 r6 r7 r8 r9 r10 r11 r12:List Sc) (R:Out→Prop):(t_rtb [.c (.i .i64 mag),.c (.i .i64 26),.c (.i .i64 code),.c (.lr k3 [r0,r1,r2,r3,r4,r5,r6,r7,r8,r9,r10,r11,r12])] []).run R =
 sel (decide (mag<1)) (R (oRE 101)) (sel (decide (mag > 8)) (R (oRE 101)) (sel (decide (code<0)) (R (oRE 101)) (sel (decide (code > 15)) (R (oRE 101)) (in16 code∧(In64 (nR r0)∧(In64 (nR r1)∧(In64 (nR r2)∧(In64 (nR r3)∧(In64 (nR r4)∧(In64 (nR r5)∧(In64 (nR r6)∧(In64 (nR r7)∧(In64 (nR r8)∧(In64 (nR r9)∧(In64 (nR r10)∧(In64 (nR r11)∧(In64 (nR r12)∧(in16 (rad9 mag 26)∧(in16 (shrv .i64 26 1)∧R (oRBy mag 26 (LT code r0 r1 r2 r3 r4 r5 r6 r7 r8 r9 r10 r11 r12))))))))))))))))))))):=by kernel_rfl
theorem rtb_28 (mag code:Int) (r0 r1 r2 r3 r4 r5 r6 r7 r8 r9 r10 r11 r12:List Sc) (R:Out→Prop):(t_rtb [.c (.i .i64 mag),.c (.i .i64 28),.c (.i .i64 code),.c (.lr k3 [r0,r1,r2,r3,r4,r5,r6,r7,r8,r9,r10,r11,r12])] []).run R =
 sel (decide (mag<1)) (R (oRE 101)) (sel (decide (mag > 8)) (R (oRE 101)) (sel (decide (code<0)) (R (oRE 101)) (sel (decide (code > 15)) (R (oRE 101)) (in16 code∧(In64 (nR r0)∧(In64 (nR r1)∧(In64 (nR r2)∧(In64 (nR r3)∧(In64 (nR r4)∧(In64 (nR r5)∧(In64 (nR r6)∧(In64 (nR r7)∧(In64 (nR r8)∧(In64 (nR r9)∧(In64 (nR r10)∧(In64 (nR r11)∧(In64 (nR r12)∧(in16 (rad9 mag 28)∧(in16 (shrv .i64 28 1)∧R (oRBy mag 28 (LT code r0 r1 r2 r3 r4 r5 r6 r7 r8 r9 r10 r11 r12))))))))))))))))))))):=by kernel_rfl
theorem rtb_29 (mag code:Int) (r0 r1 r2 r3 r4 r5 r6 r7 r8 r9 r10 r11 r12:List Sc) (R:Out→Prop):(t_rtb [.c (.i .i64 mag),.c (.i .i64 29),.c (.i .i64 code),.c (.lr k3 [r0,r1,r2,r3,r4,r5,r6,r7,r8,r9,r10,r11,r12])] []).run R =
 sel (decide (mag<1)) (R (oRE 101)) (sel (decide (mag > 8)) (R (oRE 101)) (sel (decide (code<0)) (R (oRE 101)) (sel (decide (code > 15)) (R (oRE 101)) (in16 code∧(In64 (nR r0)∧(In64 (nR r1)∧(In64 (nR r2)∧(In64 (nR r3)∧(In64 (nR r4)∧(In64 (nR r5)∧(In64 (nR r6)∧(In64 (nR r7)∧(In64 (nR r8)∧(In64 (nR r9)∧(In64 (nR r10)∧(In64 (nR r11)∧(In64 (nR r12)∧(in16 (rad9 mag 29)∧(in16 (shrv .i64 29 1)∧R (oRBy mag 29 (LT code r0 r1 r2 r3 r4 r5 r6 r7 r8 r9 r10 r11 r12))))))))))))))))))))):=by kernel_rfl
noncomputable def rtA (code:Int) (rows:List (List Sc)) (R:Out→Prop):Prop:=(sel (decide (code<0)) (R (oRE 101)) (sel (decide (code > 15)) (R (oRE 101)) (sel ((rows.length:Int) !=13) (R (oRE 102)) (in16 code∧False))))
theorem rtbE_tree (mag row code:Int) (rows:List (List Sc)) (R:Out→Prop):(t_rtbE [.c (.i .i64 mag),.c (.i .i64 row),.c (.i .i64 code),.c (.lr k3 rows)] []).run R =
 sel (decide (mag<1)) (R (oRE 101)) (sel (decide (mag > 8)) (R (oRE 101)) (sel (row !=26) (sel (row !=28) (sel (row !=29) (R (oRE 101)) (rtA code rows R)) (rtA code rows R)) (rtA code rows R))):=by kernel_rfl
noncomputable def tRTBg:Con:=fun args regs=>match args,regs with
 | [.c (.i .i64 mag),.c (.i .i64 row),.c (.i .i64 code),.c (.lr [.i .i64,.i .i64,.i .i64] rows)],[]=>.br (okTB mag row code) (.br (decide (rows.length=13)) (.ret (oRBy mag row (LTg code rows))) (.ret (oRE 102))) (.ret (oRE 101))
 | _,_=>.fail
theorem rad_all:∀ g<8,in16 (rad9 (Int.ofNat g+1) 26)∧in16 (rad9 (Int.ofNat g+1) 28)∧in16 (rad9 (Int.ofNat g+1) 29):=by unfold in16; decide +kernel
theorem rad_in (mg:Int) (hg:1≤mg∧mg≤8):in16 (rad9 mg 26)∧in16 (rad9 mg 28)∧in16 (rad9 mg 29):=by
 have:=rad_all (mg - 1).toNat (by omega)
 have e1:Int.ofNat (mg - 1).toNat+1=mg:=by show (((mg - 1).toNat:Nat):Int)+1=mg; omega
 rw [e1] at this
 exact this
theorem okTB_in {mag row code:Int} (h:okTB mag row code=true):(1≤mag∧mag≤8)∧(0≤code∧code≤15)∧(row=26∨row=28∨row=29):=by
 unfold okTB at h
 simp only [Bool.and_eq_true,decide_eq_true_eq,Bool.or_eq_true,beq_iff_eq] at h
 exact ⟨⟨h.1.1,h.1.2.1⟩,h.1.2.2,h.2⟩
theorem okTB_no {mag row code:Int} (h:okTB mag row code=false):¬ ((1≤mag∧mag≤8)∧(0≤code∧code≤15)∧(row=26∨row=28∨row=29)):=by
 intro hc
 rw [← Bool.not_eq_true] at h
 refine h ?_
 unfold okTB
 simp only [Bool.and_eq_true,decide_eq_true_eq,Bool.or_eq_true,beq_iff_eq]
 exact ⟨⟨hc.1.1,hc.1.2,hc.2.1⟩,hc.2.2⟩
theorem low_in {mag code:Int} {E B:Prop} (hm:1≤mag∧mag≤8) (hc:0≤code∧code≤15) (h:B):sel (decide (mag<1)) E (sel (decide (mag > 8)) E (sel (decide (code<0)) E (sel (decide (code > 15)) E B))):=
 selF (dF (by omega)) (selF (dF (by omega)) (selF (dF (by omega)) (selF (dF (by omega)) h)))
theorem rtE_in {mag row code:Int} {rows:List (List Sc)} {R:Out→Prop} (hl:rows.length≠13) (hk:okTB mag row code=true) (h:R (oRE 102)):Box ((t_rtbE [.c (.i .i64 mag),.c (.i .i64 row),.c (.i .i64 code),.c (.lr k3 rows)] []).run R):=by
 refine Box.of_eq (rtbE_tree mag row code rows R) ?_
 obtain ⟨hm,hc,hr⟩:=okTB_in hk
 have ha:rtA code rows R:=selF (dF (by omega)) (selF (dF (by omega)) (selT (by rw [bne_iff_ne]; omega) h))
 rcases hr with rfl | rfl | rfl
 ·exact selF (dF (by omega)) (selF (dF (by omega)) (selF rfl ha))
 ·exact selF (dF (by omega)) (selF (dF (by omega)) (selT rfl (selF rfl ha)))
 ·exact selF (dF (by omega)) (selF (dF (by omega)) (selT rfl (selT rfl (selF rfl ha))))
theorem rtG_in {mag row code:Int} {rows:List (List Sc)} {R:Out→Prop} (hl:rows.length=13) (hk:okTB mag row code=true) (h:R (oRBy mag row (LTg code rows))):Box ((t_rtb [.c (.i .i64 mag),.c (.i .i64 row),.c (.i .i64 code),.c (.lr k3 rows)] []).run R):=by
 obtain ⟨r0,r1,r2,r3,r4,r5,r6,r7,r8,r9,r10,r11,r12,rfl⟩:=list13 hl
 obtain ⟨hm,hc,hr⟩:=okTB_in hk
 have h:R (oRBy mag row (LT code r0 r1 r2 r3 r4 r5 r6 r7 r8 r9 r10 r11 r12)):=h
 have hg:=rad_in mag hm
 have hc' : in16 code:=⟨hc.1,by omega⟩
 rcases hr with rfl | rfl | rfl
 ·exact Box.of_eq (rtb_26 mag code r0 r1 r2 r3 r4 r5 r6 r7 r8 r9 r10 r11 r12 R) (low_in hm hc ⟨hc',nR_in r0,nR_in r1,nR_in r2,nR_in r3,nR_in r4,nR_in r5,nR_in r6,nR_in r7,nR_in r8,nR_in r9,nR_in r10,nR_in r11,nR_in r12,hg.1,by unfold in16; decide +kernel,h⟩)
 ·exact Box.of_eq (rtb_28 mag code r0 r1 r2 r3 r4 r5 r6 r7 r8 r9 r10 r11 r12 R) (low_in hm hc ⟨hc',nR_in r0,nR_in r1,nR_in r2,nR_in r3,nR_in r4,nR_in r5,nR_in r6,nR_in r7,nR_in r8,nR_in r9,nR_in r10,nR_in r11,nR_in r12,hg.2.1,by unfold in16; decide +kernel,h⟩)
 ·exact Box.of_eq (rtb_29 mag code r0 r1 r2 r3 r4 r5 r6 r7 r8 r9 r10 r11 r12 R) (low_in hm hc ⟨hc',nR_in r0,nR_in r1,nR_in r2,nR_in r3,nR_in r4,nR_in r5,nR_in r6,nR_in r7,nR_in r8,nR_in r9,nR_in r10,nR_in r11,nR_in r12,hg.2.2,by unfold in16; decide +kernel,h⟩)
theorem rtN_in {mag row code:Int} {rows:List (List Sc)} {R:Out→Prop} (hk:okTB mag row code=false) (h:R (oRE 101)):Box ((t_rtbE [.c (.i .i64 mag),.c (.i .i64 row),.c (.i .i64 code),.c (.lr k3 rows)] []).run R):=by
 refine Box.of_eq (rtbE_tree mag row code rows R) ?_
 have hn:=okTB_no hk
 refine sel_by (fun _=>h) fun h1=>sel_by (fun _=>h) fun h2=>?_
 have ha:(row=26∨row=28∨row=29)→rtA code rows R:=fun hr=>sel_by (fun _=>h) fun h3=>sel_by (fun _=>h) fun h4=>(hn ⟨⟨by omega,by omega⟩,⟨by omega,by omega⟩,hr⟩).elim
 by_cases a:row=26
 ·exact selF (by simp [bne,a]) (ha (.inl a))
 ·refine selT (by rw [bne_iff_ne]; exact a) ?_
  by_cases b:row=28
  ·exact selF (by simp [bne,b]) (ha (.inr (.inl b)))
  ·refine selT (by rw [bne_iff_ne]; exact b) ?_
   by_cases c:row=29
   ·exact selF (by simp [bne,c]) (ha (.inr (.inr c)))
   ·exact selT (by rw [bne_iff_ne]; exact c) h
theorem rtbg_in {mag row code:Int} {rows:List (List Sc)} {R:Out→Prop} (h:sel (okTB mag row code) (sel (decide (rows.length=13)) (R (oRBy mag row (LTg code rows))) (R (oRE 102))) (R (oRE 101))):Box ((t_rtb [.c (.i .i64 mag),.c (.i .i64 row),.c (.i .i64 code),.c (.lr k3 rows)] []).run R)∨Box ((t_rtbE [.c (.i .i64 mag),.c (.i .i64 row),.c (.i .i64 code),.c (.lr k3 rows)] []).run R):=by
 cases hk:okTB mag row code with
 | false=>
   rw [hk] at h
   exact .inr (rtN_in hk h)
 | true=>
   by_cases hl:rows.length=13
   ·rw [hk,dT hl] at h
    exact .inl (rtG_in hl hk h)
   ·rw [hk,dF hl] at h
    exact .inr (rtE_in hl hk h)
theorem kRTBg:Known Tryz.prog GL 42 tRTBg:=by
 refine Known_or k_rtb k_rtbE fun args regs R h=>?_
 unfold tRTBg at h
 split at h
 case h_2=>exact h.elim
 exact rtbg_in h
end ts
namespace lb
open Go Go.Nx pk ln hd
noncomputable def t_lmag:Con:=fun args regs=>nfun Tryz.prog GL (fun _=>Option.none) [] Tryz.f127 args regs
theorem k_lmag:Known Tryz.prog GL 127 t_lmag:=known_inl Tryz.func127 rfl (by kernel_rfl) mixed con_none (by kernel_rfl)
theorem lmag_tree (n:Int) (R:Out→Prop):(t_lmag [.c (.i .i64 n)] []).run R=sel (n.tmod 8 !=0) (R ⟨.v (.c (.i .i64 (n.tmod 8))),[]⟩) (R ⟨.v (.c (.i .i64 8)),[]⟩):=by kernel_rfl
noncomputable def tLMag:Con:=fun args regs=>match args,regs with
 | [.c (.i .i64 n)],[]=>.ret ⟨.v (.c (.i .i64 (magOf n))),[]⟩
 | _,_=>.fail
theorem kLMag:Known Tryz.prog GL 127 tLMag:=by
 refine k_lmag.less fun args regs R h=>Box.out ?_
 unfold tLMag at h
 split at h
 case h_2=>exact h.elim
 rename_i n
 have h2:R ⟨.v (.c (.i .i64 (magOf n))),[]⟩:=h
 clear h
 refine Box.of_eq (lmag_tree n R) ?_
 unfold magOf at h2
 cases hm:(n.tmod 8==0) with
 | true=>rw [hm] at h2; exact selF (by simp [bne,hm]) h2
 | false=>rw [hm] at h2; exact selT (by simp [bne,hm]) h2
noncomputable def c_lread:FuncId→Option Con:=conOf [(125,t_part),(117,tOpn),(126,t_of),(127,tLMag)]
theorem kc_lread:∀ f T,c_lread f=some T→Known Tryz.prog GL f T:=(Knowns.cons k_part (.cons kOpn (.cons k_of (.cons kLMag .nil)))).get
noncomputable def X_lread:Cx:={P:=Tryz.prog,con:=c_lread,glob:=GL,m:=0,loops:=[]}
noncomputable def t_lread:Con:=fun args regs=>if regs.length=0 then nfun Tryz.prog GL c_lread [(0,[1,2,4,21],unroll X_lread 0 [1,2,4,21] [2,4] (bodyLoop Tryz.f179 0) 7)] Tryz.f179 args regs else .fail
theorem k_lread:Known Tryz.prog GL 179 t_lread:=known_loops 0 Tryz.func179 rfl (by kernel_rfl) mixed kc_lread (LAll.one (id:=0) (body:=bodyLoop Tryz.f179 0) (by kernel_rfl) rfl (unroll_ok (X:=X_lread) kc_lread mixed (LAll.none (by kernel_rfl)) [1,2,4,21] [2,4] 7))
noncomputable def ALLg (ds:List Int) (k:Nat):Bool:=[ds.getD (6 * k) 0,ds.getD (6 * k+1) 0,ds.getD (6 * k+2) 0,ds.getD (6 * k+3) 0,ds.getD (6 * k+4) 0,ds.getD (6 * k+5) 0].all getB
noncomputable def lkM (m:Int) (ds:List Int) (k:Nat):Int:=magOf (bits .xor .i64 (aI m 7) (oI (shrv .i64 (G ds (6 * k+3)) 3) (shlv .i64 (shrv .i64 (G ds (6 * k+5)) 2) 1)))
noncomputable def lkP (ds:List Int) (k:Nat):Int:=pageOf (G ds (6 * k)) (G ds (6 * k+1))
noncomputable def lkS (ds:List Int) (k:Nat):Int:=subOf (G ds (6 * k+2)) (G ds (6 * k+3)) (G ds (6 * k+4)) (G ds (6 * k+5))
noncomputable def lkC (m:Int) (ds:List Int) (r:Nat→Bool):List NC:=[.i .i64 (bif r 0 then lkM m ds 0 else 0),.i .i64 (bif r 0 then lkP ds 0 else 0),.i .i64 (bif r 0 then lkS ds 0 else 0),.i .i64 (bif r 1 then lkM m ds 1 else 0),.i .i64 (bif r 1 then lkP ds 1 else 0),.i .i64 (bif r 1 then lkS ds 1 else 0),.i .i64 (bif r 2 then lkM m ds 2 else 0),.i .i64 (bif r 2 then lkP ds 2 else 0),.i .i64 (bif r 2 then lkS ds 2 else 0),.i .i64 (bif r 3 then lkM m ds 3 else 0),.i .i64 (bif r 3 then lkP ds 3 else 0),.i .i64 (bif r 3 then lkS ds 3 else 0),.i .i64 (bif r 4 then lkM m ds 4 else 0),.i .i64 (bif r 4 then lkP ds 4 else 0),.i .i64 (bif r 4 then lkS ds 4 else 0),.i .i64 (bif r 5 then lkM m ds 5 else 0),.i .i64 (bif r 5 then lkP ds 5 else 0),.i .i64 (bif r 5 then lkS ds 5 else 0)]
noncomputable def oLk (m:Int) (ds:List Int) (r:Nat→Bool):Out:=⟨.tu [.ag (lkC m ds r),.c .en],[]⟩
def oLE:Out:=⟨.tu [.ag [.i .i64 0,.i .i64 0,.i .i64 0,.i .i64 0,.i .i64 0,.i .i64 0,.i .i64 0,.i .i64 0,.i .i64 0,.i .i64 0,.i .i64 0,.i .i64 0,.i .i64 0,.i .i64 0,.i .i64 0,.i .i64 0,.i .i64 0,.i .i64 0],.c (.e eKnd)],[]⟩
noncomputable def lkE (ds:List Int) (F:List Bool→Prop):List Nat→Prop
 | []=>F []
 | k::ks=>mustP ds (6 * k) 6∧sel (ALLg ds k) (lkE ds (fun r=>F (true::r)) ks) (lkE ds (fun r=>F (false::r)) ks)
theorem lkE_in (ds:List Int):∀ (ks:List Nat) (F:List Bool→Prop),(∀ k∈ks,mustP ds (6 * k) 6)→F (ks.map (ALLg ds))→lkE ds F ks
 | [],_,_,h=>h
 | k::ks,F,hm,h=>by
   refine ⟨hm k (by simp),?_⟩
   have h:F (ALLg ds k::ks.map (ALLg ds)):=h
   cases hk:ALLg ds k with
   | true=>rw [hk] at h; exact selT rfl (lkE_in ds ks _ (fun j hj=>hm j (by simp [hj])) h)
   | false=>rw [hk] at h; exact selF rfl (lkE_in ds ks _ (fun j hj=>hm j (by simp [hj])) h)
def asF (r:List Bool) (k:Nat):Bool:=r.getD k false
theorem lread_tree (m w k c:Int) (ds:List Int) (R:Out→Prop):(t_lread [.ag [.i .i64 m,.i .i64 w,.i .i64 k,.i .i64 c,.l .u8 ds]] []).run R =
 sel (k !=4) (R oLE) (sel (c !=0) (R oLE) (lkE ds (fun r=>R (oLk m ds (asF r))) [0,1,2,3,4,5])):=by kernel_rfl
noncomputable def xM (mag m:Int):Int:=bits .and .i64 (bits .xor .i64 mag m) 7
noncomputable def tLread:Con:=fun args regs=>match args,regs with
 | [.ag [.i .i64 m,.i .i64 _,.i .i64 k,.i .i64 c,.l .u8 ds]],[]=>.must (k=4∧c=0∧36≤ds.length∧ds.length<1000) (.ret (oLk m ds (asF ([0,1,2,3,4,5].map (ALLg ds)))))
 | _,_=>.fail
theorem kLread:Known Tryz.prog GL 179 tLread:=by
 refine k_lread.less fun args regs R h=>Box.out ?_
 unfold tLread at h
 split at h
 case h_2=>exact h.elim
 rename_i m w k c ds
 have h1:=h.1
 have h2:R (oLk m ds (asF ([0,1,2,3,4,5].map (ALLg ds)))):=h.2
 clear h
 obtain ⟨rfl,rfl,hl,hm⟩:=h1
 refine Box.of_eq (lread_tree m w 4 0 ds R) (selF rfl (selF rfl (lkE_in ds [0,1,2,3,4,5] _ (fun k hk=>?_) h2)))
 have hk:k≤5:=by
  simp only [List.mem_cons,List.not_mem_nil,or_false] at hk
  omega
 exact ⟨rfl,by simp,Int.le_refl _,by omega,by omega,by omega,by omega⟩
end lb
namespace mac
open Go Go.Nx pk ac sto pge dec
noncomputable def mgReg (m:Mv):Reg:=⟨1081,97,.sg (mgSegs (mgOf m) [] fun q=>[.cells q])⟩
noncomputable def t_trS:Con:=softT [] [0,1] [] [] 0 tr.tTread
theorem k_trS:Known Tryz.prog GL 177 t_trS:=tr.kTread.soft [] [0,1] [] [] 0
theorem trS_tree (m w k c:Int) (ds:List Int) (R:Out→Prop):(t_trS [.ag [.i .i64 m,.i .i64 w,.i .i64 k,.i .i64 c,.l .u8 ds]] []).run R =
 ((k=3∧39≤ds.length∧ds.length<1000∧∀ x∈ds,0≤x∧x<256)∧(13=13∧(13=13∧R ⟨.tu [.c (.lr K3 (tr.XT ds)),.c (.lr [.b] (tr.GT ds)),.c .en],[]⟩))):=by kernel_rfl
noncomputable def tTrS:Con:=fun args regs=>match args,regs with
 | [.ag [.i _ m,.i _ w,.i _ k,.i _ c,.l _ ds]],[]=>.must (args=[.ag [.i .i64 m,.i .i64 w,.i .i64 k,.i .i64 c,.l .u8 ds]]∧k=3∧ds.length=39∧∀ x∈ds,0≤x∧x<256) (.ret ⟨.tu [.c (.lr K3 (tr.XT ds)),.c (.lr [.b] (tr.GT ds)),.c .en],[]⟩)
 | _,_=>.fail
theorem kTrS:Known Tryz.prog GL 177 tTrS:=by
 refine k_trS.less fun args regs R h=>Box.out ?_
 unfold tTrS at h
 split at h
 case h_2=>exact h.elim
 rename_i _ m _ w _ k _ c _ ds
 obtain ⟨⟨h1,hk,hl,hb⟩,h⟩:=h
 rw [h1]
 exact Box.of_eq (trS_tree m w k c ds R) ⟨⟨hk,by omega,by omega,hb⟩,rfl,rfl,h⟩
noncomputable def c_ext:FuncId→Option Con:=conOf [(177,tTrS),(178,tExt)]
theorem kc_ext:∀ f T,c_ext f=some T→Known Tryz.prog GL f T:=(Knowns.cons kTrS (.cons kExt .nil)).get
noncomputable def t_ext:Con:=fun args regs=>nfun Tryz.prog GL c_ext [] Tryz.f133 args regs
theorem k_ext:Known Tryz.prog GL 133 t_ext:=known_inl Tryz.func133 rfl (by kernel_rfl) mixed kc_ext (by kernel_rfl)
noncomputable def c_lnk:FuncId→Option Con:=conOf [(179,lb.tLread)]
theorem kc_lnk:∀ f T,c_lnk f=some T→Known Tryz.prog GL f T:=(Knowns.cons lb.kLread .nil).get
noncomputable def t_lnk:Con:=fun args regs=>nfun Tryz.prog GL c_lnk [] Tryz.f134 args regs
theorem k_lnk:Known Tryz.prog GL 134 t_lnk:=known_inl Tryz.func134 rfl (by kernel_rfl) mixed kc_lnk (by kernel_rfl)
noncomputable def oMg (m:Mv):Out:=⟨.v (.c .en),[some (mgReg m)]⟩
noncomputable def lkRow (mg:Int) (ds:List Int) (k:Nat):List Sc:=[.i (bif lb.asF ([0,1,2,3,4,5].map (lb.ALLg ds)) k then lb.lkM mg ds k else 0),.i (bif lb.asF ([0,1,2,3,4,5].map (lb.ALLg ds)) k then lb.lkP ds k else 0),.i (bif lb.asF ([0,1,2,3,4,5].map (lb.ALLg ds)) k then lb.lkS ds k else 0)]
noncomputable def lkR (mg:Int) (ds:List Int):List (List Sc):=[lkRow mg ds 0,lkRow mg ds 1,lkRow mg ds 2,lkRow mg ds 3,lkRow mg ds 4,lkRow mg ds 5]
def Mv.with (m:Mv) (p:Pg):Mv:={m with p:=p}
theorem ext_tree (m:Mv) (p:Px) (R:Out→Prop):(t_ext [.c (.p 0 0 0),p.nv] [mgReg m]).run R =
 (([p.nv]=[p.nv]∧p.kd=3∧p.ds.length=39∧∀ x∈p.ds,0≤x∧x<256)∧sel (decide (p.cd≤14)) (([pgV m.p,.c (.i .i64 p.cd),.c (.lr K3 (tr.XT p.ds))]=[pgV m.p,.c (.i .i64 p.cd),.c (.lr K3 (tr.XT p.ds))]∧m.p.ex.length≤1000000)∧
   R (oMg (m.with (extraP m.p p.cd (tr.XT p.ds))))) (R (oMg m))):=by kernel_rfl
theorem lnk_tree (m:Mv) (p:Px) (R:Out→Prop):(t_lnk [.c (.p 0 0 0),p.nv] [mgReg m]).run R =
 sel (p.cd !=0) (R (oMg m)) ((p.kd=4∧p.cd=0∧36≤p.ds.length∧p.ds.length<1000)∧R (oMg (m.with {m.p with lk:=lkR p.mg p.ds,ld:=true}))):=by kernel_rfl
def rdM1:List Reg→Option Mv
 | [⟨_,_,.sg l⟩]=>some (rdMv l 0 0)
 | _=>none
noncomputable def Mv.extra (m:Mv) (p:Px):Mv:=match decide (p.cd≤14) with
 | true=>m.with (extraP m.p p.cd (tr.XT p.ds))
 | false=>m
noncomputable def Mv.linked (m:Mv) (p:Px):Mv:=match p.cd !=0 with
 | true=>m
 | false=>m.with {m.p with lk:=lkR p.mg p.ds,ld:=true}
def rdPv:NV→Option Px
 | .ag [.i _ a,.i _ b,.i _ c,.i _ d,.l _ ds]=>some ⟨a,b,c,d,ds⟩
 | _=>none
noncomputable def tEx:Con:=fun args regs=>match args with
 | [.c (.p 0 0 0),v]=>(match rdPv v,rdM1 regs with
   | some p,some m=>.must ((args=[.c (.p 0 0 0),p.nv]∧regs=[mgReg m])∧(p.kd=3∧p.ds.length=39∧∀ x∈p.ds,0≤x∧x<256)∧fits m.p) (.ret (oMg (m.extra p)))
   | _,_=>.fail)
 | _=>.fail
noncomputable def tLk:Con:=fun args regs=>match args with
 | [.c (.p 0 0 0),v]=>(match rdPv v,rdM1 regs with
   | some p,some m=>.must ((args=[.c (.p 0 0 0),p.nv]∧regs=[mgReg m])∧(p.kd=4∧p.ds.length=39)) (.ret (oMg (m.linked p)))
   | _,_=>.fail)
 | _=>.fail
attribute [local irreducible] t_ext t_lnk in
theorem kEx:Known Tryz.prog GL 133 tEx:=by
 refine k_ext.less fun args regs R h=>?_
 unfold tEx at h
 split at h
 case h_2=>exact h.elim
 split at h
 case h_2=>exact h.elim
 rename_i p m _ _
 obtain ⟨⟨⟨h1,h2⟩,⟨hk,hl,hb⟩,hf⟩,h⟩:=h
 rw [h1,h2]
 refine (ext_tree m p R).mpr ⟨⟨rfl,hk,hl,hb⟩,?_⟩
 have h:R (oMg (m.extra p)):=h
 unfold Mv.extra at h
 unfold fits at hf
 cases hc:decide (p.cd≤14) with
 | true=>rw [hc] at h; exact sT rfl ⟨⟨rfl,by omega⟩,h⟩
 | false=>rw [hc] at h; exact sF rfl h
attribute [local irreducible] t_ext t_lnk in
theorem kLk:Known Tryz.prog GL 134 tLk:=by
 refine k_lnk.less fun args regs R h=>?_
 unfold tLk at h
 split at h
 case h_2=>exact h.elim
 split at h
 case h_2=>exact h.elim
 rename_i p m _ _
 obtain ⟨⟨⟨h1,h2⟩,hk,hl⟩,h⟩:=h
 rw [h1,h2]
 refine (lnk_tree m p R).mpr ?_
 have h:R (oMg (m.linked p)):=h
 unfold Mv.linked at h
 cases hc:(p.cd !=0) with
 | true=>rw [hc] at h; exact sT rfl h
 | false=>
   rw [hc] at h
   refine sF rfl ⟨⟨hk,by simpa using hc,by omega,by omega⟩,h⟩
noncomputable def c_ins:FuncId→Option Con:=conOf [(132,tPgRow),(133,tEx),(134,tLk),(75,tr.tRegion)]
theorem kc_ins:∀ f T,c_ins f=some T→Known Tryz.prog GL f T:=(Knowns.cons kPgRow (.cons kEx (.cons kLk (.cons tr.kRegion .nil)))).get
noncomputable def t_ins0:Con:=fun args regs=>nfun Tryz.prog GL c_ins [] Tryz.f77 args regs
theorem k_ins0:KnownF Tryz.prog GL 77 t_ins0:=known_inlF Tryz.func77 rfl (by kernel_rfl) mixed kc_ins (by kernel_rfl)
noncomputable def t_inC:Con:=softT [] [] [] [] 9 (canonT 8 [(1,2,ordReg [])] none t_ins0)
theorem k_inC:Known Tryz.prog GL 77 t_inC:=(k_ins0.canon 8 [(1,2,ordReg [])] none).soft [] [] [] [] 9
def Mc.withV (M:Mc) (g:Nat) (m:Mv):Mc:={M with v:=upd M.v g m}
theorem withV_self (M:Mc) (g:Nat):M.withV g (M.v g)=M:=by
 have:upd M.v g (M.v g)=M.v:=by
  funext k
  by_cases e:k=g
  ·subst e; exact upd_same _ _ _
  ·exact upd_other e
 unfold Mc.withV
 rw [this]
noncomputable def rgT (k c:Int) (ds:List Int) (A B:Prop):Prop:=(39≤ds.length∧ds.length<1000∧∀ x∈ds,0≤x∧x<256)∧sel (tr.regB k c ds) A B
noncomputable def rgN (k c:Int) (ds:List Int):Int:=bif tr.regB k c ds then tr.regN ds else 0
noncomputable def inT (M:Mc) (g:Nat) (row kd cd:Int) (ds:List Int) (R:Out→Prop):Prop:=
 sel (!(M.v g).opn) (R (oMe M .en)) (sel (kd==2)
  (([pgV (M.v g).p,.c (.i .i64 row),.c (.l .u8 ds)]=[pgV (M.v g).p,.c (.i .i64 row),.c (.l .u8 ds)]∧(M.v g).p.ex.length≤1000000∧∀ b∈ds,0≤b∧b<256)∧R (oMe (M.withV g ((M.v g).with (rowP (M.v g).p row ds))) .en))
  (sel (kd==3) ((([NV.c (.p 0 0 0),(⟨(g:Int),row,kd,cd,ds⟩:Px).nv]=[.c (.p 0 0 0),(⟨(g:Int),row,kd,cd,ds⟩:Px).nv]∧[mgReg (M.v g)]=[mgReg (M.v g)])∧(kd=3∧ds.length=39∧∀ x∈ds,0≤x∧x<256)∧fits (M.v g).p)∧R (oMe (M.withV g ((M.v g).extra ⟨g,row,kd,cd,ds⟩)) .en))
  (sel (kd==4) ((([NV.c (.p 0 0 0),(⟨(g:Int),row,kd,cd,ds⟩:Px).nv]=[.c (.p 0 0 0),(⟨(g:Int),row,kd,cd,ds⟩:Px).nv]∧[mgReg (M.v g)]=[mgReg (M.v g)])∧(kd=4∧ds.length=39))∧R (oMe (M.withV g ((M.v g).linked ⟨g,row,kd,cd,ds⟩)) .en))
  (sel (kd==5) (rgT kd cd ds (R (oMe (M.withV g ((M.v g).with {(M.v g).p with df:=IntKind.i64.wrap (1+rgN kd cd ds)})) .en)) (R (oMe M .en))) (R (oMe M .en))))))
theorem in_tree1 (M:Mc) (row kd cd:Int) (ds:List Int) (R:Out→Prop):(t_inC [.c (.p 0 0 0),(⟨1,row,kd,cd,ds⟩:Px).nv] (inM M)).run R=inT M 1 row kd cd ds R:=by kernel_rfl
theorem in_tree2 (M:Mc) (row kd cd:Int) (ds:List Int) (R:Out→Prop):(t_inC [.c (.p 0 0 0),(⟨2,row,kd,cd,ds⟩:Px).nv] (inM M)).run R=inT M 2 row kd cd ds R:=by kernel_rfl
theorem in_tree3 (M:Mc) (row kd cd:Int) (ds:List Int) (R:Out→Prop):(t_inC [.c (.p 0 0 0),(⟨3,row,kd,cd,ds⟩:Px).nv] (inM M)).run R=inT M 3 row kd cd ds R:=by kernel_rfl
theorem in_tree4 (M:Mc) (row kd cd:Int) (ds:List Int) (R:Out→Prop):(t_inC [.c (.p 0 0 0),(⟨4,row,kd,cd,ds⟩:Px).nv] (inM M)).run R=inT M 4 row kd cd ds R:=by kernel_rfl
theorem in_tree5 (M:Mc) (row kd cd:Int) (ds:List Int) (R:Out→Prop):(t_inC [.c (.p 0 0 0),(⟨5,row,kd,cd,ds⟩:Px).nv] (inM M)).run R=inT M 5 row kd cd ds R:=by kernel_rfl
theorem in_tree6 (M:Mc) (row kd cd:Int) (ds:List Int) (R:Out→Prop):(t_inC [.c (.p 0 0 0),(⟨6,row,kd,cd,ds⟩:Px).nv] (inM M)).run R=inT M 6 row kd cd ds R:=by kernel_rfl
theorem in_tree7 (M:Mc) (row kd cd:Int) (ds:List Int) (R:Out→Prop):(t_inC [.c (.p 0 0 0),(⟨7,row,kd,cd,ds⟩:Px).nv] (inM M)).run R=inT M 7 row kd cd ds R:=by kernel_rfl
theorem in_tree8 (M:Mc) (row kd cd:Int) (ds:List Int) (R:Out→Prop):(t_inC [.c (.p 0 0 0),(⟨8,row,kd,cd,ds⟩:Px).nv] (inM M)).run R=inT M 8 row kd cd ds R:=by kernel_rfl
end mac
namespace sv
open Go Go.Nx pk ln hd lb
noncomputable def t_rev8:Con:=fun args regs=>nfun Tryz.prog GL (fun _=>Option.none) [] Tryz.f174 args regs
theorem k_rev8:Known Tryz.prog GL 174 t_rev8:=known_inl Tryz.func174 rfl (by kernel_rfl) mixed con_none (by kernel_rfl)
noncomputable def c_pturn:FuncId→Option Con:=conOf [(174,t_rev8)]
theorem kc_pturn:∀ f T,c_pturn f=some T→Known Tryz.prog GL f T:=(Knowns.cons k_rev8 .nil).get
noncomputable def t_pturn:Con:=fun args regs=>nfun Tryz.prog GL c_pturn [] Tryz.f128 args regs
theorem k_pturn:Known Tryz.prog GL 128 t_pturn:=known_inl Tryz.func128 rfl (by kernel_rfl) mixed kc_pturn (by kernel_rfl)
noncomputable def t_sfair:Con:=fun args regs=>nfun Tryz.prog GL (fun _=>Option.none) [] Tryz.f176 args regs
theorem k_sfair:Known Tryz.prog GL 176 t_sfair:=known_inl Tryz.func176 rfl (by kernel_rfl) mixed con_none (by kernel_rfl)
noncomputable def c_partU:FuncId→Option Con:=conOf [(129,t_at)]
theorem kc_partU:∀ f T,c_partU f=some T→Known Tryz.prog GL f T:=(Knowns.cons k_at .nil).get
noncomputable def X_partU:Cx:={P:=Tryz.prog,con:=c_partU,glob:=GL,m:=0,loops:=[]}
noncomputable def t_partU:Con:=fun args regs=>if regs.length=0 then nfun Tryz.prog GL c_partU [(0,[1,3,7,12,13],unroll X_partU 0 [1,3,7,12,13] [7] (bodyLoop Tryz.f125 0) 21)] Tryz.f125 args regs else .fail
theorem k_partU:Known Tryz.prog GL 125 t_partU:=known_loops 0 Tryz.func125 rfl (by kernel_rfl) mixed kc_partU (LAll.one (id:=0) (body:=bodyLoop Tryz.f125 0) (by kernel_rfl) rfl (unroll_ok (X:=X_partU) kc_partU mixed (LAll.none (by kernel_rfl)) [1,3,7,12,13] [7] 21))
def odd (x:Int):Bool:=!isEv x
noncomputable def aU (a b:Int):Int:=bits .and .u8 a b
noncomputable def oU (a b:Int):Int:=bits .or .u8 a b
theorem podd_tree (b:Int) (R:Out→Prop):(t_podd [.c (.i .u8 b)] []).run R=sel (decide (0≤b)) (sel (decide (b<(tab.size:Int))) (R (oB ((IntKind.i64.wrap (byteAt tab b.toNat)).tmod 2==1))) False) False:=by kernel_rfl
theorem tab_odd:∀ n<256,((IntKind.i64.wrap (byteAt tab n)).tmod 2==1)=odd (Int.ofNat n):=by decide +kernel
noncomputable def tOddV:Con:=fun args regs=>match args,regs with
 | [.c (.i .u8 b)],[]=>.must (0≤b∧b<256) (.ret (oB (odd b)))
 | _,_=>.fail
theorem kOddV:Known Tryz.prog GL 141 tOddV:=by
 refine (known_gl k_podd).less fun args regs R h=>Box.out ?_
 unfold tOddV at h
 split at h
 case h_2=>exact h.elim
 rename_i b
 have h1:=h.1
 have h2:R (oB (odd b)):=h.2
 clear h
 refine Box.of_eq (podd_tree b R) (selT (dT h1.1) (selT (dT (by rw [tab_size]; exact h1.2)) ?_))
 obtain ⟨n,hn,rfl⟩:=byte_nat h1
 rw [show (Int.ofNat n).toNat=n from rfl,tab_odd n hn]
 exact h2
noncomputable def mkO (c:Int):Int:=bif odd (aU c 127) then aU c 127 else oU (aU c 127) 128
theorem aU_in (a b:Int):0≤aU a b∧aU a b<256:=by
 unfold aU bits
 rw [IntKind.wrap_u8]
 omega
theorem oU_in (a b:Int):0≤oU a b∧oU a b<256:=by
 unfold oU bits
 rw [IntKind.wrap_u8]
 omega
theorem mkO_in (c:Int):0≤mkO c∧mkO c<256:=by
 unfold mkO
 cases odd (aU c 127) with
 | true=>exact aU_in _ _
 | false=>exact oU_in _ _
noncomputable def tMkO:Con:=fun args regs=>match args,regs with
 | [.c (.i .u8 c)],[]=>.ret ⟨.v (.c (.i .u8 (mkO c))),[]⟩
 | _,_=>.fail
def revN (x:Nat):Nat:=(List.range 8).foldl (fun a i=>a+(x / 2 ^ i % 2) * 2 ^ (7 - i)) 0
def rv (b:Int):Int:=(revN b.toNat:Int)
noncomputable def rtab:ByteArray:=⟨((List.range 256).map fun i=>UInt8.ofNat (revN i)).toArray⟩
theorem turn_tree (b:Int) (R:Out→Prop):(t_pturn [.c (.i .u8 b)] []).run R=sel (decide (0≤b)) (sel (decide (b<(rtab.size:Int))) (R ⟨.v (.c (.i .u8 (byteAt rtab b.toNat))),[]⟩) False) False:=by kernel_rfl
theorem rtab_size:rtab.size=256:=by decide +kernel
theorem rtab_rev:∀ n<256,byteAt rtab n=rv (Int.ofNat n):=by decide +kernel
noncomputable def tTurn:Con:=fun args regs=>match args,regs with
 | [.c (.i .u8 b)],[]=>.must (0≤b∧b<256) (.ret ⟨.v (.c (.i .u8 (rv b))),[]⟩)
 | _,_=>.fail
theorem kTurn:Known Tryz.prog GL 128 tTurn:=by
 refine k_pturn.less fun args regs R h=>Box.out ?_
 unfold tTurn at h
 split at h
 case h_2=>exact h.elim
 rename_i b
 have h1:=h.1
 have h2:R ⟨.v (.c (.i .u8 (rv b))),[]⟩:=h.2
 clear h
 refine Box.of_eq (turn_tree b R) (selT (dT h1.1) (selT (dT (by rw [rtab_size]; exact h1.2)) ?_))
 obtain ⟨n,hn,rfl⟩:=byte_nat h1
 rw [show (Int.ofNat n).toNat=n from rfl,rtab_rev n hn]
 exact h2
noncomputable abbrev fDigs:=Tryz.f175
noncomputable def X_dg:Cx:={P:=Tryz.prog,con:=fun _=>Option.none,glob:=GL,m:=0,loops:=[]}
noncomputable def sDg (bs:List Int) (n k:Int):St:={fr:=frame 41 [(0,.v (.c (.l .u8 bs))),(6,.v (.c (.i .i64 n))),(7,.v (.c (.i .i64 k)))],rg:=[]}
noncomputable def dDg (n:Int):St:={fr:=frame 41 [(6,.v (.c (.i .i64 n)))],rg:=[]}
noncomputable def rDg (n:Int):St:={fr:=frame 41 [(4,.v (.c (.i .i64 0))),(5,.v (.c (.b false))),(6,.v (.c (.i .i64 n)))],rg:=[]}
noncomputable def kD (k:Int):Int:=IntKind.i64.wrap (k.tdiv 2)
noncomputable def shD (k:Int):Int:=IntKind.i64.wrap (4 - IntKind.i64.wrap (4 * k.tmod 2))
noncomputable def dAt (bs:List Int) (k:Int):Int:=IntKind.i64.wrap (IntKind.i64.wrap (aU (shrv .u8 (bs.getD (kD k).toNat 0) (shD k)) 15) - 1)
noncomputable def ac (n d:Int):Int:=IntKind.i64.wrap (IntKind.i64.wrap (10 * n)+d)
theorem round_dg (bs:List Int) (n k:Int) (R:RO→Prop):(roundT X_dg 0 [0,6,7] [4,5,6] (bodyLoop fDigs 0) (sDg bs n k)).run R =
 sel (decide (k<IntKind.i64.wrap (2 * (bs.length:Int)))) (sel (decide (0≤kD k)) (sel (decide (kD k<(bs.length:Int))) (sel (decide ((kD k).toNat<bs.length)) (sel (decide (0≤shD k)) (sel (decide (dAt bs k<0)) (R (.done .ret (rDg n))) (sel (decide (dAt bs k > 9)) (R (.done .ret (rDg n))) (R (.next (sDg bs (ac n (dAt bs k)) (IntKind.i64.wrap (k+1))))))) False) False) False) False) (R (.done .normal (dDg n))):=by kernel_rfl
def okd (d:Int):Bool:=!(decide (d<0)||decide (d > 9))
noncomputable def goD (bs:List Int):Nat→Nat→Int→Bool × Int
 | 0,_,n=>(true,n)
 | r+1,k,n=>bif okd (dAt bs (k:Int)) then goD bs r (k+1) (ac n (dAt bs (k:Int))) else (false,n)
noncomputable def pDg:List Pat:=pats 41 [(0,.l .u8),(6,.i .i64),(7,.i .i64)]
noncomputable def lDg:List Leaf × List (List Leaf)→Tr (NExit × St):=fun x=>match x with
 | ([.l bs,.i n,.i k],[])=>.must (bs.length<1000∧0≤k∧k≤2 * (bs.length:Int)) (.br (goD bs (2 * bs.length - k.toNat) k.toNat n).1 (.ret (.normal,dDg (goD bs (2 * bs.length - k.toNat) k.toNat n).2)) (.ret (.ret,rDg (goD bs (2 * bs.length - k.toNat) k.toNat n).2)))
 | _=>.fail
def muDg:List Leaf × List (List Leaf)→Nat:=fun x=>match x with
 | ([.l bs,.i _,.i k],_)=>(2 * (bs.length:Int) - k).toNat
 | _=>0
theorem loop_dg:LOk Tryz.prog GL 0 0 (bodyLoop fDigs 0) (sumP pDg [] lDg):=by
 refine sumP_ok (X:=X_dg) con_none mixed (LAll.none (by kernel_rfl)) [0,6,7] [4,5,6] _ _ _ muDg ?_
 rintro ⟨p,q⟩ R h
 unfold lDg at h
 split at h
 case h_2=>exact h.elim
 rename_i bs n k he
 cases he
 have h1:=h.1
 have h2:sel (goD bs (2 * bs.length - k.toNat) k.toNat n).1 (R (.normal,dDg (goD bs (2 * bs.length - k.toNat) k.toNat n).2)) (R (.ret,rDg (goD bs (2 * bs.length - k.toNat) k.toNat n).2)):=h.2
 clear h
 obtain ⟨hl,hk0,hk⟩:=h1
 show (roundT X_dg 0 [0,6,7] [4,5,6] (bodyLoop fDigs 0) (sDg bs n k)).run _
 rw [round_dg]
 have w1:IntKind.i64.wrap (2 * (bs.length:Int))=2 * (bs.length:Int):=by rw [IntKind.wrap_i64]; omega
 rw [w1]
 refine sel_by (fun hlt=>?_) fun hge=>?_
 ·have ek:kD k=k / 2:=by
   unfold kD
   rw [Int.tdiv_eq_ediv_of_nonneg hk0,IntKind.wrap_i64]
   omega
  have es:shD k=4 - 4 * (k % 2):=by
   unfold shD
   rw [Int.tmod_eq_emod_of_nonneg hk0,IntKind.wrap_i64,IntKind.wrap_i64]
   omega
  have w2:IntKind.i64.wrap (k+1)=k+1:=by rw [IntKind.wrap_i64]; omega
  rw [ek,es,w2]
  refine selT (dT (by omega)) (selT (dT (by omega)) (selT (dT (by omega)) (selT (dT (by omega)) ?_)))
  obtain ⟨r,hr⟩:∃ r,2 * bs.length - k.toNat=r+1:=⟨2 * bs.length - k.toNat - 1,by omega⟩
  have er:2 * bs.length - (k+1).toNat=r:=by omega
  have ekn:(k+1).toNat=k.toNat+1:=by omega
  rw [hr] at h2
  have eu:goD bs (r+1) k.toNat n=bif okd (dAt bs (k.toNat:Int)) then goD bs r (k.toNat+1) (ac n (dAt bs (k.toNat:Int))) else (false,n):=rfl
  rw [eu,show ((k.toNat:Nat):Int)=k by omega] at h2
  unfold okd at h2
  cases e1:decide (dAt bs k<0) with
  | true=>rw [e1] at h2; exact selT rfl h2
  | false=>
    refine selF rfl ?_
    cases e2:decide (dAt bs k > 9) with
    | true=>rw [e1,e2] at h2; exact selT rfl h2
    | false=>
      rw [e1,e2] at h2
      have h2:sel (goD bs r (k.toNat+1) (ac n (dAt bs k))).1 (R (.normal,dDg (goD bs r (k.toNat+1) (ac n (dAt bs k))).2)) (R (.ret,rDg (goD bs r (k.toNat+1) (ac n (dAt bs k))).2)):=h2
      refine selF rfl ⟨([.l bs,.i (ac n (dAt bs k)),.i (k+1)],[]),rfl,by show (2 * (bs.length:Int) - (k+1)).toNat<(2 * (bs.length:Int) - k).toNat; omega,⟨hl,by omega,by omega⟩,?_⟩
      rw [er,ekn]
      exact h2
 ·have e0:2 * bs.length - k.toNat=0:=by omega
  rw [e0] at h2
  exact h2
noncomputable def t_digs:Con:=fun args regs=>if regs.length=0 then nfun Tryz.prog GL (fun _=>Option.none) [(0,[0,6,7],sumP pDg [] lDg)] Tryz.f175 args regs else .fail
theorem k_digs:Known Tryz.prog GL 175 t_digs:=known_loops 0 Tryz.func175 rfl (by kernel_rfl) mixed con_none (LAll.one (id:=0) (body:=bodyLoop Tryz.f175 0) (by kernel_rfl) rfl loop_dg)
noncomputable def oDg (b:Bool) (n:Int):Out:=⟨.tu [.c (.i .i64 (bif b then n else 0)),.c (.b b)],[]⟩
theorem digs_tree (bs:List Int) (k:Int) (R:Out→Prop):(t_digs [.c (.l .u8 bs),.c (.i .i64 k)] []).run R=((bs.length<1000∧0≤k∧k≤2 * (bs.length:Int))∧sel (goD bs (2 * bs.length - k.toNat) k.toNat 0).1 (R (oDg true (goD bs (2 * bs.length - k.toNat) k.toNat 0).2)) (R (oDg false 0))):=by kernel_rfl
noncomputable def okD (bs:List Int) (k:Int):Bool:=(goD bs (2 * bs.length - k.toNat) k.toNat 0).1
noncomputable def vaD (bs:List Int) (k:Int):Int:=(goD bs (2 * bs.length - k.toNat) k.toNat 0).2
noncomputable def tDigV:Con:=fun args regs=>match args,regs with
 | [.c (.l .u8 bs),.c (.i .i64 k)],[]=>.must (bs.length<1000∧0≤k∧k≤2 * (bs.length:Int)) (.ret (oDg (okD bs k) (vaD bs k)))
 | _,_=>.fail
theorem kDigV:Known Tryz.prog GL 175 tDigV:=by
 refine k_digs.less fun args regs R h=>Box.out ?_
 unfold tDigV at h
 split at h
 case h_2=>exact h.elim
 rename_i bs k
 have h1:=h.1
 have h2:R (oDg (okD bs k) (vaD bs k)):=h.2
 clear h
 refine Box.of_eq (digs_tree bs k R) ⟨h1,?_⟩
 unfold okD vaD at h2
 cases e:(goD bs (2 * bs.length - k.toNat) k.toNat 0).1 with
 | true=>rw [e] at h2; exact selT rfl h2
 | false=>rw [e] at h2; exact selF rfl h2
noncomputable abbrev fWords:=Tryz.f131
def txc (z:ByteArray) (k:Nat):Int:=bif decide ((k:Int)<(z.size:Int)) then byteAt z k else 32
def badC (c:Int):Bool:=decide (c<32)||decide (c > 127)
noncomputable def appS (q:Nat) (A:List Int) (X:Prop):Prop:=sel (decide (0+q≤A.length)) (sel (decide ((q+1) * 1≤140737488355328)) (sel (decide (q+1≤9223372036854775807)) X False) False) False
noncomputable def badz (z:ByteArray) (k:Nat):Bool:=badC (txc z k)
noncomputable def fst (z:ByteArray):Nat→Nat→Option Nat
 | 0,_=>none
 | r+1,k=>bif badz z k then some k else fst z r (k+1)
theorem bad_in {c:Int} {A:Prop} {B:Prop} (h1:badC c=true→A) (h2:badC c=false→B):sel (decide (c<32)) A (sel (decide (c > 127)) A B):=by
 unfold badC at h1 h2
 cases e1:decide (c<32) with
 | true=>rw [e1] at h1; exact selT rfl (h1 rfl)
 | false=>
   rw [e1] at h1 h2
   refine selF rfl ?_
   cases e2:decide (c > 127) with
   | true=>rw [e2] at h1; exact selT rfl (h1 rfl)
   | false=>rw [e2] at h2; exact selF rfl (h2 rfl)
noncomputable def c_ptx:FuncId→Option Con:=conOf [(141,tOddV)]
theorem kc_ptx:∀ f T,c_ptx f=some T→Known Tryz.prog GL f T:=(Knowns.cons kOddV .nil).get
noncomputable def X_ptx:Cx:={P:=Tryz.prog,con:=c_ptx,glob:=GL,m:=0,loops:=[]}
noncomputable def t_ptx:Con:=fun args regs=>if regs.length=0 then nfun Tryz.prog GL c_ptx [(0,[4,5,8,9,10],unroll X_ptx 0 [4,5,8,9,10] [4,5] (bodyLoop Tryz.f94 0) 21)] Tryz.f94 args regs else .fail
theorem k_ptx:Known Tryz.prog GL 94 t_ptx:=known_loops 0 Tryz.func94 rfl (by kernel_rfl) mixed kc_ptx (LAll.one (id:=0) (body:=bodyLoop Tryz.f94 0) (by kernel_rfl) rfl (unroll_ok (X:=X_ptx) kc_ptx mixed (LAll.none (by kernel_rfl)) [4,5,8,9,10] [4,5] 21))
noncomputable def oPT (bs:List Int):Out:=⟨.tu [.c (.h 0 0 20),.c (.h 1 0 20)],[some ⟨1,5,.ints .u8 (bs.map fun x=>aU x 127)⟩,some ⟨1,4,.recs [.b] (bs.map fun x=>[Sc.b (odd x)])⟩]⟩
theorem ptx_tree (g:Nat→Int) (R:Out→Prop):(t_ptx [.c (.l .u8 ((List.range 20).map g))] []).run R=((0≤g 0∧g 0<256)∧((0≤g 1∧g 1<256)∧((0≤g 2∧g 2<256)∧((0≤g 3∧g 3<256)∧((0≤g 4∧g 4<256)∧((0≤g 5∧g 5<256)∧((0≤g 6∧g 6<256)∧((0≤g 7∧g 7<256)∧((0≤g 8∧g 8<256)∧((0≤g 9∧g 9<256)∧((0≤g 10∧g 10<256)∧((0≤g 11∧g 11<256)∧((0≤g 12∧g 12<256)∧((0≤g 13∧g 13<256)∧((0≤g 14∧g 14<256)∧((0≤g 15∧g 15<256)∧((0≤g 16∧g 16<256)∧((0≤g 17∧g 17<256)∧((0≤g 18∧g 18<256)∧((0≤g 19∧g 19<256)∧R (oPT ((List.range 20).map g)))))))))))))))))))))):=by kernel_rfl
noncomputable def tPT:Con:=fun args regs=>match args,regs with
 | [.c (.l .u8 bs)],[]=>.must (bs.length=20∧∀ x∈bs,0≤x∧x<256) (.ret (oPT bs))
 | _,_=>.fail
theorem range_n {ds:List Int} {n:Nat} (h:ds.length=n):ds=(List.range n).map fun i=>ds.getD i 0:=by
 refine List.ext_getElem (by simp [h]) fun j h1 h2=>?_
 rw [List.getElem_map,List.getElem_range,List.getD_eq_getElem?_getD,List.getElem?_eq_getElem h1]
 rfl
theorem g_in {g:Nat→Int} {n:Nat} (h:∀ x∈(List.range n).map g,0≤x∧x<256) (j:Nat) (hj:j<n):0≤g j∧g j<256:=h _ (List.mem_map.2 ⟨j,List.mem_range.2 hj,rfl⟩)
theorem ptx_in {bs:List Int} {R:Out→Prop} (hl:bs.length=20) (hb:∀ x∈bs,0≤x∧x<256) (h:R (oPT bs)):Box ((t_ptx [.c (.l .u8 bs)] []).run R):=by
 have e:=range_n hl
 generalize (fun i=>bs.getD i 0)=g at e
 subst e
 have hi:=g_in hb
 exact Box.of_eq (ptx_tree g R) ⟨hi 0 (by decide),hi 1 (by decide),hi 2 (by decide),hi 3 (by decide),hi 4 (by decide),hi 5 (by decide),hi 6 (by decide),hi 7 (by decide),hi 8 (by decide),hi 9 (by decide),hi 10 (by decide),hi 11 (by decide),hi 12 (by decide),hi 13 (by decide),hi 14 (by decide),hi 15 (by decide),hi 16 (by decide),hi 17 (by decide),hi 18 (by decide),hi 19 (by decide),h⟩
theorem kPT:Known Tryz.prog GL 94 tPT:=by
 refine k_ptx.less fun args regs R h=>Box.out ?_
 unfold tPT at h
 split at h
 case h_2=>exact h.elim
 have h1:=h.1
 have h2:=h.2
 clear h
 exact ptx_in h1.1 h1.2 h2
theorem mapF_stop (g:Nat→Int→Int) (i:Nat):∀ (k:Nat) (xs:List Int),k+xs.length≤i→mapF g i k xs=xs
 | _,[],_=>rfl
 | k,x::xs,h=>by
   have h:k+(xs.length+1)≤i:=h
   show (bif Nat.blt k i then x else _)::mapF g i (k+1) xs=_
   rw [blt_t (by omega),mapF_stop g i (k+1) xs (by omega)]
   rfl
theorem set_self (xs:List Int) (i:Nat) (h:i<xs.length):xs.set i (xs.getD i 0)=xs:=by
 rw [List.getD_eq_getElem?_getD,List.getElem?_eq_getElem h]
 exact List.set_getElem_self h
noncomputable def X_wd:Cx:={P:=Tryz.prog,con:=fun _=>Option.none,glob:=GL,m:=0,loops:=[]}
noncomputable def sWd (A:List Int) (B:List (List Sc)) (q q2:Nat) (n i:Int):St:={fr:=frame 34 [(3,.v (.c (.h 0 0 q))),(4,.v (.c (.h 1 0 q2))),(12,.v (.c (.i .i64 n))),(13,.v (.c (.i .i64 i)))],rg:=[some ⟨1,5,.ints .u8 A⟩,some ⟨1,4,.recs [.b] B⟩]}
noncomputable def dWd (A:List Int) (q:Nat):St:={fr:=frame 34 [(3,.v (.c (.h 0 0 q)))],rg:=[some ⟨1,5,.ints .u8 A⟩]}
def bW (B:List (List Sc)) (j:Nat):Bool:=((B.getD j []).getD 0 (Sc.i 0)).t
def inW (A:List Int) (q:Nat) (i:Int) (X:Prop):Prop:=sel (decide (0≤i)) (sel (decide (i<(q:Int))) (sel (decide (0+i.toNat<A.length)) X False) False) False
def inWB (B:List (List Sc)) (q:Nat) (i:Int) (X:Prop):Prop:=sel (decide (0≤i)) (sel (decide (i<(q:Int))) (sel (decide (0+i.toNat<B.length)) X False) False) False
theorem round_wd (A:List Int) (B:List (List Sc)) (q q2:Nat) (n i:Int) (R:RO→Prop):(roundT X_wd 0 [3,4,12,13] [3] (bodyLoop fWords 0) (sWd A B q q2 n i)).run R =
 sel (decide (i<n)) (inWB B q2 i (sel (!bW B (0+i.toNat)) (inW A q i (R (.next (sWd (setI A (0+i.toNat) 32 0) B q q2 n (IntKind.i64.wrap (i+1)))))) (inW A q i (sel (decide (A.getD (0+i.toNat) 0<32)) (inW A q i (R (.next (sWd (setI A (0+i.toNat) 32 0) B q q2 n (IntKind.i64.wrap (i+1)))))) (R (.next (sWd A B q q2 n (IntKind.i64.wrap (i+1))))))))) (R (.done .normal (dWd A q))):=by kernel_rfl
noncomputable def wdG (B:List (List Sc)) (k:Nat) (x:Int):Int:=bif !bW B k||decide (x<32) then 32 else x
noncomputable def pWd:List Pat:=pats 34 [(3,.h 0 0),(4,.h 1 0),(12,.i .i64),(13,.i .i64)]
def rWd:List RPat:=[.ints 1 5 .u8,.recs 1 4 [.b]]
noncomputable def lWd:List Leaf × List (List Leaf)→Tr (NExit × St):=fun x=>match x with
 | ([.n q,.n q2,.i n,.i i],[[.l A],[.r B]])=>.must (q=A.length∧q2=A.length∧B.length=A.length∧n=(A.length:Int)∧A.length<1000∧0≤i∧i≤n) (.ret (.normal,dWd (mapF (wdG B) i.toNat 0 A) q))
 | _=>.fail
def muWd:List Leaf × List (List Leaf)→Nat:=fun x=>match x with
 | ([.n _,.n _,.i n,.i i],_)=>(n - i).toNat
 | _=>0
theorem loop_wd:LOk Tryz.prog GL 0 0 (bodyLoop fWords 0) (sumP pWd rWd lWd):=by
 refine sumP_ok (X:=X_wd) con_none mixed (LAll.none (by kernel_rfl)) [3,4,12,13] [3] _ _ _ muWd ?_
 rintro ⟨p,q⟩ R h
 unfold lWd at h
 split at h
 case h_2=>exact h.elim
 rename_i q q2 n i A B he
 cases he
 have h1:=h.1
 have h2:R (.normal,dWd (mapF (wdG B) i.toNat 0 A) q):=h.2
 clear h
 obtain ⟨hq,hq2,hB,hn,hA,hi0,hi⟩:=h1
 show (roundT X_wd 0 [3,4,12,13] [3] (bodyLoop fWords 0) (sWd A B q q2 n i)).run _
 rw [round_wd]
 refine sel_by (fun hlt=>?_) fun hge=>?_
 ·have w2:IntKind.i64.wrap (i+1)=i+1:=by rw [IntKind.wrap_i64]; omega
  have hx:i.toNat<A.length:=by omega
  have et:(i+1).toNat=i.toNat+1:=by omega
  rw [w2,Nat.zero_add]
  have iA:∀ X:Prop,X→inW A q i X:=fun X h=>selT (dT hi0) (selT (dT (by omega)) (selT (dT (by omega)) h))
  have iB:∀ X:Prop,X→inWB B q2 i X:=fun X h=>selT (dT hi0) (selT (dT (by omega)) (selT (dT (by omega)) h))
  have go:∀ A2:List Int,A2.length=A.length→mapF (wdG B) (i.toNat+1) 0 A2=mapF (wdG B) i.toNat 0 A→∃ y,sWd A2 B q q2 n (i+1)=mkSt pWd rWd y∧muWd y<muWd ([.n q,.n q2,.i n,.i i],[[.l A],[.r B]])∧(lWd y).run R:=by
   intro A2 hl hm
   refine ⟨([.n q,.n q2,.i n,.i (i+1)],[[.l A2],[.r B]]),rfl,by show (n - (i+1)).toNat<(n - i).toNat; omega,⟨by omega,by omega,by omega,by omega,by omega,by omega,by omega⟩,?_⟩
   show R (.normal,dWd (mapF (wdG B) (i+1).toNat 0 A2) q)
   rw [et,hm]
   exact h2
  have st:wdG B i.toNat (A.getD i.toNat 0)=32→∃ y,sWd (setI A i.toNat 32 0) B q q2 n (i+1)=mkSt pWd rWd y∧muWd y<muWd ([.n q,.n q2,.i n,.i i],[[.l A],[.r B]])∧(lWd y).run R:=fun hg=>by
   rw [setI_set]
   exact go _ (List.length_set ..) (mapF_set (wdG B) i.toNat 32 0 A i.toNat (by omega) hx hg.symm)
  refine iB _ ?_
  cases hb:bW B i.toNat with
  | false=>exact selT rfl (iA _ (st (by unfold wdG; rw [hb]; rfl)))
  | true=>
    refine selF rfl (iA _ ?_)
    cases hc:decide (A.getD i.toNat 0<32) with
    | true=>exact selT rfl (iA _ (st (by unfold wdG; rw [hb,hc]; rfl)))
    | false=>
      refine selF rfl (go A rfl ?_)
      have hm:=mapF_set (wdG B) i.toNat (A.getD i.toNat 0) 0 A i.toNat (by omega) hx (by unfold wdG; rw [hb,hc]; rfl)
      rwa [set_self A i.toNat hx] at hm
 ·have e0:mapF (wdG B) i.toNat 0 A=A:=mapF_stop (wdG B) i.toNat 0 A (by omega)
  rw [e0] at h2
  exact h2
noncomputable def c_wds:FuncId→Option Con:=conOf [(94,tPT)]
theorem kc_wds:∀ f T,c_wds f=some T→Known Tryz.prog GL f T:=(Knowns.cons kPT .nil).get
noncomputable def t_wds:Con:=fun args regs=>if regs.length=0 then nfun Tryz.prog GL c_wds [(0,[3,4,12,13],sumP pWd rWd lWd)] Tryz.f131 args regs else .fail
theorem k_wds:Known Tryz.prog GL 131 t_wds:=known_loops 0 Tryz.func131 rfl (by kernel_rfl) mixed kc_wds (LAll.one (id:=0) (body:=bodyLoop Tryz.f131 0) (by kernel_rfl) rfl loop_wd)
noncomputable def sgn (x:Int):Int:=bif !odd x||decide (aU x 127<32) then 32 else aU x 127
noncomputable def wdA (bs:List Int):List Int:=bs.map fun x=>aU x 127
noncomputable def wdB (bs:List Int):List (List Sc):=bs.map fun x=>[Sc.b (odd x)]
theorem wds_tree (g:Nat→Int) (R:Out→Prop):(t_wds [.c (.l .u8 ((List.range 20).map g))] []).run R=((((List.range 20).map g).length=20∧∀ x∈((List.range 20).map g),0≤x∧x<256)∧(20=(wdA ((List.range 20).map g)).length∧20=(wdA ((List.range 20).map g)).length∧(wdB ((List.range 20).map g)).length=(wdA ((List.range 20).map g)).length∧20=((wdA ((List.range 20).map g)).length:Int)∧(wdA ((List.range 20).map g)).length<1000∧0≤(0:Int)∧(0:Int)≤20)∧R ⟨.v (.c (.s (strOfNums (((List.range 20).map g).map sgn)))),[]⟩):=by kernel_rfl
noncomputable def tWds:Con:=fun args regs=>match args,regs with
 | [.c (.l .u8 bs)],[]=>.must (bs.length=20∧∀ x∈bs,0≤x∧x<256) (.ret ⟨.v (.c (.s (strOfNums (bs.map sgn)))),[]⟩)
 | _,_=>.fail
theorem wds_in {bs:List Int} {R:Out→Prop} (hl:bs.length=20) (hb:∀ x∈bs,0≤x∧x<256) (h:R ⟨.v (.c (.s (strOfNums (bs.map sgn)))),[]⟩):Box ((t_wds [.c (.l .u8 bs)] []).run R):=by
 have e:=range_n hl
 generalize (fun i=>bs.getD i 0)=g at e
 subst e
 exact Box.of_eq (wds_tree g R) ⟨⟨hl,hb⟩,⟨rfl,rfl,rfl,rfl,by show 20<1000; decide,by decide,by decide⟩,h⟩
theorem kWds:Known Tryz.prog GL 131 tWds:=by
 refine k_wds.less fun args regs R h=>Box.out ?_
 unfold tWds at h
 split at h
 case h_2=>exact h.elim
 have h1:=h.1
 have h2:=h.2
 clear h
 exact wds_in h1.1 h1.2 h2
noncomputable def infC (a b c n o d h m s:Int) (z:ByteArray):List NC:=[.i .i64 a,.i .i64 b,.i .i64 c,.i .i64 n,.i .i64 o,.i .i64 d,.i .i64 h,.i .i64 m,.i .i64 s,.s z]
def fairV (d h m s:Int):Bool:=decide (d ≥ 0)&&(decide (d≤99999)&&(decide (h ≥ 0)&&(decide (h≤23)&&(decide (m ≥ 0)&&(decide (m≤59)&&(decide (s ≥ 0)&&decide (s≤59)))))))
theorem sfair_tree (a b c n o d h m s:Int) (z:ByteArray) (R:Out→Prop):(t_sfair [.ag (infC a b c n o d h m s z)] []).run R =
 sel (decide (d ≥ 0)) (sel (decide (d≤99999)) (sel (decide (h ≥ 0)) (sel (decide (h≤23)) (sel (decide (m ≥ 0)) (sel (decide (m≤59)) (sel (decide (s ≥ 0)) (R (oB (decide (s≤59)))) (R (oB false))) (R (oB false))) (R (oB false))) (R (oB false))) (R (oB false))) (R (oB false))) (R (oB false)):=by kernel_rfl
noncomputable def tFairV:Con:=fun args regs=>match args,regs with
 | [.ag [.i .i64 _,.i .i64 _,.i .i64 _,.i .i64 _,.i .i64 _,.i .i64 d,.i .i64 h,.i .i64 m,.i .i64 s,.s _]],[]=>.ret (oB (fairV d h m s))
 | _,_=>.fail
theorem and_in {x y:Bool} {R:Out→Prop} {X:Prop} (h:R (oB (x&&y))) (hX:R (oB y)→X):sel x X (R (oB false)):=by
 cases x with
 | true=>exact selT rfl (hX h)
 | false=>exact selF rfl h
theorem kFairV:Known Tryz.prog GL 176 tFairV:=by
 refine k_sfair.less fun args regs R h=>Box.out ?_
 unfold tFairV at h
 split at h
 case h_2=>exact h.elim
 rename_i a b c n o d hr m s z
 have h2:R (oB (fairV d hr m s)):=h
 clear h
 refine Box.of_eq (sfair_tree a b c n o d hr m s z R) ?_
 unfold fairV at h2
 exact and_in h2 fun h=>and_in h fun h=>and_in h fun h=>and_in h fun h=>and_in h fun h=>and_in h fun h=>and_in h fun h=>h
noncomputable def c_clk:FuncId→Option Con:=conOf [(125,t_partU),(175,tDigV),(176,tFairV)]
theorem kc_clk:∀ f T,c_clk f=some T→Known Tryz.prog GL f T:=(Knowns.cons k_partU (.cons kDigV (.cons kFairV .nil))).get
noncomputable def t_clk:Con:=fun args regs=>if regs.length=1 then nfun Tryz.prog GL c_clk [] Tryz.f130 args regs else .fail
theorem k_clk:Known Tryz.prog GL 130 t_clk:=known_loops 1 Tryz.func130 rfl (by kernel_rfl) mixed kc_clk (LAll.none (by kernel_rfl))
def mDg (bs:List Int) (k:Int):Prop:=bs.length<1000∧0≤k∧k≤2 * (bs.length:Int)
noncomputable def vD (bs:List Int) (k:Int):Int:=bif okD bs k then vaD bs k else 0
noncomputable def oClk (a b e n o:Int) (z:ByteArray) (D H M S:Int) (x:Bool):Out:=⟨.v (.c (.b x)),[some ⟨10,100,.cells (infC a b e n o D H M S z)⟩]⟩
noncomputable def clkG (g:Nat→Int):Bool:=okD [g 9,g 10,g 11] 1&&(okD [g 12] 0&&(okD [g 13] 0&&(okD [g 14] 0&&fairV (vD [g 9,g 10,g 11] 1) (vD [g 12] 0) (vD [g 13] 0) (vD [g 14] 0))))
noncomputable def oCk (a b e n o:Int) (z:ByteArray) (g:Nat→Int) (x:Bool):Out:=oClk a b e n o z (vD [g 9,g 10,g 11] 1) (vD [g 12] 0) (vD [g 13] 0) (vD [g 14] 0) x
theorem clk_tree (g:Nat→Int) (m r k c a b e n o d h mi s:Int) (z:ByteArray) (R:Out→Prop):(t_clk [.c (.p 0 0 0),.ag [.i .i64 m,.i .i64 r,.i .i64 k,.i .i64 c,.l .u8 ((List.range 39).map g)]] [⟨10,100,.cells (infC a b e n o d h mi s z)⟩]).run R =
 (mDg [g 9,g 10,g 11] 1∧(mDg [g 12] 0∧(mDg [g 13] 0∧(mDg [g 14] 0∧sel (okD [g 9,g 10,g 11] 1) (sel (okD [g 12] 0) (sel (okD [g 13] 0) (sel (okD [g 14] 0) (R (oCk a b e n o z g (fairV (vD [g 9,g 10,g 11] 1) (vD [g 12] 0) (vD [g 13] 0) (vD [g 14] 0)))) (R (oCk a b e n o z g false))) (R (oCk a b e n o z g false))) (R (oCk a b e n o z g false))) (R (oCk a b e n o z g false)))))):=by kernel_rfl
noncomputable def gD (ds:List Int):Nat→Int:=fun i=>ds.getD i 0
noncomputable def tClk:Con:=fun args regs=>match args,regs with
 | [.c (.p 0 0 0),.ag [.i .i64 _,.i .i64 _,.i .i64 _,.i .i64 _,.l .u8 ds]],[⟨10,100,.cells [.i .i64 a,.i .i64 b,.i .i64 e,.i .i64 n,.i .i64 o,.i .i64 _,.i .i64 _,.i .i64 _,.i .i64 _,.s z]⟩]=>.must (ds.length=39) (.ret (oCk a b e n o z (gD ds) (clkG (gD ds))))
 | _,_=>.fail
theorem mDg3 (a b c:Int):mDg [a,b,c] 1:=⟨by show 3<1000; decide,by decide,by show (1:Int)≤2 * 3; decide⟩
theorem mDg1 (a:Int):mDg [a] 0:=⟨by show 1<1000; decide,by decide,by show (0:Int)≤2 * 1; decide⟩
theorem ck_in {x y:Bool} {F:Bool→Prop} {X:Prop} (h:F (x&&y)) (hX:F y→X):sel x X (F false):=by
 cases x with
 | true=>exact selT rfl (hX h)
 | false=>exact selF rfl h
theorem clk_in {ds:List Int} {m r k c a b e n o d h mi s:Int} {z:ByteArray} {R:Out→Prop} (hl:ds.length=39) (hR:R (oCk a b e n o z (gD ds) (clkG (gD ds)))):Box ((t_clk [.c (.p 0 0 0),.ag [.i .i64 m,.i .i64 r,.i .i64 k,.i .i64 c,.l .u8 ds]] [⟨10,100,.cells (infC a b e n o d h mi s z)⟩]).run R):=by
 have eq:=range_n hl
 have eg:(fun i=>ds.getD i 0)=gD ds:=rfl
 rw [eg] at eq
 generalize gD ds=g at eq hR
 subst eq
 refine Box.of_eq (clk_tree g m r k c a b e n o d h mi s z R) ⟨mDg3 _ _ _,mDg1 _,mDg1 _,mDg1 _,?_⟩
 unfold clkG at hR
 exact ck_in (F:=fun x=>R (oCk a b e n o z g x)) hR fun h=>ck_in (F:=fun x=>R (oCk a b e n o z g x)) h fun h=>ck_in (F:=fun x=>R (oCk a b e n o z g x)) h fun h=>ck_in (F:=fun x=>R (oCk a b e n o z g x)) h fun h=>h
theorem kClk:Known Tryz.prog GL 130 tClk:=by
 refine k_clk.less fun args regs R h=>Box.out ?_
 unfold tClk at h
 split at h
 case h_2=>exact h.elim
 exact clk_in h.1 h.2
def partL (ds:List Int) (f n:Int):List Int:=(List.range n.toNat).map fun i=>ds.getD (f.toNat+i) 0
noncomputable def oPt (ds:List Int) (f n:Int):Out:=⟨.v (.c (.h 0 0 n.toNat)),[some ⟨1,5,.ints .u8 (partL ds f n)⟩]⟩
theorem part_0 (m r k c:Int) (g:Nat→Int) (R:Out→Prop):(t_partU [.ag [.i .i64 m,.i .i64 r,.i .i64 k,.i .i64 c,.l .u8 ((List.range 39).map g)],.c (.i .i64 0),.c (.i .i64 6)] []).run R=R (oPt ((List.range 39).map g) 0 6):=by kernel_rfl
theorem part_19 (m r k c:Int) (g:Nat→Int) (R:Out→Prop):(t_partU [.ag [.i .i64 m,.i .i64 r,.i .i64 k,.i .i64 c,.l .u8 ((List.range 39).map g)],.c (.i .i64 19),.c (.i .i64 20)] []).run R=R (oPt ((List.range 39).map g) 19 20):=by kernel_rfl
theorem part_9 (m r k c:Int) (g:Nat→Int) (R:Out→Prop):(t_partU [.ag [.i .i64 m,.i .i64 r,.i .i64 k,.i .i64 c,.l .u8 ((List.range 39).map g)],.c (.i .i64 9),.c (.i .i64 3)] []).run R=R (oPt ((List.range 39).map g) 9 3):=by kernel_rfl
theorem part_12 (m r k c:Int) (g:Nat→Int) (R:Out→Prop):(t_partU [.ag [.i .i64 m,.i .i64 r,.i .i64 k,.i .i64 c,.l .u8 ((List.range 39).map g)],.c (.i .i64 12),.c (.i .i64 3)] []).run R=R (oPt ((List.range 39).map g) 12 3):=by kernel_rfl
noncomputable def tPartV:Con:=fun args regs=>match args,regs with
 | [.ag [.i .i64 _,.i .i64 _,.i .i64 _,.i .i64 _,.l .u8 ds],.c (.i .i64 f),.c (.i .i64 n)],[]=>.must (ds.length=39∧((f=0∧n=6)∨(f=19∧n=20)∨(f=9∧n=3)∨(f=12∧n=3))) (.ret (oPt ds f n))
 | _,_=>.fail
theorem part_in {m r k c f n:Int} {ds:List Int} {R:Out→Prop} (hl:ds.length=39) (hf:(f=0∧n=6)∨(f=19∧n=20)∨(f=9∧n=3)∨(f=12∧n=3)) (h:R (oPt ds f n)):Box ((t_partU [.ag [.i .i64 m,.i .i64 r,.i .i64 k,.i .i64 c,.l .u8 ds],.c (.i .i64 f),.c (.i .i64 n)] []).run R):=by
 have e:=range_n hl
 generalize (fun i=>ds.getD i 0)=g at e
 subst e
 rcases hf with ⟨rfl,rfl⟩ | ⟨rfl,rfl⟩ | ⟨rfl,rfl⟩ | ⟨rfl,rfl⟩
 ·exact Box.of_eq (part_0 m r k c g R) h
 ·exact Box.of_eq (part_19 m r k c g R) h
 ·exact Box.of_eq (part_9 m r k c g R) h
 ·exact Box.of_eq (part_12 m r k c g R) h
theorem kPartV:Known Tryz.prog GL 125 tPartV:=by
 refine k_partU.less fun args regs R h=>Box.out ?_
 unfold tPartV at h
 split at h
 case h_2=>exact h.elim
 have h1:=h.1
 have h2:=h.2
 clear h
 exact part_in h1.1 h1.2 h2
theorem at_6 (m r k c:Int) (g:Nat→Int) (R:Out→Prop):(t_at [.ag [.i .i64 m,.i .i64 r,.i .i64 k,.i .i64 c,.l .u8 ((List.range 39).map g)],.c (.i .i64 6)] []).run R=R ⟨.v (.c (.i .u8 (((List.range 39).map g).getD 6 0))),[]⟩:=by kernel_rfl
theorem at_7 (m r k c:Int) (g:Nat→Int) (R:Out→Prop):(t_at [.ag [.i .i64 m,.i .i64 r,.i .i64 k,.i .i64 c,.l .u8 ((List.range 39).map g)],.c (.i .i64 7)] []).run R=R ⟨.v (.c (.i .u8 (((List.range 39).map g).getD 7 0))),[]⟩:=by kernel_rfl
theorem at_8 (m r k c:Int) (g:Nat→Int) (R:Out→Prop):(t_at [.ag [.i .i64 m,.i .i64 r,.i .i64 k,.i .i64 c,.l .u8 ((List.range 39).map g)],.c (.i .i64 8)] []).run R=R ⟨.v (.c (.i .u8 (((List.range 39).map g).getD 8 0))),[]⟩:=by kernel_rfl
noncomputable def tAtV:Con:=fun args regs=>match args,regs with
 | [.ag [.i .i64 _,.i .i64 _,.i .i64 _,.i .i64 _,.l .u8 ds],.c (.i .i64 k)],[]=>.must (ds.length=39∧(k=6∨k=7∨k=8)) (.ret ⟨.v (.c (.i .u8 (ds.getD k.toNat 0))),[]⟩)
 | _,_=>.fail
theorem at_in {m r kd c k:Int} {ds:List Int} {R:Out→Prop} (hl:ds.length=39) (hf:k=6∨k=7∨k=8) (h:R ⟨.v (.c (.i .u8 (ds.getD k.toNat 0))),[]⟩):Box ((t_at [.ag [.i .i64 m,.i .i64 r,.i .i64 kd,.i .i64 c,.l .u8 ds],.c (.i .i64 k)] []).run R):=by
 have e:=range_n hl
 generalize (fun i=>ds.getD i 0)=g at e
 subst e
 rcases hf with rfl | rfl | rfl
 ·exact Box.of_eq (at_6 m r kd c g R) h
 ·exact Box.of_eq (at_7 m r kd c g R) h
 ·exact Box.of_eq (at_8 m r kd c g R) h
theorem kAtV:Known Tryz.prog GL 129 tAtV:=by
 refine k_at.less fun args regs R h=>Box.out ?_
 unfold tAtV at h
 split at h
 case h_2=>exact h.elim
 have h1:=h.1
 have h2:=h.2
 clear h
 exact at_in h1.1 h1.2 h2
noncomputable def c_srd:FuncId→Option Con:=conOf [(125,tPartV),(117,tOpn),(126,t_of),(127,tLMag),(128,tTurn),(129,tAtV),(130,tClk),(131,tWds)]
theorem kc_srd:∀ f T,c_srd f=some T→Known Tryz.prog GL f T:=(Knowns.cons kPartV (.cons kOpn (.cons k_of (.cons kLMag (.cons kTurn (.cons kAtV (.cons kClk (.cons kWds .nil)))))))).get
noncomputable def t_srd:Con:=fun args regs=>nfun Tryz.prog GL c_srd [] Tryz.f76 args regs
theorem k_srd:Known Tryz.prog GL 76 t_srd:=known_inl Tryz.func76 rfl (by kernel_rfl) mixed kc_srd (by kernel_rfl)
noncomputable def nb (ds:List Int) (i:Nat):Int:=getN (ds.getD i 0)
noncomputable def mgV (ds:List Int):Int:=magOf (oI (shrv .i64 (nb ds 3) 3) (shlv .i64 (shrv .i64 (nb ds 5) 2) 1))
noncomputable def pgV (ds:List Int):Int:=oI (nb ds 0) (shlv .i64 (nb ds 1) 4)
noncomputable def sbV (ds:List Int):Int:=oI (oI (oI (nb ds 2) (shlv .i64 (aI (nb ds 3) 7) 4)) (shlv .i64 (nb ds 4) 8)) (shlv .i64 (aI (nb ds 5) 3) 12)
noncomputable def nwV (ds:List Int):Int:=oI (shlv .i64 (IntKind.i64.wrap (rv (ds.getD 6 0))) 8) (IntKind.i64.wrap (rv (ds.getD 7 0)))
noncomputable def ofV (ds:List Int):Int:=aI (shrv .i64 (IntKind.i64.wrap (ds.getD 8 0)) 1) 31
noncomputable def sgV (ds:List Int):Bool:=aI (shrv .i64 (IntKind.i64.wrap (ds.getD 8 0)) 6) 1==1
noncomputable def dyV (ds:List Int):Int:=vD [gD ds 9,gD ds 10,gD ds 11] 1
noncomputable def hrV (ds:List Int):Int:=vD [gD ds 12] 0
noncomputable def miV (ds:List Int):Int:=vD [gD ds 13] 0
noncomputable def seV (ds:List Int):Int:=vD [gD ds 14] 0
noncomputable def txV (ds:List Int):ByteArray:=strOfNums ((partL ds 19 20).map sgn)
noncomputable def oIn (ds:List Int) (of:Int):Out:=⟨.tu [.ag (infC (mgV ds) (pgV ds) (sbV ds) (nwV ds) of (dyV ds) (hrV ds) (miV ds) (seV ds) (txV ds)),.c .en],[]⟩
def oIE (k:Nat):Out:=⟨.tu [.ag [.i .i64 0,.i .i64 0,.i .i64 0,.i .i64 0,.i .i64 0,.i .i64 0,.i .i64 0,.i .i64 0,.i .i64 0,.s ⟨#[]⟩],.c (.e k)],[]⟩
noncomputable def all6 (ds:List Int):Bool:=[ds.getD 0 0,ds.getD 1 0,ds.getD 2 0,ds.getD 3 0,ds.getD 4 0,ds.getD 5 0].all getB
def mPt (ds:List Int) (f n:Int):Prop:=ds.length=39∧((f=0∧n=6)∨(f=19∧n=20)∨(f=9∧n=3)∨(f=12∧n=3))
def mAt (ds:List Int) (k:Int):Prop:=ds.length=39∧(k=6∨k=7∨k=8)
def mBy (x:Int):Prop:=0≤x∧x<256
noncomputable def rdE (ds:List Int) (of:Int) (R:Out→Prop):Prop:=ds.length=39∧sel (!clkG (gD ds)) (R (oIE eRng)) (mPt ds 19 20∧(((partL ds 19 20).length=20∧∀ x∈partL ds 19 20,0≤x∧x<256)∧R (oIn ds of)))
noncomputable def rdX (ds:List Int) (R:Out→Prop):Prop:=
 mPt ds 0 6∧sel (all6 ds) (mAt ds 6∧(mBy (ds.getD 6 0)∧(mAt ds 7∧(mBy (ds.getD 7 0)∧(mAt ds 8∧sel (sgV ds) (rdE ds (IntKind.i64.wrap (0 - ofV ds)) R) (rdE ds (ofV ds) R)))))) (R (oIE eBit))
theorem srd_tree (m r k c:Int) (ds:List Int) (R:Out→Prop):(t_srd [.ag [.i .i64 m,.i .i64 r,.i .i64 k,.i .i64 c,.l .u8 ds]] []).run R =
 sel (k !=7) (R (oIE eKnd)) (sel (m !=8) (R (oIE eKnd)) (sel (c !=0) (sel (c !=1) (R (oIE eKnd)) (rdX ds R)) (rdX ds R))):=by kernel_rfl
def okK (m k c:Int):Bool:=k==7&&(m==8&&(c==0||c==1))
noncomputable def ofS (ds:List Int):Int:=bif sgV ds then IntKind.i64.wrap (0 - ofV ds) else ofV ds
noncomputable def tSrd:Con:=fun args regs=>match args,regs with
 | [.ag [.i .i64 m,.i .i64 _,.i .i64 k,.i .i64 c,.l .u8 ds]],[]=>.must (okK m k c=true→ds.length=39∧∀ x∈ds,0≤x∧x<256) (.br (okK m k c) (.br (all6 ds) (.br (clkG (gD ds)) (.ret (oIn ds (ofS ds))) (.ret (oIE eRng))) (.ret (oIE eBit))) (.ret (oIE eKnd)))
 | _,_=>.fail
theorem get_in {ds:List Int} (h:∀ x∈ds,0≤x∧x<256) (j:Nat):0≤ds.getD j 0∧ds.getD j 0<256:=by
 rw [List.getD_eq_getElem?_getD]
 cases e:ds[j]? with
 | none=>exact ⟨by decide,by decide⟩
 | some x=>exact h x (List.mem_of_getElem? e)
theorem part_by {ds:List Int} (h:∀ x∈ds,0≤x∧x<256) (f n:Int):∀ x∈partL ds f n,0≤x∧x<256:=by
 intro x hx
 unfold partL at hx
 rw [List.mem_map] at hx
 obtain ⟨i,_,rfl⟩:=hx
 exact get_in h _
theorem rdE_in {ds:List Int} {of:Int} {R:Out→Prop} (hl:ds.length=39) (hb:∀ x∈ds,0≤x∧x<256) (h:sel (clkG (gD ds)) (R (oIn ds of)) (R (oIE eRng))):rdE ds of R:=by
 refine ⟨hl,?_⟩
 cases e:clkG (gD ds) with
 | true=>rw [e] at h; exact selF rfl ⟨⟨hl,.inr (.inl ⟨rfl,rfl⟩)⟩,⟨rfl,part_by hb _ _⟩,h⟩
 | false=>rw [e] at h; exact selT rfl h
theorem rdX_in {ds:List Int} {R:Out→Prop} (hl:ds.length=39) (hb:∀ x∈ds,0≤x∧x<256) (h:sel (all6 ds) (sel (clkG (gD ds)) (R (oIn ds (ofS ds))) (R (oIE eRng))) (R (oIE eBit))):rdX ds R:=by
 refine ⟨⟨hl,.inl ⟨rfl,rfl⟩⟩,?_⟩
 cases e:all6 ds with
 | false=>rw [e] at h; exact selF rfl h
 | true=>
   rw [e] at h
   refine selT rfl ⟨⟨hl,.inl rfl⟩,get_in hb 6,⟨hl,.inr (.inl rfl)⟩,get_in hb 7,⟨hl,.inr (.inr rfl)⟩,?_⟩
   unfold ofS at h
   cases es:sgV ds with
   | true=>rw [es] at h; exact selT rfl (rdE_in hl hb h)
   | false=>rw [es] at h; exact selF rfl (rdE_in hl hb h)
theorem srd_in {m k c:Int} {ds:List Int} {R:Out→Prop} (hm:okK m k c=true→ds.length=39∧∀ x∈ds,0≤x∧x<256) (h:sel (okK m k c) (sel (all6 ds) (sel (clkG (gD ds)) (R (oIn ds (ofS ds))) (R (oIE eRng))) (R (oIE eBit))) (R (oIE eKnd))) :
  sel (k !=7) (R (oIE eKnd)) (sel (m !=8) (R (oIE eKnd)) (sel (c !=0) (sel (c !=1) (R (oIE eKnd)) (rdX ds R)) (rdX ds R))):=by
 unfold okK at hm h
 cases e1:(k==7) with
 | false=>rw [e1] at h; exact selT (by simp [bne,e1]) h
 | true=>
   rw [e1] at h hm
   refine selF (by simp [bne,e1]) ?_
   cases e2:(m==8) with
   | false=>rw [e2] at h; exact selT (by simp [bne,e2]) h
   | true=>
     rw [e2] at h hm
     refine selF (by simp [bne,e2]) ?_
     cases e3:(c==0) with
     | true=>
       rw [e3] at h hm
       exact selF (by simp [bne,e3]) (rdX_in (hm rfl).1 (hm rfl).2 h)
     | false=>
       rw [e3] at h hm
       refine selT (by simp [bne,e3]) ?_
       cases e4:(c==1) with
       | true=>
         rw [e4] at h hm
         exact selF (by simp [bne,e4]) (rdX_in (hm rfl).1 (hm rfl).2 h)
       | false=>rw [e4] at h; exact selT (by simp [bne,e4]) h
theorem kSrd:Known Tryz.prog GL 76 tSrd:=by
 refine k_srd.less fun args regs R h=>Box.out ?_
 unfold tSrd at h
 split at h
 case h_2=>exact h.elim
 rename_i m r k c ds
 have h1:=h.1
 have h2:=h.2
 clear h
 exact Box.of_eq (srd_tree m r k c ds R) (srd_in h1 h2)
noncomputable def u8i (n:Int):Int:=IntKind.u8.wrap n
noncomputable def mx (o:Int):Int:=bif decide (IntKind.i64.wrap (0 - o) > o) then IntKind.i64.wrap (0 - o) else o
noncomputable def ofB (neg:Bool) (o:Int):Int:=bif neg then oU (u8i (shlv .i64 (mx o) 1)) 64 else u8i (shlv .i64 (mx o) 1)
theorem u8i_in (n:Int):mBy (u8i n):=by
 unfold mBy u8i
 rw [IntKind.wrap_u8]
 omega
theorem nb_in {x:Bool} {y:Bool} {A E X:Prop} (h:sel (!x&&y) A E) (hX:sel y A E→X):sel x E X:=by
 cases x with
 | true=>exact selT rfl h
 | false=>exact selF rfl (hX h)
end sv
namespace mac
open Go Go.Nx pk ac sto pge dec
noncomputable def Mv.part (m:Mv) (p:Px):Mv:=
 match p.kd==2 with
 | true=>m.with (rowP m.p p.row p.ds)
 | false=>match p.kd==3 with
   | true=>m.extra p
   | false=>match p.kd==4 with
     | true=>m.linked p
     | false=>match p.kd==5&&tr.regB p.kd p.cd p.ds with
       | true=>m.with {m.p with df:=IntKind.i64.wrap (1+rgN p.kd p.cd p.ds)}
       | false=>m
noncomputable def Mc.insM (M:Mc) (g:Nat) (p:Px):Mc:=match (M.v g).opn with
 | true=>M.withV g ((M.v g).part p)
 | false=>M
theorem rowP_fits {p:Pg} {row:Int} {ds:List Int} (h:fits p):fits (rowP p row ds):=by
 unfold rowP
 split <;> exact h
theorem exV_len {n:Nat} {E l:List (List Sc)} (hn:n<16) (hE:E.length≤208):(exV n E l).length≤208:=by
 have lP:=padE_length (13 * (n+1)) E
 unfold exV
 rw [splice_len13,splice_len13]
 ·omega
 ·rw [List.length_replicate]; omega
 ·rw [splice_len13 (by rw [List.length_replicate]; omega),List.length_take]; omega
theorem extraP_fits {p:Pg} {c:Int} {l:List (List Sc)} (h:fits p):fits (extraP p c l):=by
 unfold extraP
 split
 ·rename_i hc
  have hc:=of_decide_eq_true hc
  exact exV_len (by omega) h
 ·exact h
theorem part_fits {m:Mv} {p:Px} (h:fits m.p):fits (m.part p).p:=by
 unfold Mv.part
 split
 ·exact rowP_fits h
 ·split
  ·unfold Mv.extra
   split
   ·exact extraP_fits h
   ·exact h
  ·split
   ·unfold Mv.linked
    split <;> exact h
   ·split <;> exact h
theorem part_txt (m:Mv) (p:Px):(m.part p).t=m.t:=by
 unfold Mv.part
 split
 ·rfl
 ·split
  ·unfold Mv.extra
   split <;> rfl
  ·split
   ·unfold Mv.linked
    split <;> rfl
   ·split <;> rfl
theorem insM_good {M:Mc} (h:M.good) {g:Nat} (hg:g<9) (p:Px):(M.insM g p).good:=by
 unfold Mc.insM
 split
 ·exact h.upd hg (part_fits (h.vfit g)) (by rw [part_txt]; exact h.txt g)
 ·exact h
theorem inT_of {M:Mc} {g:Nat} {row kd cd:Int} {ds:List Int} {R:Out→Prop} (hM:M.good) (hl:kd=3∨kd=4∨kd=5→ds.length=39) (hb:∀ b∈ds,0≤b∧b<256) (h:R (oMe (M.insM g ⟨g,row,kd,cd,ds⟩) .en)):inT M g row kd cd ds R:=by
 have hf:=hM.vfit g
 have hf' : (M.v g).p.ex.length≤208:=hf
 unfold inT
 unfold Mc.insM at h
 cases ho:(M.v g).opn with
 | false=>rw [ho] at h; exact sT rfl h
 | true=>
   rw [ho] at h
   refine sF rfl ?_
   have h:R (oMe (M.withV g ((M.v g).part ⟨g,row,kd,cd,ds⟩)) .en):=h
   unfold Mv.part at h
   simp only at h
   cases h2:(kd==2) with
   | true=>rw [h2] at h; exact sT rfl ⟨⟨rfl,by omega,hb⟩,h⟩
   | false=>
     rw [h2] at h
     refine sF rfl ?_
     cases h3:(kd==3) with
     | true=>
       rw [h3] at h
       have e3:=eq_of_beq h3
       exact sT rfl ⟨⟨⟨rfl,rfl⟩,⟨e3,hl (.inl e3),hb⟩,hf⟩,h⟩
     | false=>
       rw [h3] at h
       refine sF rfl ?_
       cases h4:(kd==4) with
       | true=>
         rw [h4] at h
         have e4:=eq_of_beq h4
         exact sT rfl ⟨⟨⟨rfl,rfl⟩,e4,hl (.inr (.inl e4))⟩,h⟩
       | false=>
         rw [h4] at h
         refine sF rfl ?_
         cases h5:(kd==5) with
         | true=>
           rw [h5,Bool.true_and] at h
           have hl5:=hl (.inr (.inr (eq_of_beq h5)))
           refine sT rfl ⟨⟨by omega,by omega,hb⟩,?_⟩
           cases hr:tr.regB kd cd ds with
           | true=>rw [hr] at h; exact sT rfl h
           | false=>
             rw [hr] at h
             have h:R (oMe (M.withV g (M.v g)) .en):=h
             rw [withV_self] at h
             exact sF rfl h
         | false=>
           rw [h5,Bool.false_and] at h
           have h:R (oMe (M.withV g (M.v g)) .en):=h
           rw [withV_self] at h
           exact sF rfl h
noncomputable def tIn:Con:=fun args regs=>match args with
 | [.c (.p 0 0 0),v]=>(match rdPv v with
   | some p=>onM regs fun M=>.must (args=[.c (.p 0 0 0),p.nv]∧(1≤p.mg∧p.mg≤8)∧M.good∧(p.kd=3∨p.kd=4∨p.kd=5→p.ds.length=39)∧∀ b∈p.ds,0≤b∧b<256) (.ret (oMe (M.insM p.mg.toNat p) .en))
   | none=>.fail)
 | _=>.fail
attribute [local irreducible] t_inC in
theorem kIn:Known Tryz.prog GL 77 tIn:=by
 refine k_inC.less fun args regs R h=>?_
 unfold tIn at h
 split at h
 case h_2=>exact h.elim
 split at h
 case h_2=>exact h.elim
 rename_i p _
 obtain ⟨M,rfl,hM,⟨h1,hg,hgd,hl,hb⟩,h⟩:=onM_elim h
 rw [h1]
 obtain ⟨g,row,kd,cd,ds⟩:=p
 have hg:g=1∨g=2∨g=3∨g=4∨g=5∨g=6∨g=7∨g=8:=by have:=hg.1; have:=hg.2; simp only at *; omega
 rcases hg with rfl | rfl | rfl | rfl | rfl | rfl | rfl | rfl
 ·exact (in_tree1 M row kd cd ds R).mpr (inT_of hgd hl hb h)
 ·exact (in_tree2 M row kd cd ds R).mpr (inT_of hgd hl hb h)
 ·exact (in_tree3 M row kd cd ds R).mpr (inT_of hgd hl hb h)
 ·exact (in_tree4 M row kd cd ds R).mpr (inT_of hgd hl hb h)
 ·exact (in_tree5 M row kd cd ds R).mpr (inT_of hgd hl hb h)
 ·exact (in_tree6 M row kd cd ds R).mpr (inT_of hgd hl hb h)
 ·exact (in_tree7 M row kd cd ds R).mpr (inT_of hgd hl hb h)
 ·exact (in_tree8 M row kd cd ds R).mpr (inT_of hgd hl hb h)
noncomputable def tRdQ (q:PkR):Con:=fun args regs=>match args,regs with
 | [.c (.l _ bs)],[]=>.must (args=[.c (.l .u8 bs)]∧pkV bs=q) (.ret q.out)
 | [.c .sn],[]=>.must (q=.bad eLen) (.ret q.out)
 | _,_=>.fail
theorem kRdQ (q:PkR):Known Tryz.prog GL 73 (tRdQ q):=by
 refine kRdS.less fun args regs R h=>?_
 unfold tRdQ at h
 split at h
 case h_3=>exact h.elim
 case h_1=>
  obtain ⟨⟨h1,h2⟩,h⟩:=h
  rw [h1]
  subst h2
  exact h
 case h_2=>
  obtain ⟨h1,h⟩:=h
  subst h1
  exact h
noncomputable def c_pk (q:PkR):FuncId→Option Con:=conOf [(73,tRdQ q),(74,tHd),(75,tr.tRegion),(76,sv.tSrd),(77,tIn)]
theorem kc_pk (q:PkR):∀ f T,c_pk q f=some T→Known Tryz.prog GL f T:=(Knowns.cons (kRdQ q) (.cons kHd (.cons tr.kRegion (.cons sv.kSrd (.cons kIn .nil))))).get
noncomputable def t_pk0 (q:PkR):Con:=fun args regs=>nfun Tryz.prog GL (c_pk q) [] Tryz.f34 args regs
theorem k_pk0 (q:PkR):KnownF Tryz.prog GL 34 (t_pk0 q):=known_inlF Tryz.func34 rfl (by kernel_rfl) mixed (kc_pk q) (by kernel_rfl)
noncomputable def t_pkC (q:PkR):Con:=softT [] [] [] [] 9 (canonT 8 [(1,2,ordReg [])] none (t_pk0 q))
theorem k_pkC (q:PkR):Known Tryz.prog GL 34 (t_pkC q):=((k_pk0 q).canon 8 [(1,2,ordReg [])] none).soft [] [] [] [] 9
noncomputable def ixV (ds:List Int):Ix:=⟨sv.mgV ds,sv.pgV ds,sv.sbV ds,sv.nwV ds,sv.ofS ds,sv.dyV ds,sv.hrV ds,sv.miV ds,sv.seV ds,sv.txV ds,true⟩
noncomputable def pkT (M:Mc) (g:Nat) (row kd cd:Int) (ds:List Int) (R:Out→Prop):Prop:=
 sel (kd==1) ((inM M=inM (bk M)∧(bk M).ok)∧([NV.c (.p 0 0 0),(⟨(g:Int),row,kd,cd,ds⟩:Px).nv]=[.c (.p 0 0 0),(⟨(g:Int),row,1,cd,ds⟩:Px).nv]∧(1≤(g:Int)∧(g:Int)≤8)∧(bk M).good∧ds.length=40∧∀ b∈ds,0≤b∧b<256)∧
   sel (hdOk ds) (R (oMe ((bk M).hdM g ds) .en)) (R (oMe (bk M) (.e eBit))))
  (sel (kd==6) (rgT kd cd ds (R (oMe (M.withV g {M.v g with rg:=rgN kd cd ds,td:=true}) .en)) (R (oMe M .en)))
  (sel (kd==7) ((sv.okK g kd cd=true→ds.length=39∧∀ x∈ds,0≤x∧x<256)∧sel (sv.okK g kd cd) (sel (sv.all6 ds) (sel (sv.clkG (sv.gD ds)) (R (oMe {M with inf:=ixV ds} .en)) (R (oMe M (.e eRng)))) (R (oMe M (.e eBit)))) (R (oMe M (.e eKnd))))
    ((inM M=inM (bk M)∧(bk M).ok)∧([NV.c (.p 0 0 0),(⟨(g:Int),row,kd,cd,ds⟩:Px).nv]=[.c (.p 0 0 0),(⟨(g:Int),row,kd,cd,ds⟩:Px).nv]∧(1≤(g:Int)∧(g:Int)≤8)∧(bk M).good∧(kd=3∨kd=4∨kd=5→ds.length=39)∧∀ b∈ds,0≤b∧b<256)∧
      R (oMe ((bk M).insM g ⟨g,row,kd,cd,ds⟩) .en))))
theorem pk_treeBL (M:Mc) (bs:List Int) (R:Out→Prop):(t_pkC (.bad eLen) [.c (.p 0 0 0),.c (.l .u8 bs)] (inM M)).run R=(([NV.c (.l .u8 bs)]=[NV.c (.l .u8 bs)]∧pkV bs=.bad eLen)∧R (oMe M (.e eLen))):=by kernel_rfl
theorem pk_treeBB (M:Mc) (bs:List Int) (R:Out→Prop):(t_pkC (.bad eBit) [.c (.p 0 0 0),.c (.l .u8 bs)] (inM M)).run R=(([NV.c (.l .u8 bs)]=[NV.c (.l .u8 bs)]∧pkV bs=.bad eBit)∧R (oMe M (.e eBit))):=by kernel_rfl
theorem pk_treeBK (M:Mc) (bs:List Int) (R:Out→Prop):(t_pkC (.bad eKnd) [.c (.p 0 0 0),.c (.l .u8 bs)] (inM M)).run R=(([NV.c (.l .u8 bs)]=[NV.c (.l .u8 bs)]∧pkV bs=.bad eKnd)∧R (oMe M (.e eKnd))):=by kernel_rfl
theorem pk_treeN (M:Mc) (R:Out→Prop):(t_pkC (.bad eLen) [.c (.p 0 0 0),.c .sn] (inM M)).run R=(PkR.bad eLen=.bad eLen∧R (oMe M (.e eLen))):=by kernel_rfl
theorem pk_tree1 (M:Mc) (row kd cd:Int) (ds bs:List Int) (R:Out→Prop):(t_pkC (.ok ⟨1,row,kd,cd,ds⟩) [.c (.p 0 0 0),.c (.l .u8 bs)] (inM M)).run R=(([NV.c (.l .u8 bs)]=[NV.c (.l .u8 bs)]∧pkV bs=.ok ⟨1,row,kd,cd,ds⟩)∧pkT M 1 row kd cd ds R):=by kernel_rfl
theorem pk_tree2 (M:Mc) (row kd cd:Int) (ds bs:List Int) (R:Out→Prop):(t_pkC (.ok ⟨2,row,kd,cd,ds⟩) [.c (.p 0 0 0),.c (.l .u8 bs)] (inM M)).run R=(([NV.c (.l .u8 bs)]=[NV.c (.l .u8 bs)]∧pkV bs=.ok ⟨2,row,kd,cd,ds⟩)∧pkT M 2 row kd cd ds R):=by kernel_rfl
theorem pk_tree3 (M:Mc) (row kd cd:Int) (ds bs:List Int) (R:Out→Prop):(t_pkC (.ok ⟨3,row,kd,cd,ds⟩) [.c (.p 0 0 0),.c (.l .u8 bs)] (inM M)).run R=(([NV.c (.l .u8 bs)]=[NV.c (.l .u8 bs)]∧pkV bs=.ok ⟨3,row,kd,cd,ds⟩)∧pkT M 3 row kd cd ds R):=by kernel_rfl
theorem pk_tree4 (M:Mc) (row kd cd:Int) (ds bs:List Int) (R:Out→Prop):(t_pkC (.ok ⟨4,row,kd,cd,ds⟩) [.c (.p 0 0 0),.c (.l .u8 bs)] (inM M)).run R=(([NV.c (.l .u8 bs)]=[NV.c (.l .u8 bs)]∧pkV bs=.ok ⟨4,row,kd,cd,ds⟩)∧pkT M 4 row kd cd ds R):=by kernel_rfl
theorem pk_tree5 (M:Mc) (row kd cd:Int) (ds bs:List Int) (R:Out→Prop):(t_pkC (.ok ⟨5,row,kd,cd,ds⟩) [.c (.p 0 0 0),.c (.l .u8 bs)] (inM M)).run R=(([NV.c (.l .u8 bs)]=[NV.c (.l .u8 bs)]∧pkV bs=.ok ⟨5,row,kd,cd,ds⟩)∧pkT M 5 row kd cd ds R):=by kernel_rfl
theorem pk_tree6 (M:Mc) (row kd cd:Int) (ds bs:List Int) (R:Out→Prop):(t_pkC (.ok ⟨6,row,kd,cd,ds⟩) [.c (.p 0 0 0),.c (.l .u8 bs)] (inM M)).run R=(([NV.c (.l .u8 bs)]=[NV.c (.l .u8 bs)]∧pkV bs=.ok ⟨6,row,kd,cd,ds⟩)∧pkT M 6 row kd cd ds R):=by kernel_rfl
theorem pk_tree7 (M:Mc) (row kd cd:Int) (ds bs:List Int) (R:Out→Prop):(t_pkC (.ok ⟨7,row,kd,cd,ds⟩) [.c (.p 0 0 0),.c (.l .u8 bs)] (inM M)).run R=(([NV.c (.l .u8 bs)]=[NV.c (.l .u8 bs)]∧pkV bs=.ok ⟨7,row,kd,cd,ds⟩)∧pkT M 7 row kd cd ds R):=by kernel_rfl
theorem pk_tree8 (M:Mc) (row kd cd:Int) (ds bs:List Int) (R:Out→Prop):(t_pkC (.ok ⟨8,row,kd,cd,ds⟩) [.c (.p 0 0 0),.c (.l .u8 bs)] (inM M)).run R=(([NV.c (.l .u8 bs)]=[NV.c (.l .u8 bs)]∧pkV bs=.ok ⟨8,row,kd,cd,ds⟩)∧pkT M 8 row kd cd ds R):=by kernel_rfl
noncomputable def Mc.pkM (M:Mc) (p:Px):Mc × Option Nat:=
 match p.kd==1 with
 | true=>(match hdOk p.ds with
   | true=>(M.hdM p.mg.toNat p.ds,none)
   | false=>(M,some eBit))
 | false=>match p.kd==6 with
   | true=>(match tr.regB p.kd p.cd p.ds with
     | true=>(M.withV p.mg.toNat {M.v p.mg.toNat with rg:=rgN p.kd p.cd p.ds,td:=true},none)
     | false=>(M,none))
   | false=>match p.kd==7 with
     | true=>(match sv.okK p.mg p.kd p.cd with
       | true=>(match sv.all6 p.ds with
         | true=>(match sv.clkG (sv.gD p.ds) with
           | true=>({M with inf:=ixV p.ds},none)
           | false=>(M,some eRng))
         | false=>(M,some eBit))
       | false=>(M,some eKnd))
     | false=>(M.insM p.mg.toNat p,none)
noncomputable def Mc.step (M:Mc) (bs:List Int):Mc × Option Nat:=match pkV bs with
 | .bad k=>(M,some k)
 | .ok p=>M.pkM p
theorem pkM_good {M:Mc} (h:M.good) {p:Px} (hg:1≤p.mg∧p.mg≤8):(M.pkM p).1.good:=by
 have hn:p.mg.toNat<9:=by omega
 unfold Mc.pkM
 split
 ·split
  ·exact hdM_good h (by omega) _
  ·exact h
 ·split
  ·split
   ·exact h.upd hn (h.vfit _) (h.txt _)
   ·exact h
  ·split
   ·split
    ·split
     ·split
      ·exact ⟨h.far,h.nd,h.m1,h.m8,h.len,h.fit,h.vfit,h.txt⟩
      ·exact h
     ·exact h
    ·exact h
   ·exact insM_good h hn p
theorem kindF_cases (r:Int):kindF r=0∨(kindF r=1∧r=0)∨(kindF r=2∧1≤r∧r≤24)∨(3≤kindF r∧kindF r≤7∧26≤r∧r≤30):=by
 unfold kindF
 by_cases h0:r=0
 ·subst h0; exact .inr (.inl ⟨rfl,rfl⟩)
 ·rw [decide_eq_false h0]
  by_cases h1:1≤r∧r≤24
  ·refine .inr (.inr (.inl ⟨?_,h1⟩))
   simp [h1]
  ·by_cases h2:26≤r∧r≤30
   ·refine .inr (.inr (.inr ?_))
    have:r=26∨r=27∨r=28∨r=29∨r=30:=by omega
    rcases this with rfl | rfl | rfl | rfl | rfl <;> decide
   ·left
    have e1:(decide (r ≥ 1)&&decide (r≤24))=false:=by
     rw [Bool.and_eq_false_iff]
     by_cases c:r ≥ 1
     ·exact .inr (decide_eq_false fun h=>h1 ⟨c,h⟩)
     ·exact .inl (decide_eq_false c)
    have e2:(decide (r ≥ 26)&&decide (r≤30))=false:=by
     rw [Bool.and_eq_false_iff]
     by_cases c:r ≥ 26
     ·exact .inr (decide_eq_false fun h=>h2 ⟨c,h⟩)
     ·exact .inl (decide_eq_false c)
    simp [e1,e2]
theorem getN_rng (b:Int):0≤getN b∧getN b<16:=by
 unfold getN pk.get
 cases h:(List.range 16).find? (hit b) with
 | none=>exact ⟨by decide,by decide⟩
 | some n=>
   have:=List.mem_of_find?_eq_some h
   rw [List.mem_range] at this
   show 0≤((n:Nat):Int)∧((n:Nat):Int)<16
   omega
theorem magOf_rng (x:Int) (h:0≤x∧x<16):1≤magOf x∧magOf x≤8:=by
 have:x=0∨x=1∨x=2∨x=3∨x=4∨x=5∨x=6∨x=7∨x=8∨x=9∨x=10∨x=11∨x=12∨x=13∨x=14∨x=15:=by omega
 rcases this with rfl | rfl | rfl | rfl | rfl | rfl | rfl | rfl | rfl | rfl | rfl | rfl | rfl | rfl | rfl | rfl <;> decide
structure Fine (p:Px):Prop where
 mg:1≤p.mg∧p.mg≤8
 kd:1≤p.kd∧p.kd≤7
 l40:p.kd≤2→p.ds.length=40
 l39:3≤p.kd→p.ds.length=39
 by' : ∀ b∈p.ds,0≤b∧b<256
theorem pkV_fine {bs:List Int} {p:Px} (hb:∀ b∈bs,0≤b∧b<256) (h:pkV bs=.ok p):Fine p:=by
 unfold pkV at h
 split at h
 ·cases h
 rename_i hl
 have hl:=of_decide_eq_true hl
 split at h
 ·cases h
 split at h
 ·cases h
 rename_i hk
 have hk:=of_decide_eq_false hk
 have hm:=magOf_rng _ (getN_rng (bs.getD 0 0))
 have hc:=kindF_cases (rwB bs)
 split at h
 ·rename_i hr
  have hr:=of_decide_eq_false hr
  cases h
  refine ⟨hm,⟨?_,?_⟩,fun _=>?_,fun h3=>?_,fun b hb'=>hb b (List.mem_of_mem_drop hb')⟩
  ·simp only; omega
  ·simp only; omega
  ·simp only [List.length_drop]; omega
  ·simp only at h3; omega
 ·rename_i hr
  have hr:=of_decide_eq_true hr
  split at h
  ·cases h
   refine ⟨hm,⟨?_,?_⟩,fun h3=>?_,fun _=>?_,fun b hb'=>hb b (List.mem_of_mem_drop (List.mem_of_mem_drop hb'))⟩
   ·simp only; omega
   ·simp only; omega
   ·simp only at h3; omega
   ·simp only [List.length_drop]; omega
  ·cases h
theorem pkV_bad {bs:List Int} {k:Nat} (h:pkV bs=.bad k):k=eLen∨k=eBit∨k=eKnd:=by
 unfold pkV at h
 split at h
 ·cases h; exact .inl rfl
 split at h
 ·cases h; exact .inr (.inl rfl)
 split at h
 ·cases h; exact .inr (.inr rfl)
 split at h
 ·cases h
 split at h
 ·cases h
 ·cases h; exact .inr (.inl rfl)
theorem step_good {M:Mc} (h:M.good) {bs:List Int} (hb:∀ b∈bs,0≤b∧b<256):(M.step bs).1.good:=by
 unfold Mc.step
 split
 ·exact h
 ·rename_i p hp
  exact pkM_good h (pkV_fine hb hp).mg
def ncE:Option Nat→NC
 | none=>.en
 | some k=>.e k
noncomputable def errT (e:Option Nat) (M:Mc):Tr Out:=
 .br (e==none) (.ret (oMe M .en)) (.br (e==some eLen) (.ret (oMe M (.e eLen))) (.br (e==some eBit) (.ret (oMe M (.e eBit))) (.br (e==some eKnd) (.ret (oMe M (.e eKnd))) (.ret (oMe M (.e eRng))))))
theorem errT_run {e:Option Nat} {M:Mc} {R:Out→Prop} (he:e=none∨e=some eLen∨e=some eBit∨e=some eKnd∨e=some eRng) (h:(errT e M).run R):R (oMe M (ncE e)):=by
 rcases he with rfl | rfl | rfl | rfl | rfl
 all_goals exact h
theorem pkT_of {M:Mc} {p:Px} {g:Nat} {R:Out→Prop} (hg:(g:Int)=p.mg) (hM:M.good) (hp:Fine p) (h:R (oMe (M.pkM p).1 (ncE (M.pkM p).2))):pkT M g p.row p.kd p.cd p.ds R:=by
 have hgn:p.mg.toNat=g:=by omega
 unfold pkT
 rw [hM.bk,hg]
 unfold Mc.pkM at h
 rw [hgn] at h
 cases h1:(p.kd==1) with
 | true=>
   have e1:=eq_of_beq h1
   rw [h1] at h
   refine sT rfl ⟨⟨rfl,hM.ok⟩,⟨by rw [e1],hp.mg,hM,hp.l40 (by omega),hp.by'⟩,?_⟩
   cases ho:hdOk p.ds with
   | true=>rw [ho] at h; exact sT rfl h
   | false=>rw [ho] at h; exact sF rfl h
 | false=>
   rw [h1] at h
   refine sF rfl ?_
   cases h6:(p.kd==6) with
   | true=>
     have e6:=eq_of_beq h6
     rw [h6] at h
     have hl:=hp.l39 (by omega)
     refine sT rfl ⟨⟨by omega,by omega,hp.by'⟩,?_⟩
     cases ho:tr.regB p.kd p.cd p.ds with
     | true=>rw [ho] at h; exact sT rfl h
     | false=>rw [ho] at h; exact sF rfl h
   | false=>
     rw [h6] at h
     refine sF rfl ?_
     cases h7:(p.kd==7) with
     | true=>
       have e7:=eq_of_beq h7
       rw [h7] at h
       refine sT rfl ⟨fun _=>⟨hp.l39 (by omega),hp.by'⟩,?_⟩
       cases ho:sv.okK p.mg p.kd p.cd with
       | false=>rw [ho] at h; exact sF rfl h
       | true=>
         rw [ho] at h
         refine sT rfl ?_
         cases ha:sv.all6 p.ds with
         | false=>rw [ha] at h; exact sF rfl h
         | true=>
           rw [ha] at h
           refine sT rfl ?_
           cases hc:sv.clkG (sv.gD p.ds) with
           | false=>rw [hc] at h; exact sF rfl h
           | true=>rw [hc] at h; exact sT rfl h
     | false=>
       rw [h7] at h
       exact sF rfl ⟨⟨rfl,hM.ok⟩,⟨rfl,hp.mg,hM,fun h3=>hp.l39 (by omega),hp.by'⟩,h⟩
noncomputable def tPk:Con:=fun args regs=>match args with
 | [.c (.p 0 0 0),.c (.l _ bs)]=>onM regs fun M=>.must (args=[.c (.p 0 0 0),.c (.l .u8 bs)]∧M.good∧∀ b∈bs,0≤b∧b<256) (errT (M.step bs).2 (M.step bs).1)
 | [.c (.p 0 0 0),.c .sn]=>onM regs fun M=>.ret (oMe M (.e eLen))
 | _=>.fail
theorem Known_any {P:Program} {gl:List Nat} {f:FuncId} {ι:Type} {T:ι→Con} {T' : Con} (i0:ι) (hk:∀ i,Known P gl f (T i)) (h:∀ args regs R,(T' args regs).run R→∃ i,(T i args regs).run R):Known P gl f T':=
 ⟨(hk i0).goes,fun args regs R hr=>by obtain ⟨i,hi⟩:=h args regs R hr; exact (hk i).sound args regs R hi⟩
theorem pkM_err (M:Mc) (p:Px):(M.pkM p).2=none∨(M.pkM p).2=some eLen∨(M.pkM p).2=some eBit∨(M.pkM p).2=some eKnd∨(M.pkM p).2=some eRng:=by
 unfold Mc.pkM
 split
 ·split
  ·exact .inl rfl
  ·exact .inr (.inr (.inl rfl))
 ·split
  ·split <;> exact .inl rfl
  ·split
   ·split
    ·split
     ·split
      ·exact .inl rfl
      ·exact .inr (.inr (.inr (.inr rfl)))
     ·exact .inr (.inr (.inl rfl))
    ·exact .inr (.inr (.inr (.inl rfl)))
   ·exact .inl rfl
theorem step_err (M:Mc) (bs:List Int):(M.step bs).2=none∨(M.step bs).2=some eLen∨(M.step bs).2=some eBit∨(M.step bs).2=some eKnd∨(M.step bs).2=some eRng:=by
 unfold Mc.step
 split
 ·rename_i k hk
  rcases pkV_bad hk with rfl | rfl | rfl
  ·exact .inr (.inl rfl)
  ·exact .inr (.inr (.inl rfl))
  ·exact .inr (.inr (.inr (.inl rfl)))
 ·exact pkM_err M _
attribute [local irreducible] t_pkC pkT inM in
set_option maxHeartbeats 1000000 in
theorem pk_in {M:Mc} {bs:List Int} {R:Out→Prop} (hM:M.good) (hb:∀ b∈bs,0≤b∧b<256) (h:R (oMe (M.step bs).1 (ncE (M.step bs).2))):(t_pkC (pkV bs) [.c (.p 0 0 0),.c (.l .u8 bs)] (inM M)).run R:=by
 unfold Mc.step at h
 cases hq:pkV bs with
 | bad k=>
   rw [hq] at h
   rcases pkV_bad hq with rfl | rfl | rfl
   ·exact (pk_treeBL M bs R).mpr ⟨⟨rfl,hq⟩,h⟩
   ·exact (pk_treeBB M bs R).mpr ⟨⟨rfl,hq⟩,h⟩
   ·exact (pk_treeBK M bs R).mpr ⟨⟨rfl,hq⟩,h⟩
 | ok p=>
   rw [hq] at h
   have hp:=pkV_fine hb hq
   have key:∀ g:Nat,(g:Int)=p.mg→pkT M g p.row p.kd p.cd p.ds R:=fun g hg=>pkT_of hg hM hp h
   clear h
   obtain ⟨g,row,kd,cd,ds⟩:=p
   have hg:g=1∨g=2∨g=3∨g=4∨g=5∨g=6∨g=7∨g=8:=by have:=hp.mg; simp only at this; omega
   rcases hg with rfl | rfl | rfl | rfl | rfl | rfl | rfl | rfl
   ·exact (pk_tree1 M row kd cd ds bs R).mpr ⟨⟨rfl,hq⟩,key 1 rfl⟩
   ·exact (pk_tree2 M row kd cd ds bs R).mpr ⟨⟨rfl,hq⟩,key 2 rfl⟩
   ·exact (pk_tree3 M row kd cd ds bs R).mpr ⟨⟨rfl,hq⟩,key 3 rfl⟩
   ·exact (pk_tree4 M row kd cd ds bs R).mpr ⟨⟨rfl,hq⟩,key 4 rfl⟩
   ·exact (pk_tree5 M row kd cd ds bs R).mpr ⟨⟨rfl,hq⟩,key 5 rfl⟩
   ·exact (pk_tree6 M row kd cd ds bs R).mpr ⟨⟨rfl,hq⟩,key 6 rfl⟩
   ·exact (pk_tree7 M row kd cd ds bs R).mpr ⟨⟨rfl,hq⟩,key 7 rfl⟩
   ·exact (pk_tree8 M row kd cd ds bs R).mpr ⟨⟨rfl,hq⟩,key 8 rfl⟩
attribute [local irreducible] t_pkC in
theorem kPk:Known Tryz.prog GL 34 tPk:=by
 refine Known_any (.bad 0) k_pkC fun args regs R h=>?_
 unfold tPk at h
 split at h
 case h_3=>exact h.elim
 case h_1=>
  rename_i _ bs
  obtain ⟨M,rfl,hM,⟨h1,hg,hb⟩,h⟩:=onM_elim h
  rw [h1]
  exact ⟨pkV bs,pk_in hg hb (errT_run (step_err M bs) h)⟩
 case h_2=>
  obtain ⟨M,rfl,hM,h⟩:=onM_elim h
  exact ⟨.bad eLen,(pk_treeN M R).mpr ⟨rfl,h⟩⟩
theorem clN_tree (R:Out→Prop):(t_clT [.c .sn] []).run R=R ⟨.v (.c (.lr K3 [])),[]⟩:=by kernel_rfl
noncomputable def tclTN:Con:=fun args regs=>match args,regs with
 | [.c .sn],[]=>.ret ⟨.v (.c (.lr K3 [])),[]⟩
 | [.c (.lr ks xs)],[]=>tclTV [.c (.lr ks xs)] []
 | _,_=>.fail
noncomputable def clAny:Bool→Con
 | true=>t_clT
 | false=>tclTV
attribute [local irreducible] t_clT in
theorem kclTN:Known Tryz.prog GL 136 tclTN:=by
 refine Known_any (T:=clAny) true (fun b=>by cases b; exact kclTV; exact kt_clT) fun args regs R h=>?_
 unfold tclTN at h
 split at h
 ·exact ⟨true,(Box.of_eq (clN_tree R) h).out⟩
 ·exact ⟨false,h⟩
 ·exact h.elim
noncomputable def c_own1:FuncId→Option Con:=conOf [(136,tclTN)]
theorem kc_own1:∀ f T,c_own1 f=some T→Known Tryz.prog GL f T:=(Knowns.cons kclTN .nil).get
noncomputable def t_own1:Con:=fun args regs=>nfun Tryz.prog GL c_own1 [] Tryz.f80 args regs
theorem k_own1:Known Tryz.prog GL 80 t_own1:=known_inl Tryz.func80 rfl (by kernel_rfl) mixed kc_own1 (by kernel_rfl)
noncomputable def pgN (p:Pg):NV:=.sg (pgSegs p .sn [] fun q=>[.cells q])
theorem own1_tree (p:Pg) (R:Out→Prop):(t_own1 [pgV p] []).run R=(([NV.c (.lr K3 p.ex)]=[NV.c (.lr K3 p.ex)]∧p.ex.length≤1000000)∧R (oPg p)):=by kernel_rfl
theorem own1_nil (R:Out→Prop):(t_own1 [pgN pgZ] []).run R=R (oPg pgZ):=by kernel_rfl
noncomputable def tOwnN:Con:=fun args regs=>match args,regs with
 | [v],[]=>(match rdPg v with
   | some p=>.must (args=[pgV p]∧fits p) (.ret (oPg p))
   | none=>.must (args=[pgN pgZ]) (.ret (oPg pgZ)))
 | _,_=>.fail
attribute [local irreducible] t_own1 in
theorem kOwnN:Known Tryz.prog GL 80 tOwnN:=by
 refine k_own1.less fun args regs R h=>?_
 unfold tOwnN at h
 split at h
 case h_2=>exact h.elim
 split at h
 ·rename_i p _
  obtain ⟨⟨h1,h2⟩,h⟩:=h
  rw [h1]
  unfold fits at h2
  exact (Box.of_eq (own1_tree p R) ⟨⟨rfl,by omega⟩,h⟩).out
 ·obtain ⟨h1,h⟩:=h
  rw [h1]
  exact (Box.of_eq (own1_nil R) h).out
noncomputable def c_fd2:FuncId→Option Con:=conOf [(79,tGe),(80,tOwnN),(81,t_all)]
theorem kc_fd2:∀ f T,c_fd2 f=some T→Known Tryz.prog GL f T:=(Knowns.cons kGe (.cons kOwnN (.cons k_all .nil))).get
noncomputable def XFe:Cx:={P:=Tryz.prog,con:=c_fd2,glob:=GL,m:=4,loops:=[]}
noncomputable def XIt:Cx:={P:=Tryz.prog,con:=cIt,glob:=GL,m:=9,loops:=[]}
noncomputable def fr0:List NS:=frame 50 [(3,.v (.c (.p 4 0 0))),(4,.v (.c (.p 5 0 0))),(8,.v (.c (.p 6 0 0))),(9,.v (.c (.p 7 0 0))),(31,.v (.c (.cl 137 [(8,0,0)])))]
noncomputable def YF:Yh:=bodyY XFe (psOf rgF) (asOf rgF) (bdOf rgF) fr0
noncomputable def frIt (n i:Int) (l:Nat):List NS:=frame 32 [(0,.v (.c (.e 1000))),(1,.v (.c (.p 8 0 0))),(8,.v (.c (.hz 9 l))),(9,.v (.c (.i .i64 n))),(10,.v (.c (.i .i64 i)))]
noncomputable def pgO:Option Pg→Reg
 | some p=>pgReg p (.lr K3 p.ex)
 | none=>pgReg pgZ .sn
noncomputable def rgI (M:Mc) (k:Ky) (o:Option Pg):List (Option Reg):=[some (mcG 1 M.v M.inf),some (stM M.st.sto (.hz 3 M.st.sto.l.length)),some (mpReg M.st.sto.m),some (ordReg (kyRows M.st.sto.l)),some (plReg k),some (pgReg pgZ .sn),some (pgO o),some ⟨1,4,.cells [.b o.isSome]⟩,some ⟨1,95,.cells [.p 1 0 0]⟩]
noncomputable def SF (M:Mc) (k:Ky) (o:Option Pg) (i:Int):St:={fr:=frIt M.st.L.length i M.st.L.length,rg:=rgI M k o++[some (ordReg (kyRows (M.st.L.map kyP)))]}
noncomputable def DF (M:Mc) (k:Ky) (o:Option Pg):St:={fr:=frame 32 [],rg:=rgI M k o}
noncomputable abbrev itC:Code:=bodyLoop f_it 0
noncomputable def rndF (s:St):Tr ROI:=roundI XIt YF KI [] 0 [0,1,8,9,10] [] itC s Option.none
def rkF (M:Mc) (i:Int):Ky:=toKy ((kyRows (M.st.L.map kyP)).getD i.toNat [])
noncomputable def nxF (M:Mc) (k:Ky) (o:Option Pg) (i:Int) (R:ROI→Prop):Prop:=R (.next (SF M k o (IntKind.i64.wrap (i+1))) Option.none)
noncomputable def inF (M:Mc) (k:Ky) (o:Option Pg) (i:Int) (R:ROI→Prop):Prop:=
 sel (decide (i<(M.st.L.length:Int))) (sel (decide (0≤i)) (sel (decide (i<(M.st.L.length:Int))) (sel (decide (i.toNat<(kyRows (M.st.L.map kyP)).length)) (sel (mpHas plSch (kyFC (rkF M i)) M.st.sto.m)
  (true=true∧sel ((rkF M i).1==k.1) (sel ((rkF M i).2.1==k.2.1) (nxF M k (some (ofRow (mpGet plSch (kyFC (rkF M i)) M.st.sto.m))) i R) (nxF M k o i R)) (nxF M k o i R)) (nxF M k o i R)) False) False) False) (R (.done .normal (DF M k o) Option.none))
theorem round_F0 (M:Mc) (k:Ky) (i:Int) (R:ROI→Prop):(rndF (SF M k none i)).run R=inF M k none i R:=by kernel_rfl
theorem round_F1 (M:Mc) (k:Ky) (p:Pg) (i:Int) (R:ROI→Prop):(rndF (SF M k (some p) i)).run R=inF M k (some p) i R:=by kernel_rfl
theorem round_F (M:Mc) (k:Ky) (i:Int) (R:ROI→Prop):∀ o:Option Pg,(rndF (SF M k o i)).run R=inF M k o i R
 | none=>round_F0 M k i R
 | some p=>round_F1 M k p i R
def hitF (k:Ky) (p:Pg):Bool:=(p.mg==k.1)&&(p.pn==k.2.1)
def stepF (k:Ky) (o:Option Pg) (p:Pg):Option Pg:=match hitF k p with
 | true=>some p
 | false=>o
def lastF (k:Ky) (L:List Pg):Option Pg:=L.foldl (stepF k) none
theorem rk_eq {M:Mc} {i:Int} (h:i.toNat<M.st.L.length):rkF M i=kyP M.st.L[i.toNat]:=by
 unfold rkF
 rw [kyRows_getD (by rw [List.length_map]; exact h),List.getD_eq_getElem?_getD,List.getElem?_map,List.getElem?_eq_getElem h]
 rfl
theorem find_nd:∀ {L:List Pg} {n:Nat} (hn:n<L.length),(L.map kyP).Nodup→L.find? (fun p=>kyEq (kyP L[n]) (kyP p))=some L[n]
 | [],n,hn,_=>absurd hn (Nat.not_lt_zero _)
 | q::L,0,_,_=>by
   rw [List.find?_cons]
   show (match kyEq (kyP q) (kyP q) with | true=>some q | false=>_)=some q
   rw [kyEq_iff.2 rfl]
 | q::L,n+1,hn,h=>by
   rw [List.map_cons,List.nodup_cons] at h
   have hn' : n<L.length:=Nat.lt_of_succ_lt_succ hn
   rw [List.find?_cons]
   show (match kyEq (kyP L[n]) (kyP q) with | true=>some q | false=>L.find? (fun p=>kyEq (kyP L[n]) (kyP p)))=some L[n]
   cases hk:kyEq (kyP L[n]) (kyP q) with
   | true=>exact (h.1 (kyEq_iff.1 hk ▸ List.mem_map.2 ⟨L[n],List.getElem_mem hn',rfl⟩)).elim
   | false=>exact find_nd hn' h.2
theorem mp_nth {L:List Pg} {n:Nat} (hn:n<L.length) (h:(L.map kyP).Nodup):mpHas plSch (kyFC (kyP L[n])) (ents L)=true∧ofRow (mpGet plSch (kyFC (kyP L[n])) (ents L))=L[n]:=by
 have:=mp_find (kyP L[n]) L
 rw [find_nd hn h] at this
 exact this
structure AF where
 o:Option Pg
 i:Int
noncomputable def endF (M:Mc) (k:Ky) (o:Option Pg):Tr (NExit × St × Option NExit):=.br o.isSome (.ret (.normal,DF M k (some (o.getD pgZ)),Option.none)) (.ret (.normal,DF M k none,Option.none))
def preF (M:Mc) (k:Ky) (a:AF) (R:NExit × St × Option NExit→Prop):Prop:=(0≤a.i∧a.i≤(M.st.L.length:Int))∧M.good∧(endF M k ((M.st.L.drop a.i.toNat).foldl (stepF k) a.o)).run R
noncomputable def hF (M:Mc) (k:Ky) (a:AF):St × Option NExit:=(SF M k a.o a.i,Option.none)
def nxtF (M:Mc) (k:Ky) (a:AF) (R:NExit × St × Option NExit→Prop) (o:ROI):Prop:=match o with
 | .next s p=>∃ y,(s,p)=hF M k y∧((M.st.L.length:Int) - y.i).toNat<((M.st.L.length:Int) - a.i).toNat∧preF M k y R
 | .done e s p=>R (e,s,p)
theorem inF_in (M:Mc) (k:Ky) (a:AF) (R:NExit × St × Option NExit→Prop) (h:preF M k a R):inF M k a.o a.i (nxtF M k a R):=by
 obtain ⟨o,i⟩:=a
 obtain ⟨⟨h0,hle⟩,hg,hR⟩:=h
 simp only at h0 hle hR
 unfold inF
 by_cases hlt:i<(M.st.L.length:Int)
 ·have hj:i.toNat<M.st.L.length:=by omega
  have hl8:=hg.lt
  have hw:IntKind.i64.wrap (i+1)=i+1:=by rw [IntKind.wrap_i64]; omega
  have ht:(i+1).toNat=i.toNat+1:=by omega
  have nx:∀ o',(endF M k ((M.st.L.drop (i.toNat+1)).foldl (stepF k) o')).run R→nxF M k o' i (nxtF M k ⟨o,i⟩ R):=fun o' h'=>by
   unfold nxF
   rw [hw]
   exact ⟨⟨o',i+1⟩,rfl,by simp only; omega,⟨by simp only; omega,by simp only; omega⟩,hg,by simp only; rw [ht]; exact h'⟩
  rw [List.drop_eq_getElem_cons hj,List.foldl_cons] at hR
  have hm:=mp_nth hj hg.nd
  rw [rk_eq hj]
  refine sT (decide_eq_true hlt) (sT (decide_eq_true h0) (sT (decide_eq_true hlt) (sT (decide_eq_true (by rw [kyRows_length,List.length_map]; exact hj)) ?_)))
  show sel (mpHas plSch (kyFC (kyP M.st.L[i.toNat])) (ents M.st.L)) (true=true∧sel _ (sel _ (nxF M k (some (ofRow (mpGet plSch (kyFC (kyP M.st.L[i.toNat])) (ents M.st.L)))) i _) _) _) _
  rw [hm.2]
  refine sT hm.1 ⟨rfl,?_⟩
  generalize M.st.L[i.toNat]=p at hR ⊢
  show sel (p.mg==k.1) (sel (p.pn==k.2.1) _ _) _
  cases h1:p.mg==k.1 with
  | false=>
    refine nx o ?_
    unfold stepF hitF at hR
    rw [h1] at hR
    exact hR
  | true=>
    show sel (p.pn==k.2.1) _ _
    cases h2:p.pn==k.2.1 with
    | false=>
      refine nx o ?_
      unfold stepF hitF at hR
      rw [h1,h2] at hR
      exact hR
    | true=>
      refine nx (some p) ?_
      unfold stepF hitF at hR
      rw [h1,h2] at hR
      exact hR
 ·refine sF (decide_eq_false hlt) ?_
  rw [List.drop_eq_nil_iff.2 (by omega)] at hR
  cases o with
  | none=>exact hR
  | some p=>exact hR
theorem loop_F (M:Mc) (k:Ky):LOkI Tryz.prog GL 9 KI YF 0 itC (fun s=>.must (s=(SF M k none 0,Option.none)∧M.good) (endF M k (lastF k M.st.L))):=by
 refine loopI_ok (X:=XIt) (ls:=[]) kcIt (by kernel_rfl) (LAllI.none (by kernel_rfl)) [0,1,8,9,10] [] (hF M k) (fun a=>((M.st.L.length:Int) - a.i).toNat) (preF M k) ?_ ?_
 ·rintro s R ⟨⟨hs,hg⟩,hR⟩
  exact ⟨⟨none,0⟩,hs,⟨by simp only; omega,by simp only; omega⟩,hg,hR⟩
 ·intro a R h
  have:=(Box.of_eq (round_F M k a.i (nxtF M k a R) a.o) (inF_in M k a R h)).out
  exact Tr.run_mono _ (fun o ho=>ho) this
noncomputable def LF (M:Mc) (k:Ky) (m:Nat) (fr:List NS) (s:St × Option NExit):Tr (NExit × St × Option NExit):=.must ((m=9∧fr=fr0)∧s=(SF M k none 0,Option.none)∧M.good) (endF M k (lastF k M.st.L))
theorem loop_F' (M:Mc) (k:Ky) (m:Nat) (fr:List NS):LOkI Tryz.prog GL m KI (bodyY XFe (psOf rgF) (asOf rgF) (bdOf rgF) fr) 0 itC (LF M k m fr):=by
 intro l rc N Γ0 w0 h0 hN h0k h0r hY s p Γ a w R Q hI hE hW hL hK
 unfold LF at hL
 obtain ⟨⟨⟨rfl,hfr⟩,h2⟩,h4⟩:=hL
 rw [hfr] at hY
 exact loop_F M k l rc N Γ0 w0 h0 hN h0k h0r hY s p Γ a w R Q hI hE hW ⟨h2,h4⟩ hK
noncomputable def lsF (M:Mc) (k:Ky) (m:Nat) (fr:List NS):LI:=[(0,[0,1,8,9,10],LF M k m fr)]
noncomputable def RF (M:Mc) (k:Ky):St→Tr (NExit × St):=rangeT XFe KI cIt (lsF M k) 0 [4,8,9] 137 f_it rgF
noncomputable def codeIt:Code:=f_it.body.getD .skip
theorem it_body:f_it.body=some codeIt:=by kernel_rfl
theorem it_loops:loopsIn codeIt=[(0,itC)]:=by kernel_rfl
theorem rgF_eq:rgF=.rangeFunc (.tmp 31) (psOf rgF) (asOf rgF) (bdOf rgF):=by kernel_rfl
theorem con_e:∀ f T,XFe.con f=some T→Known Tryz.prog GL f T:=kc_fd2
theorem rF_ok (M:Mc) (k:Ky):RgOk Tryz.prog GL 4 0 rgF (RF M k):=by
 have h:=rangeT_ok (X:=XFe) con_e (K:=KI) kcIt (ls:=lsF M k) (id:=0) (out:=[4,8,9]) (g:=.tmp 31) (ps:=psOf rgF) (assign:=asOf rgF) (body:=bdOf rgF) Tryz.func137 it_body (by kernel_rfl) (by kernel_rfl) (by kernel_rfl) (by kernel_rfl) (by kernel_rfl)
  (fun m fr=>LAllI.one (id:=0) (body:=itC) (live:=[0,1,8,9,10]) (L:=LF M k m fr) it_loops rfl (loop_F' M k m fr))
 rw [← rgF_eq] at h
 exact h
noncomputable def lpF (M:Mc) (k:Ky):List (Nat × List Nat × (St→Tr (NExit × St))):=[(0,[3,4,8,9,31],RF M k)]
noncomputable def t_fd (M:Mc) (k:Ky):Con:=fun args regs=>if regs.length=4 then nfun Tryz.prog GL c_fd2 (lpF M k) f_fd args regs else .fail
theorem fd_loops:loopsIn (f_fd.body.getD .skip)=[]:=by kernel_rfl
theorem fd_ranges:rangesIn (f_fd.body.getD .skip)=[(0,rgF)]:=by kernel_rfl
theorem k_fd (M:Mc) (k:Ky):Known Tryz.prog GL 36 (t_fd M k):=by
 refine known_loops (c:=f_fd.body.getD .skip) 4 Tryz.func36 (by kernel_rfl) (by kernel_rfl) mixed kc_fd2 ⟨fun i b hb x hf=>?_,fun i b hb x hf=>?_⟩
 ·rw [fd_loops] at hb
  cases hb
 ·rw [fd_ranges,List.mem_singleton] at hb
  cases hb
  have:x=(0,[3,4,8,9,31],RF M k):=by simpa [lpF] using hf.symm
  subst this
  exact rF_ok M k
noncomputable def oFd (M:Mc) (x:Pg × Bool):Out:=⟨.tu [pgV x.1,.c (.b x.2)],(inM M).map some⟩
noncomputable def eqSt (M:Mc) (x:Sp) (A:Prop):Prop:=some (stM M.st.sto (.hz 3 M.st.sto.l.length))=some (stM x.sto (.hz 3 x.sto.l.length))∧(some (mpReg M.st.sto.m)=some (mpReg x.sto.m)∧(some (ordReg (kyRows M.st.sto.l))=some (ordReg (kyRows x.sto.l))∧A))
noncomputable def fdT (M:Mc) (k:Ky) (R:Out→Prop):Prop:=
 sel (k.2.2 !=16255)
  ((inP M.st=inP (mpP M.st)∧(mpP M.st).ok)∧eqSt M (mpP M.st) (([pgV ((mpP M.st).get k).1]=[pgV ((mpP M.st).get k).1]∧fits ((mpP M.st).get k).1)∧R (oFd M ((mpP M.st).get k))))
  ((inP M.st=inP (mpP M.st)∧(mpP M.st).ok)∧(((9=9∧fr0=fr0)∧(SF {M with st:=mpP M.st} k none 0,Option.none)=(SF M k none 0,(Option.none:Option NExit))∧M.good)∧
    sel (lastF k M.st.L).isSome (([pgV ((lastF k M.st.L).getD pgZ)]=[pgV ((lastF k M.st.L).getD pgZ)]∧fits ((lastF k M.st.L).getD pgZ))∧R (oFd M ((lastF k M.st.L).getD pgZ,true)))
     ([pgN pgZ]=[pgN pgZ]∧R (oFd M (pgZ,false)))))
theorem fd_tree (M:Mc) (a b c:Int) (R:Out→Prop):(t_fd M (a,b,c) [.c (.p 0 0 0),.ag (kyNC (a,b,c))] (inM M)).run R=fdT M (a,b,c) R:=by kernel_rfl
def Mc.find (M:Mc) (k:Ky):Pg × Bool:=match k.2.2 !=16255 with
 | true=>M.st.get k
 | false=>((lastF k M.st.L).getD pgZ,(lastF k M.st.L).isSome)
theorem fold_mem (k:Ky):∀ (L:List Pg) (o:Option Pg) {p:Pg},L.foldl (stepF k) o=some p→o=some p∨p∈L
 | [],o,p,h=>.inl h
 | q::L,o,p,h=>by
   rcases fold_mem k L _ h with h | h
   ·unfold stepF at h
    split at h
    ·cases h; exact .inr (List.mem_cons_self ..)
    ·exact .inl h
   ·exact .inr (List.mem_cons_of_mem _ h)
theorem last_fits {M:Mc} (h:M.good) (k:Ky):fits ((lastF k M.st.L).getD pgZ):=by
 cases hl:lastF k M.st.L with
 | none=>exact fits_z
 | some p=>
   rcases fold_mem k _ _ hl with h' | h'
   ·cases h'
   ·exact h.fit p h'
theorem fd_in {M:Mc} {k:Ky} {R:Out→Prop} (hM:M.good) (h:R (oFd M (M.find k))):fdT M k R:=by
 unfold fdT
 rw [mpP_eq]
 unfold Mc.find at h
 cases hs:k.2.2 !=16255 with
 | true=>
   rw [hs] at h
   exact ⟨⟨rfl,hM.ok.2⟩,rfl,rfl,rfl,⟨rfl,get_fits hM.fit k⟩,h⟩
 | false=>
   rw [hs] at h
   refine ⟨⟨rfl,hM.ok.2⟩,⟨⟨rfl,rfl⟩,rfl,hM⟩,?_⟩
   have hf:=last_fits hM k
   cases hl:lastF k M.st.L with
   | none=>
     rw [hl] at h
     exact ⟨rfl,h⟩
   | some p=>
     rw [hl] at h hf
     exact ⟨⟨rfl,hf⟩,h⟩
noncomputable def tFd:Con:=fun args regs=>match args with
 | [.c (.p 0 0 0),.ag [.i _ a,.i _ b,.i _ c]]=>onM regs fun M=>.must (args=[.c (.p 0 0 0),.ag (kyNC (a,b,c))]∧M.good) (.ret (oFd M (M.find (a,b,c))))
 | _=>.fail
def mcZ:Mc:=⟨fun _=>mvZ,ixZ,⟨1,ky0,false,[]⟩⟩
attribute [local irreducible] t_fd in
theorem kFd:Known Tryz.prog GL 36 tFd:=by
 refine Known_any (ι:=Mc × Ky) (T:=fun x=>t_fd x.1 x.2) (mcZ,ky0) (fun x=>k_fd x.1 x.2) fun args regs R h=>?_
 unfold tFd at h
 split at h
 case h_2=>exact h.elim
 rename_i _ a _ b _ c
 obtain ⟨M,rfl,hM,⟨h1,hg⟩,h⟩:=onM_elim h
 rw [h1]
 exact ⟨(M,a,b,c),(Box.of_eq (fd_tree M a b c R) (fd_in hg h)).out⟩
noncomputable def t_snew:Con:=fun args regs=>nfun Tryz.prog GL (fun _=>Option.none) [] Tryz.f69 args regs
theorem k_snew:KnownF Tryz.prog GL 69 t_snew:=known_inlF Tryz.func69 rfl (by kernel_rfl) mixed con_none (by kernel_rfl)
noncomputable def c_new:FuncId→Option Con:=conOf [(69,t_snew)]
theorem kc_new:∀ f T,c_new f=some T→Known Tryz.prog GL f T:=(Knowns.cons k_snew.known .nil).get
noncomputable def t_new0:Con:=fun args regs=>nfun Tryz.prog GL c_new [] Tryz.f28 args regs
theorem k_new0:KnownF Tryz.prog GL 28 t_new0:=known_inlF Tryz.func28 rfl (by kernel_rfl) mixed kc_new (by kernel_rfl)
def nilsM:List (Nat × Nat × Nat × NC):=[0,1,2,3,4,5,6,7,8].flatMap fun g=>[(0,9 * g+5,0,.lr K3 []),(0,9 * (g+1),1,.l .u8 [])]
def canonL (F:Nat) (cs:List (Nat × Nat × Reg)) (o:Out):Tr Out:=
 match o.rg with
 | []=>.ret o
 | _=>canonO F cs none o
def canonV (F:Nat) (cs:List (Nat × Nat × Reg)) (T:Con):Con:=fun args regs=>(T args regs).bind (canonL F cs)
theorem KnownF_canonV {P:Program} {gl:List Nat} {f:FuncId} {T:Con} (h:KnownF P gl f T) (F:Nat) (cs:List (Nat × Nat × Reg)):KnownF P gl f (canonV F cs T):=by
 refine h.weak fun args regs R hR=>?_
 unfold canonV at hR
 rw [Tr.run_bind] at hR
 refine Tr.run_mono _ (fun o ho=>?_) hR
 unfold canonL at ho
 split at ho
 ·exact ⟨_,WeakF.refl _,ho⟩
 ·exact canonO_ok ho
noncomputable def t_newC:Con:=softT [] [] [] nilsM 4 (canonV 3 [(1,2,ordReg [])] t_new0)
theorem k_newC:Known Tryz.prog GL 28 t_newC:=(KnownF_canonV k_new0 3 [(1,2,ordReg [])]).soft [] [] [] nilsM 4
def mcN (n:Int):Mc:=⟨fun _=>mvZ,ixZ,⟨n,(0,0,0),false,[]⟩⟩
noncomputable def oNo:Out:=⟨.tu [.c .pn,.c (.e eRng)],[]⟩
noncomputable def oNw (n:Int):Out:=⟨.tu [.c (.p 0 0 0),.c .en],(inM (mcN n)).map some⟩
theorem nw_tree (n:Int) (R:Out→Prop):(t_newC [.c (.i .i64 n)] []).run R=sel (decide (n<1)) (R oNo) (sel (decide (n > 800)) (R oNo) (R (oNw n))):=by kernel_rfl
noncomputable def tNewM:Con:=fun args regs=>match args,regs with
 | [.c (.i _ n)],[]=>.must (args=[.c (.i .i64 n)]) (.br (decide (n<1)) (.ret oNo) (.br (decide (n > 800)) (.ret oNo) (.ret (oNw n))))
 | _,_=>.fail
attribute [local irreducible] t_newC in
theorem kNewM:Known Tryz.prog GL 28 tNewM:=by
 refine k_newC.less fun args regs R h=>?_
 unfold tNewM at h
 split at h
 case h_2=>exact h.elim
 rename_i n
 rw [h.1]
 exact (Box.of_eq (nw_tree n R) h.2).out
theorem mcN_good {n:Int} (h1:1≤n) (h8:n≤800):(mcN n).good:=by
 refine ⟨fun k hk=>rfl,List.nodup_nil,h1,h8,?_,?_,fun k=>fits_z,fun k=>Nat.zero_le _⟩
 ·show ((0:Nat):Int)≤n
  omega
 ·intro p hp
  cases hp
noncomputable def c_pgs0:FuncId→Option Con:=conOf [(33,tKe)]
theorem kc_pgs0:∀ f T,c_pgs0 f=some T→Known Tryz.prog GL f T:=(Knowns.cons kKe.known .nil).get
noncomputable def t_pgs0:Con:=fun args regs=>nfun Tryz.prog GL c_pgs0 [] Tryz.f13 args regs
theorem k_pgs0:Known Tryz.prog GL 13 t_pgs0:=known_inl Tryz.func13 rfl (by kernel_rfl) mixed kc_pgs0 (by kernel_rfl)
noncomputable def oPgs (M:Mc):Out:=⟨.v (.c (.lr K3 (kyRows (M.st.L.map kyP)))),(inM M).map some⟩
noncomputable def t_pgsC:Con:=softT [] [4] [] [] 4 t_pgs0
theorem k_pgsC:Known Tryz.prog GL 13 t_pgsC:=k_pgs0.soft [] [4] [] [] 4
theorem pgs_tree (M:Mc) (R:Out→Prop):(t_pgsC [.c (.p 0 0 0)] (inM M)).run R=((inP M.st=inP (mpP M.st)∧(mpP M.st).ok)∧((mpP M.st).L.length=(kyRows ((mpP M.st).L.map kyP)).length∧R (oPgs {M with st:=mpP M.st}))):=by kernel_rfl
noncomputable def tPgs:Con:=fun args regs=>match args with
 | [.c (.p 0 0 0)]=>onM regs fun M=>.ret (oPgs M)
 | _=>.fail
attribute [local irreducible] t_pgsC in
theorem kPgs:Known Tryz.prog GL 13 tPgs:=by
 refine k_pgsC.less fun args regs R h=>?_
 unfold tPgs at h
 split at h
 case h_2=>exact h.elim
 obtain ⟨M,rfl,hM,h⟩:=onM_elim h
 have e:({M with st:=mpP M.st}:Mc)=M:=by rw [mpP_eq]
 refine (Box.of_eq (pgs_tree M R) ⟨⟨by rw [mpP_eq],by rw [mpP_eq]; exact hM.2⟩,by rw [kyRows_length,List.length_map],?_⟩).out
 rw [e]
 exact h
end mac
namespace bm
open sto (sT sF)
open Go Go.Nx pk ln hd lb sv
theorem byT {x:Int} (h:0≤x∧x<256):∃ m,m<256∧x=Int.ofNat m:=⟨x.toNat,by omega,by show x=((x.toNat:Nat):Int); omega⟩
noncomputable def c_rodd:FuncId→Option Con:=conOf [(138,ones.tOnes)]
theorem kc_rodd:∀ f T,c_rodd f=some T→Known Tryz.prog GL f T:=(Knowns.cons (known_gl ones.kOnes) .nil).get
noncomputable def t_rodd:Con:=fun args regs=>nfun Tryz.prog GL c_rodd [] Tryz.f139 args regs
theorem k_rodd:Known Tryz.prog GL 139 t_rodd:=known_inl Tryz.func139 rfl (by kernel_rfl) mixed kc_rodd (by kernel_rfl)
theorem rodd_tree (b:Int) (R:Out→Prop):(t_rodd [.c (.i .u8 b)] []).run R=((0≤IntKind.i64.wrap b∧IntKind.i64.wrap b<9223372036854775808)∧R (oB ((ones.bl (IntKind.i64.wrap b).toNat:Int).tmod 2==1))):=by kernel_rfl
theorem rodd_all:∀ m<256,ones.par m 8=odd (Int.ofNat m):=by decide +kernel
noncomputable def tROdd:Con:=fun args regs=>match args,regs with
 | [.c (.i .u8 b)],[]=>.must (0≤b∧b<256) (.ret (oB (odd b)))
 | _,_=>.fail
theorem rodd_in {b:Int} (h:0≤b∧b<256):((ones.bl (IntKind.i64.wrap b).toNat:Int).tmod 2==1)=odd b:=by
 obtain ⟨m,hm,rfl⟩:=byT h
 have hw:IntKind.i64.wrap (Int.ofNat m)=Int.ofNat m:=by rw [IntKind.wrap_i64]; show ((m:Int)+_) % _ - _=(m:Int); omega
 rw [hw,show (Int.ofNat m).toNat=m from rfl,← rodd_all m hm]
 have hp:=ones.bl_par 8 m (by omega)
 rw [Int.tmod_eq_emod_of_nonneg (by omega)]
 cases h2:ones.par m 8 with
 | true=>
   rw [h2] at hp
   have hp:ones.bl m % 2=1:=hp
   rw [beq_iff_eq]
   omega
 | false=>
   rw [h2] at hp
   have hp:ones.bl m % 2=0:=hp
   rw [beq_eq_false_iff_ne]
   omega
theorem kROdd:Known Tryz.prog GL 139 tROdd:=by
 refine k_rodd.less fun args regs R h=>Box.out ?_
 unfold tROdd at h
 split at h
 case h_2=>exact h.elim
 rename_i b
 have h1:=h.1
 have h2:R (oB (odd b)):=h.2
 clear h
 refine Box.of_eq (rodd_tree b R) ⟨?_,by rw [rodd_in h1]; exact h2⟩
 rw [IntKind.wrap_i64]
 omega
noncomputable def c_rmk:FuncId→Option Con:=conOf [(139,tROdd)]
theorem kc_rmk:∀ f T,c_rmk f=some T→Known Tryz.prog GL f T:=(Knowns.cons kROdd .nil).get
noncomputable def t_rmk:Con:=fun args regs=>nfun Tryz.prog GL c_rmk [] Tryz.f85 args regs
theorem k_rmk:Known Tryz.prog GL 85 t_rmk:=known_inl Tryz.func85 rfl (by kernel_rfl) mixed kc_rmk (by kernel_rfl)
theorem rmk_tree (c:Int) (R:Out→Prop):(t_rmk [.c (.i .u8 c)] []).run R=((0≤aU c 127∧aU c 127<256)∧sel (odd (aU c 127)) (R ⟨.v (.c (.i .u8 (aU c 127))),[]⟩) (R ⟨.v (.c (.i .u8 (oU (aU c 127) 128))),[]⟩)):=by kernel_rfl
theorem kRMkO:Known Tryz.prog GL 85 tMkO:=by
 refine k_rmk.less fun args regs R h=>Box.out ?_
 unfold tMkO at h
 split at h
 case h_2=>exact h.elim
 rename_i c
 have h2:R ⟨.v (.c (.i .u8 (mkO c))),[]⟩:=h
 clear h
 refine Box.of_eq (rmk_tree c R) ⟨aU_in _ _,?_⟩
 unfold mkO at h2
 cases hc:odd (aU c 127) with
 | true=>rw [hc] at h2; exact selT rfl h2
 | false=>rw [hc] at h2; exact selF rfl h2
noncomputable abbrev f_odd:=Tryz.f39
noncomputable def c_odd:FuncId→Option Con:=conOf [(85,tMkO)]
theorem kc_odd:∀ f T,c_odd f=some T→Known Tryz.prog GL f T:=(Knowns.cons kRMkO .nil).get
noncomputable def X_odd:Cx:={P:=Tryz.prog,con:=c_odd,glob:=GL,m:=0,loops:=[]}
def arU (xs:List Int):Reg:=⟨1,5,.ints .u8 xs⟩
noncomputable def ouC:Option (List Int × Nat)→NC
 | none=>.sn
 | some x=>.h 0 0 x.2
noncomputable def ouR:Option (List Int × Nat)→List (Option Reg)
 | none=>[]
 | some x=>[some (arU x.1)]
noncomputable def sOd (bs:List Int) (n i:Int) (o:Option (List Int × Nat)):St:={fr:=frame 27 [(0,.v (.c (.l .u8 bs))),(1,.v (.c (.i .i64 n))),(4,.v (.c .sn)),(5,.v (.c (ouC o))),(6,.v (.c (.i .i64 i)))],rg:=ouR o}
noncomputable def dOd (o:Option (List Int × Nat)):St:={fr:=frame 27 [(5,.v (.c (ouC o)))],rg:=ouR o}
noncomputable def rOd (s:St):Tr RO:=roundT X_odd 0 [0,1,4,5,6] [5] (bodyLoop f_odd 0) s
def ixU (i:Int) (l:Nat) (A:Prop):Prop:=sel (decide (0≤i)) (sel (decide (i<(l:Int))) (sel (decide (i.toNat<l)) A False) False) False
def apU (m:Nat) (A:Prop):Prop:=sel (decide (0+m≤m)) (sel (decide ((m+1) * bytesT Tryz.prog 5≤140737488355328)) (sel (decide (m+1≤9223372036854775807)) A False) False) False
noncomputable def nxOd (bs:List Int) (n i:Int) (R:RO→Prop) (xs:List Int) (m:Nat):Prop:=R (.next (sOd bs n (IntKind.i64.wrap (i+1)) (some (xs,m))))
theorem od_0 (bs:List Int) (n i:Int) (R:RO→Prop):(rOd (sOd bs n i none)).run R =
 sel (decide (i<n)) (sel (decide (i<(bs.length:Int))) (ixU i bs.length (nxOd bs n i R [mkO (bs.getD i.toNat 0)] 1)) (nxOd bs n i R [mkO 32] 1)) (R (.done .normal (dOd none))):=by kernel_rfl
theorem od_1 (bs:List Int) (n i:Int) (xs:List Int) (R:RO→Prop):(rOd (sOd bs n i (some (xs,xs.length)))).run R =
 sel (decide (i<n)) (sel (decide (i<(bs.length:Int))) (ixU i bs.length (apU xs.length (nxOd bs n i R (List.take xs.length xs++[mkO (bs.getD i.toNat 0)]) (xs.length+1)))) (apU xs.length (nxOd bs n i R (List.take xs.length xs++[mkO 32]) (xs.length+1)))) (R (.done .normal (dOd (some (xs,xs.length))))):=by kernel_rfl
noncomputable def odV (bs:List Int) (k:Nat):List Int:=(List.range k).map fun i=>mkO (bs.getD i 32)
theorem odV_len (bs:List Int) (k:Nat):(odV bs k).length=k:=by unfold odV; rw [List.length_map,List.length_range]
theorem odV_succ (bs:List Int) (k:Nat):odV bs (k+1)=odV bs k++[mkO (bs.getD k 32)]:=by unfold odV; rw [List.range_succ,List.map_append]; rfl
noncomputable def oOd (bs:List Int):Nat→Option (List Int × Nat)
 | 0=>none
 | k+1=>some (odV bs (k+1),k+1)
theorem bytesU:bytesT Tryz.prog 5=1:=by kernel_rfl
theorem apU_in {m:Nat} {A:Prop} (hm:m≤1000) (h:A):apU m A:=by
 unfold apU
 rw [bytesU]
 exact sT (decide_eq_true (by omega)) (sT (decide_eq_true (by omega)) (sT (decide_eq_true (by omega)) h))
theorem ixU_in {i:Int} {l:Nat} {A:Prop} (h:0≤i∧i<(l:Int)) (hA:A):ixU i l A:=sT (decide_eq_true h.1) (sT (decide_eq_true h.2) (sT (decide_eq_true (by omega)) hA))
def rdOd (s:St):Option (List Int × Int):=match s.fr[(0:Nat)]?,s.fr[(1:Nat)]? with
 | some (.v (.c (.l _ bs))),some (.v (.c (.i _ n)))=>some (bs,n)
 | _,_=>none
noncomputable def lOd (s:St):Tr (NExit × St):=match rdOd s with
 | some x=>.must (s=sOd x.1 x.2 0 none∧0<x.2∧x.2≤100) (.ret (.normal,dOd (some (odV x.1 x.2.toNat,x.2.toNat))))
 | none=>.fail
structure AOd where
 bs:List Int
 n:Int
 k:Nat
noncomputable def hOd (a:AOd):St:=sOd a.bs a.n (a.k:Int) (oOd a.bs a.k)
def preOd (a:AOd) (R:NExit × St→Prop):Prop:=((a.k:Int)≤a.n∧0<a.n∧a.n≤100)∧R (.normal,dOd (some (odV a.bs a.n.toNat,a.n.toNat)))
def nxtOd (a:AOd) (R:NExit × St→Prop) (o:RO):Prop:=match o with
 | .next s=>∃ y,s=hOd y∧(y.n - y.k).toNat<(a.n - a.k).toNat∧preOd y R
 | .done e s=>R (e,s)
theorem getD_in {bs:List Int} {k:Nat} (h:k<bs.length):bs.getD k 32=bs.getD k 0:=by
 rw [List.getD_eq_getElem?_getD,List.getD_eq_getElem?_getD,List.getElem?_eq_getElem h]; rfl
theorem getD_out {bs:List Int} {k:Nat} (h:¬ k<bs.length):bs.getD k 32=32:=by
 rw [List.getD_eq_getElem?_getD,List.getElem?_eq_none (by omega)]; rfl
theorem od_in (a:AOd) (R:NExit × St→Prop) (h:preOd a R):Box ((rOd (hOd a)).run (nxtOd a R)):=by
 obtain ⟨bs,n,k⟩:=a
 obtain ⟨⟨h1,h2,h3⟩,hR⟩:=h
 simp only at h1 h2 h3 hR
 have hw:IntKind.i64.wrap ((k:Int)+1)=((k+1:Nat):Int):=by rw [IntKind.wrap_i64]; omega
 have nx:∀ xs m,(k:Int)<n→xs=odV bs (k+1)→m=k+1→nxOd bs n (k:Int) (nxtOd ⟨bs,n,k⟩ R) xs m:=by
  rintro xs m hk rfl rfl
  unfold nxOd
  rw [hw]
  exact ⟨⟨bs,n,k+1⟩,rfl,by simp only; omega,⟨by simp only; omega,h2,h3⟩,hR⟩
 match k,h1,hw,nx with
 | 0,h1,hw,nx=>
   have e:odV bs 1=[mkO (bs.getD 0 32)]:=rfl
   refine Box.of_eq (od_0 bs n 0 _) (sT (decide_eq_true h2) ?_)
   by_cases hb:0<bs.length
   ·exact sT (decide_eq_true (by omega)) (ixU_in ⟨by omega,by omega⟩ (nx _ _ h2 (by rw [e,getD_in hb]; rfl) rfl))
   ·exact sF (decide_eq_false (by omega)) (nx _ _ h2 (by rw [e,getD_out hb]) rfl)
 | k+1,h1,hw,nx=>
   have hl:=odV_len bs (k+1)
   have e:=odV_succ bs (k+1)
   have ha:hOd ⟨bs,n,k+1⟩=sOd bs n ((k+1:Nat):Int) (some (odV bs (k+1),(odV bs (k+1)).length)):=by
    show sOd bs n _ (some (odV bs (k+1),k+1))=_
    rw [hl]
   rw [ha]
   refine Box.of_eq (od_1 bs n _ _ _) ?_
   by_cases hk:((k+1:Nat):Int)<n
   ·refine sT (decide_eq_true hk) ?_
    rw [List.take_length,hl]
    by_cases hb:k+1<bs.length
    ·exact sT (decide_eq_true (by omega)) (ixU_in ⟨by omega,by omega⟩ (apU_in (by omega) (nx _ _ hk (by rw [e,getD_in hb]; rfl) rfl)))
    ·exact sF (decide_eq_false (by omega)) (apU_in (by omega) (nx _ _ hk (by rw [e,getD_out hb]) rfl))
   ·refine sF (decide_eq_false hk) ?_
    have hn:n.toNat=k+1:=by omega
    rw [hn] at hR
    rw [hl]
    exact hR
theorem loop_od:LOk Tryz.prog GL 0 0 (bodyLoop f_odd 0) lOd:=by
 refine loop_ok (X:=X_odd) kc_odd mixed (LAll.none (by kernel_rfl)) [0,1,4,5,6] [5] hOd (fun a=>(a.n - a.k).toNat) preOd ?_ ?_
 ·intro s R h
  unfold lOd at h
  split at h
  case h_2=>exact h.elim
  rename_i x hx
  obtain ⟨⟨hs,h1,h2⟩,hR⟩:=h
  exact ⟨⟨x.1,x.2,0⟩,hs,⟨by simp only; omega,h1,h2⟩,hR⟩
 ·intro a R h
  exact Tr.run_mono _ (fun o ho=>ho) (od_in a R h).out
noncomputable def t_odd0:Con:=fun args regs=>if regs.length=0 then nfun Tryz.prog GL c_odd [(0,[0,1,4,5,6],lOd)] f_odd args regs else .fail
theorem k_odd0:Known Tryz.prog GL 39 t_odd0:=known_loops 0 Tryz.func39 rfl (by kernel_rfl) mixed kc_odd (LAll.one (id:=0) (body:=bodyLoop f_odd 0) (by kernel_rfl) rfl loop_od)
noncomputable def t_oddC:Con:=softT [] [0] [] [] 0 t_odd0
theorem k_oddC:Known Tryz.prog GL 39 t_oddC:=k_odd0.soft [] [0] [] [] 0
noncomputable def oLu (xs:List Int):Out:=⟨.v (.c (.l .u8 xs)),[]⟩
theorem odd_tree (bs:List Int) (n:Int) (R:Out→Prop):(t_oddC [.c (.l .u8 bs),.c (.i .i64 n)] []).run R=((sOd bs n 0 none=sOd bs n 0 none∧0<n∧n≤100)∧(n.toNat=(odV bs n.toNat).length∧R (oLu (odV bs n.toNat)))):=by kernel_rfl
noncomputable def tOddB:Con:=fun args regs=>match args,regs with
 | [.c (.l _ bs),.c (.i _ n)],[]=>.must (args=[.c (.l .u8 bs),.c (.i .i64 n)]∧0<n∧n≤100) (.ret (oLu (odV bs n.toNat)))
 | _,_=>.fail
attribute [local irreducible] t_oddC in
theorem kOddB:Known Tryz.prog GL 39 tOddB:=by
 refine k_oddC.less fun args regs R h=>?_
 unfold tOddB at h
 split at h
 case h_2=>exact h.elim
 rename_i _ bs _ n
 obtain ⟨⟨h1,h2,h3⟩,h⟩:=h
 rw [h1]
 exact (Box.of_eq (odd_tree bs n R) ⟨⟨rfl,h2,h3⟩,(odV_len _ _).symm,h⟩).out
open pge (Hx)
noncomputable def c_pl0:FuncId→Option Con:=conOf [(27,num.tNumV)]
theorem kc_pl0:∀ f T,c_pl0 f=some T→Known Tryz.prog GL f T:=(Knowns.cons (known_gl num.kNumV) .nil).get
noncomputable def t_pl0:Con:=fun args regs=>nfun Tryz.prog GL c_pl0 [] Tryz.f37 args regs
theorem k_pl0:Known Tryz.prog GL 37 t_pl0:=known_inl Tryz.func37 rfl (by kernel_rfl) mixed kc_pl0 (by kernel_rfl)
noncomputable def t_rright:Con:=fun args regs=>nfun Tryz.prog GL (fun _=>Option.none) [] Tryz.f82 args regs
theorem k_rright:Known Tryz.prog GL 82 t_rright:=known_inl Tryz.func82 rfl (by kernel_rfl) mixed con_none (by kernel_rfl)
noncomputable def c_rplaced:FuncId→Option Con:=conOf [(84,tRPut)]
theorem kc_rplaced:∀ f T,c_rplaced f=some T→Known Tryz.prog GL f T:=(Knowns.cons kg_rput .nil).get
noncomputable def t_rplaced:Con:=fun args regs=>nfun Tryz.prog GL c_rplaced [] Tryz.f83 args regs
theorem k_rplaced:Known Tryz.prog GL 83 t_rplaced:=known_inl Tryz.func83 rfl (by kernel_rfl) mixed kc_rplaced (by kernel_rfl)
noncomputable def c_rpkd:FuncId→Option Con:=conOf [(84,tRPut)]
theorem kc_rpkd:∀ f T,c_rpkd f=some T→Known Tryz.prog GL f T:=(Knowns.cons kg_rput .nil).get
noncomputable def t_rpkd:Con:=fun args regs=>nfun Tryz.prog GL c_rpkd [] Tryz.f40 args regs
theorem k_rpkd:Known Tryz.prog GL 40 t_rpkd:=known_inl Tryz.func40 rfl (by kernel_rfl) mixed kc_rpkd (by kernel_rfl)
noncomputable abbrev f_hb:=Tryz.f38
noncomputable def c_hb:FuncId→Option Con:=conOf [(82,t_rright),(83,t_rplaced),(84,tRPut),(40,t_rpkd)]
theorem kc_hb:∀ f T,c_hb f=some T→Known Tryz.prog GL f T:=(Knowns.cons k_rright (.cons k_rplaced (.cons kg_rput (.cons k_rpkd .nil)))).get
noncomputable def X_hb:Cx:={P:=Tryz.prog,con:=c_hb,glob:=GL,m:=0,loops:=[]}
def alB (h:Hx):Nat→Bool
 | 0=>h.c0
 | 1=>h.c1
 | 2=>h.c2
 | 3=>h.c3
 | 4=>h.c4
 | 5=>h.c5
 | 6=>h.c6
 | 7=>h.c7
 | 8=>h.c8
 | 9=>h.c9
 | 10=>h.c10
 | _=>false
def pw (k:Nat):Int:=Int.ofNat (2 ^ k)
noncomputable def alV (h:Hx):Nat→Int
 | 0=>0
 | k+1=>bif alB h k then bits .or .i64 (alV h k) (pw k) else alV h k
noncomputable def hxR (h:Hx):Reg:=⟨15,82,.cells h.nc⟩
noncomputable def sHB (xs:List Int) (h:Hx) (all:Int) (i:Int):St:={fr:=frame 55 [(1,.v (.c (.l .u8 xs))),(2,.v (.c (.p 0 0 0))),(4,.v (.c .sn)),(5,.v (.c (.i .i64 0))),(6,.v (.c (.i .i64 all))),(7,.v (.c (.i .i64 i)))],rg:=[some (hxR h)]}
noncomputable def dHB (xs:List Int) (h:Hx) (all:Int):St:={fr:=frame 55 [(1,.v (.c (.l .u8 xs))),(2,.v (.c (.p 0 0 0))),(4,.v (.c .sn)),(5,.v (.c (.i .i64 0))),(6,.v (.c (.i .i64 all)))],rg:=[some (hxR h)]}
noncomputable def rHB (s:St):Tr RO:=roundT X_hb 0 [1,2,4,5,6,7] [1,2,4,5,6] (bodyLoop f_hb 0) s
noncomputable def nHB (xs:List Int) (h:Hx) (all:Int) (k:Nat) (R:RO→Prop):Prop:=sel (alB h k) (R (.next (sHB xs h (bits .or .i64 all (pw k)) (Int.ofNat (k+1))))) (R (.next (sHB xs h all (Int.ofNat (k+1)))))
theorem hb_0 (xs:List Int) (h:Hx) (all:Int) (R:RO→Prop):(rHB (sHB xs h all 0)).run R=nHB xs h all 0 R:=by kernel_rfl
theorem hb_1 (xs:List Int) (h:Hx) (all:Int) (R:RO→Prop):(rHB (sHB xs h all 1)).run R=nHB xs h all 1 R:=by kernel_rfl
theorem hb_2 (xs:List Int) (h:Hx) (all:Int) (R:RO→Prop):(rHB (sHB xs h all 2)).run R=nHB xs h all 2 R:=by kernel_rfl
theorem hb_3 (xs:List Int) (h:Hx) (all:Int) (R:RO→Prop):(rHB (sHB xs h all 3)).run R=nHB xs h all 3 R:=by kernel_rfl
theorem hb_4 (xs:List Int) (h:Hx) (all:Int) (R:RO→Prop):(rHB (sHB xs h all 4)).run R=nHB xs h all 4 R:=by kernel_rfl
theorem hb_5 (xs:List Int) (h:Hx) (all:Int) (R:RO→Prop):(rHB (sHB xs h all 5)).run R=nHB xs h all 5 R:=by kernel_rfl
theorem hb_6 (xs:List Int) (h:Hx) (all:Int) (R:RO→Prop):(rHB (sHB xs h all 6)).run R=nHB xs h all 6 R:=by kernel_rfl
theorem hb_7 (xs:List Int) (h:Hx) (all:Int) (R:RO→Prop):(rHB (sHB xs h all 7)).run R=nHB xs h all 7 R:=by kernel_rfl
theorem hb_8 (xs:List Int) (h:Hx) (all:Int) (R:RO→Prop):(rHB (sHB xs h all 8)).run R=nHB xs h all 8 R:=by kernel_rfl
theorem hb_9 (xs:List Int) (h:Hx) (all:Int) (R:RO→Prop):(rHB (sHB xs h all 9)).run R=nHB xs h all 9 R:=by kernel_rfl
theorem hb_10 (xs:List Int) (h:Hx) (all:Int) (R:RO→Prop):(rHB (sHB xs h all 10)).run R=nHB xs h all 10 R:=by kernel_rfl
theorem hb_11 (xs:List Int) (h:Hx) (all:Int) (R:RO→Prop):(rHB (sHB xs h all 11)).run R=R (.done .normal (dHB xs h all)):=by kernel_rfl
theorem hb_k (xs:List Int) (h:Hx) (all:Int) (R:RO→Prop):∀ k<11,(rHB (sHB xs h all (Int.ofNat k))).run R=nHB xs h all k R
 | 0,_=>hb_0 xs h all R
 | 1,_=>hb_1 xs h all R
 | 2,_=>hb_2 xs h all R
 | 3,_=>hb_3 xs h all R
 | 4,_=>hb_4 xs h all R
 | 5,_=>hb_5 xs h all R
 | 6,_=>hb_6 xs h all R
 | 7,_=>hb_7 xs h all R
 | 8,_=>hb_8 xs h all R
 | 9,_=>hb_9 xs h all R
 | 10,_=>hb_10 xs h all R
 | k+11,hk=>absurd hk (by omega)
def rdHB (s:St):Option (List Int × Hx):=match s.fr[(1:Nat)]?,s.rg[(0:Nat)]? with
 | some (.v (.c (.l _ xs))),some (some {body:=.cells [.i _ mg,.i _ pn,.i _ sb,.b c0,.b c1,.b c2,.b c3,.b c4,.b c5,.b c6,.b c7,.b c8,.b c9,.b c10,.i _ op],..})=>some (xs,⟨mg,pn,sb,c0,c1,c2,c3,c4,c5,c6,c7,c8,c9,c10,op⟩)
 | _,_=>none
noncomputable def lHB (s:St):Tr (NExit × St):=match rdHB s with
 | some x=>.must (s=sHB x.1 x.2 0 0) (.ret (.normal,dHB x.1 x.2 (alV x.2 11)))
 | none=>.fail
structure AHB where
 xs:List Int
 h:Hx
 k:Nat
noncomputable def hHB (a:AHB):St:=sHB a.xs a.h (alV a.h a.k) (Int.ofNat a.k)
def preHB (a:AHB) (R:NExit × St→Prop):Prop:=a.k≤11∧R (.normal,dHB a.xs a.h (alV a.h 11))
def nxtHB (a:AHB) (R:NExit × St→Prop) (o:RO):Prop:=match o with
 | .next s=>∃ y,s=hHB y∧11 - y.k<11 - a.k∧preHB y R
 | .done e s=>R (e,s)
theorem hb_in (a:AHB) (R:NExit × St→Prop) (h:preHB a R):Box ((rHB (hHB a)).run (nxtHB a R)):=by
 obtain ⟨xs,h',k⟩:=a
 obtain ⟨h1,hR⟩:=h
 simp only at h1 hR
 by_cases hk:k<11
 ·refine Box.of_eq (hb_k xs h' _ _ k hk) ?_
  unfold nHB
  have e:alV h' (k+1)=bif alB h' k then bits .or .i64 (alV h' k) (pw k) else alV h' k:=rfl
  have nx:∀ all,all=alV h' (k+1)→nxtHB ⟨xs,h',k⟩ R (.next (sHB xs h' all (Int.ofNat (k+1)))):=by
   rintro _ rfl
   exact ⟨⟨xs,h',k+1⟩,rfl,by simp only; omega,by simp only [preHB]; exact ⟨by omega,hR⟩⟩
  cases hb:alB h' k with
  | true=>exact sT rfl (nx _ (by rw [e,hb]; rfl))
  | false=>exact sF rfl (nx _ (by rw [e,hb]; rfl))
 ·have hk:k=11:=by omega
  subst hk
  exact Box.of_eq (hb_11 xs h' _ _) hR
theorem loop_hb:LOk Tryz.prog GL 0 0 (bodyLoop f_hb 0) lHB:=by
 refine loop_ok (X:=X_hb) kc_hb mixed (LAll.none (by kernel_rfl)) [1,2,4,5,6,7] [1,2,4,5,6] hHB (fun a=>11 - a.k) preHB ?_ ?_
 ·intro s R h
  unfold lHB at h
  split at h
  case h_2=>exact h.elim
  rename_i x hx
  obtain ⟨hs,hR⟩:=h
  exact ⟨⟨x.1,x.2,0⟩,hs,by simp only; omega,hR⟩
 ·intro a R h
  exact Tr.run_mono _ (fun o ho=>ho) (hb_in a R h).out
noncomputable def t_hb0:Con:=fun args regs=>if regs.length=0 then nfun Tryz.prog GL c_hb [(0,[1,2,4,5,6,7],lHB)] f_hb args regs else .fail
theorem k_hb0:Known Tryz.prog GL 38 t_hb0:=known_loops 0 Tryz.func38 rfl (by kernel_rfl) mixed kc_hb (LAll.one (id:=0) (body:=bodyLoop f_hb 0) (by kernel_rfl) rfl loop_hb)
def e16 (x:Int):Prop:=0≤x∧x<16
noncomputable def pl6 (pn sb b:Int):List Int:=[put (bits .and .i64 pn 15),put (shrv .i64 pn 4),put (bits .and .i64 sb 15),put (bits .or .i64 (bits .and .i64 (shrv .i64 sb 4) 7) (shlv .i64 (bits .and .i64 b 1) 3)),put (bits .and .i64 (shrv .i64 sb 8) 15),put (bits .or .i64 (bits .and .i64 (shrv .i64 sb 12) 3) (shlv .i64 (shrv .i64 b 1) 2))]
noncomputable def m6 (pn sb b:Int) (A:Prop):Prop:=e16 (bits .and .i64 pn 15)∧e16 (shrv .i64 pn 4)∧e16 (bits .and .i64 sb 15)∧e16 (bits .or .i64 (bits .and .i64 (shrv .i64 sb 4) 7) (shlv .i64 (bits .and .i64 b 1) 3))∧e16 (bits .and .i64 (shrv .i64 sb 8) 15)∧e16 (bits .or .i64 (bits .and .i64 (shrv .i64 sb 12) 3) (shlv .i64 (shrv .i64 b 1) 2))∧A
noncomputable def t8 (all:Int):List Int:=[put (bits .and .i64 (shrv .i64 all 3) 15),put (bits .and .i64 (shrv .i64 all 7) 15)]
noncomputable def hdD (h:Hx) (all:Int) (xs:List Int):List Int:=pl6 h.pn h.sb (bits .and .i64 all 7)++t8 all++xs
noncomputable def hdT (h:Hx) (all:Int) (xs:List Int):List Int:=List.take (8+xs.length) (hdD h all xs)
noncomputable def adr (mg row:Int):Int:=bits .or .i64 (mg.tmod 8) (shlv .i64 (bits .and .i64 row 1) 3)
noncomputable def pkB (mg row:Int) (ds:List Int):List Int:=[put (adr mg row),put (shrv .i64 row 1)]++ds
noncomputable def oPr (x:NC) (e:Int):Out:=⟨.tu [.c x,.c (.i .i64 e)],[]⟩
def zz2 (n m:Nat) (A:Prop):Prop:=sel (decide ((n+m) * bytesT Tryz.prog 5≤140737488355328)) (sel (decide (n+m≤9223372036854775807)) A False) False
noncomputable def hbI (h:Hx) (all:Int) (xs:List Int) (R:Out→Prop):Prop:=
 m6 h.pn h.sb (bits .and .i64 all 7) (e16 (bits .and .i64 (shrv .i64 all 3) 15)∧(e16 (bits .and .i64 (shrv .i64 all 7) 15)∧zz2 8 xs.length (sel (decide (0+(8+xs.length)≤(hdD h all xs).length)) (
  e16 (adr h.mg 0)∧(e16 0∧zz2 2 (hdT h all xs).length (2+(hdT h all xs).length=(pkB h.mg 0 (hdT h all xs)).length∧R (oPr (.l .u8 (pkB h.mg 0 (hdT h all xs))) 0)))) False)))
noncomputable def hbT (h:Hx) (xs:List Int) (R:Out→Prop):Prop:=
 sel (decide (h.mg ≥ 1)) (sel (decide (h.mg≤8)) (sel (decide (h.pn ≥ 0)) (sel (decide (h.pn≤255)) (sel (decide (h.sb ≥ 0)) (sel (!(bits .andNot .i64 h.sb 16255==0)) (R (oPr .sn 101)) (sel ((xs.length:Int) !=32) (R (oPr .sn 102))
  (sHB xs h 0 0=sHB xs h 0 0∧hbI h (alV h 11) xs R))) (R (oPr .sn 101))) (R (oPr .sn 101))) (R (oPr .sn 101))) (R (oPr .sn 101))) (R (oPr .sn 101))
noncomputable def t_hbC:Con:=softT [] [0] [] [] 0 t_hb0
theorem k_hbC:Known Tryz.prog GL 38 t_hbC:=k_hb0.soft [] [0] [] [] 0
theorem hbc_tree (h:Hx) (xs:List Int) (R:Out→Prop):(t_hbC [.ag h.nc,.c (.l .u8 xs)] []).run R=hbT h xs R:=by kernel_rfl
end bm
end Go.Proofs.YtbmpbafemefepaaGreatDoor
