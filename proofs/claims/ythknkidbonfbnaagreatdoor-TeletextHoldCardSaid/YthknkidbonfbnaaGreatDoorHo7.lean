/-
  Joined: GrP, HoB, HoC, FiB, FiT, FiC, HoD, HoE, HoF, HoG.
-/
import Derived.Test.YthknkidbonfbnaaGreatDoorHo6
set_option maxRecDepth 100000
set_option linter.unusedVariables false
namespace Go.Proofs.YthknkidbonfbnaaGreatDoor
section
namespace gr
open Go Go.Nx pk
open bm (ixU ixU_in)
open sto (pgV rdPg)
open ac (Pg pgZ K1)
open mac (fits Mc)
open rv (Rv Rm inV onV line0 tLine0 kLine0)
noncomputable def c_grd:FuncId→Option Con:=conOf [(66,mac.tLa),(67,tWds),(68,tEmp),(70,tPg),(65,tLine0),(69,tTtx)]
theorem kc_grd:∀ f T,c_grd f=some T→Known Tryz.prog GL f T:=(Knowns.cons mac.kLa (.cons kWds (.cons kEmp (.cons kPg (.cons kLine0 (.cons kTtx .nil)))))).get
noncomputable def t_grd:Con:=fun args regs=>nfun Tryz.prog GL c_grd [] Tryz.f26 args regs
theorem k_grd:Known Tryz.prog GL 26 t_grd:=known_inl Tryz.func26 rfl (by kernel_rfl) mixed kc_grd (by kernel_rfl)
noncomputable def eqG (V W:Rv) (A:Prop):Prop:=some (mac.mcG 2 V.m.v V.m.inf)=some (mac.mcG 2 W.m.v W.m.inf)∧(some (rv.stN 3 V.m.st.sto)=some (rv.stN 3 W.m.st.sto)∧(some (ac.mpReg V.m.st.sto.m)=some (ac.mpReg W.m.st.sto.m)∧(some (sto.ordReg (sto.kyRows V.m.st.sto.l))=some (sto.ordReg (sto.kyRows W.m.st.sto.l))∧A)))
def rdyM (M:Mc):Prop:=mac.inM M=mac.inM (mac.bk M)∧(mac.bk M).ok
noncomputable def lastA (V:Rv) (g:Int) (f:List Int→Bool→Prop):Prop:=rdyM V.m∧(([NV.c (.p 0 0 0),.c (.i .i64 g)]=[NV.c (.p 0 0 0),.c (.i .i64 g)]∧(1≤g∧g≤8)∧(mac.bk V.m).good)∧sel ((mac.bk V.m).v g.toNat).bg (eqG V V.bk (f ((mac.bk V.m).v g.toNat).t true)) (eqG V V.bk (f [] false)))
def lineA (s:Rm) (A:Prop):Prop:=([NV.ag s.nc]=[NV.ag s.nc]∧s.sub=false∧s.ds=[])∧A
def wdA (G:List (List Sc)) (r c:Int) (t:ByteArray) (A:Prop):Prop:=([NV.sg [.recs KC 1000 G],.c (.i .i64 r),.c (.i .i64 c),.c (.s t)]=[NV.sg [.recs KC 1000 G],.c (.i .i64 r),.c (.i .i64 c),.c (.s t)]∧(0≤r∧r<25)∧(0≤c∧c<40)∧t.size≤1000000)∧A
def txA (b:List Int) (A:Prop):Prop:=([NV.c (.l .u8 b)]=[NV.c (.l .u8 b)]∧b.length≤1000000∧∀ y∈b,0≤y∧y<256)∧A
noncomputable def oGd (V:Rv) (G:List (List Sc)):Out:=⟨.v (.sg [.recs KC 1000 G]),(inV V).map some⟩
noncomputable def lnS (V:Rv):ByteArray:=line0 V.s.mg V.s.pn
noncomputable def g1 (V:Rv):List (List Sc):=wordsV (List.replicate 1000 blC) 0 0 (lnS V)
noncomputable def nfA (V W:Rv) (t:List Int) (R:Out→Prop):Prop:=lineA V.s (wdA (List.replicate 1000 blC) 0 0 (lnS V) (txA t (wdA (g1 V) 0 8 (txV t) (R (oGd W (wordsV (g1 V) 0 8 (txV t)))))))
noncomputable def g2 (V:Rv):List (List Sc):=wordsV (pageV V.p V.s.rv V.s.mx) 0 0 (lnS V)
def drA (t:List Int) (f:List Int→Prop):Prop:=sel (decide (0≤w64 ((t.length:Int) - 8))) (sel (decide (w64 ((t.length:Int) - 8)≤(t.length:Int))) (f (List.drop (w64 ((t.length:Int) - 8)).toNat (List.take t.length t))) False) False
noncomputable def fdA (V W:Rv) (t:List Int) (is:Bool) (R:Out→Prop):Prop:=match is with
 | true=>sel (!xB (V.p.c.getD 3 []) 0) (drA t fun u=>txA u (wdA (g2 V) 0 32 (txV u) (R (oGd W (wordsV (g2 V) 0 32 (txV u)))))) (R (oGd W (g2 V)))
 | false=>R (oGd W (g2 V))
noncomputable def gdT (V:Rv) (R:Out→Prop):Prop:=sel (!V.fd) (lastA V V.s.mg fun t is=>nfA V V t R)
 (([pgV V.p,.ag [.b V.s.rv,.b V.s.mx]]=[pgV V.p,.ag [.b V.s.rv,.b V.s.mx]]∧fits V.p∧V.p.c.length=11)∧lineA V.s (wdA (pageV V.p V.s.rv V.s.mx) 0 0 (lnS V) (lastA V V.p.mg fun t is=>fdA V V t is R)))
def Rv.wf (V:Rv) (b:Bool):Rv:={V with fd:=b}
theorem gd_f (V:Rv) (R:Out→Prop):(t_grd [.c (.p 0 0 0)] (inV (Rv.wf V false))).run R=gdT (Rv.wf V false) R:=by kernel_rfl
theorem gd_t (V:Rv) (R:Out→Prop):(t_grd [.c (.p 0 0 0)] (inV (Rv.wf V true))).run R=gdT (Rv.wf V true) R:=by kernel_rfl
structure SOk (V:Rv):Prop where
 g:V.m.good
 s:V.s.sub=false∧V.s.ds=[]
 c:V.p.c.length=11
 f:fits V.p
 ms:V.fd=false→1≤V.s.mg∧V.s.mg≤8
 mp:V.fd=true→1≤V.p.mg∧V.p.mg≤8
 tb:∀ k,∀ y∈(V.m.v k).t,0≤y∧y<256
 t8:∀ k,(V.m.v k).bg=true→8≤(V.m.v k).t.length
noncomputable def lstT (M:Mc) (g:Int):List Int:=bif (M.v g.toNat).bg then (M.v g.toNat).t else []
noncomputable def screenV (V:Rv):List (List Sc):=match V.fd with
 | false=>wordsV (g1 V) 0 8 (txV (lstT V.m V.s.mg))
 | true=>bif (V.m.v V.p.mg.toNat).bg&&!xB (V.p.c.getD 3 []) 0 then wordsV (g2 V) 0 32 (txV ((V.m.v V.p.mg.toNat).t.drop ((V.m.v V.p.mg.toNat).t.length - 8))) else g2 V
theorem nums_size (xs:List Int):(strOfNums xs).size=xs.length:=by
 unfold strOfNums
 show (List.toArray _).size=_
 simp
theorem ln_size (V:Rv):(lnS V).size≤1000000:=by
 unfold lnS line0
 rw [ByteArray.size_append,ByteArray.size_append,nums_size]
 show 1+3+4≤1000000
 omega
theorem wdA_in {G:List (List Sc)} {c:Int} {t:ByteArray} {A:Prop} (hc:0≤c∧c<40) (ht:t.size≤1000000) (h:A):wdA G 0 c t A:=⟨⟨rfl,⟨by omega,by omega⟩,hc,ht⟩,h⟩
theorem eqG_in {V:Rv} {A:Prop} (h:A):eqG V V A:=⟨rfl,rfl,rfl,rfl,h⟩
theorem last_in {V:Rv} {g:Int} {f:List Int→Bool→Prop} (hV:V.m.good) (hg:1≤g∧g≤8) (h:f (bif (V.m.v g.toNat).bg then (V.m.v g.toNat).t else []) (V.m.v g.toNat).bg):lastA V g f:=by
 unfold lastA rdyM
 rw [V.bk_eq hV.far,hV.bk]
 refine ⟨⟨rfl,hV.ok⟩,⟨rfl,hg,hV⟩,?_⟩
 cases hb:(V.m.v g.toNat).bg with
 | true=>rw [hb] at h; exact sT rfl (eqG_in h)
 | false=>rw [hb] at h; exact sF rfl (eqG_in h)
theorem lst_in {V:Rv} (h:SOk V) (g:Int):(lstT V.m g).length≤1000000∧∀ y∈lstT V.m g,0≤y∧y<256:=by
 have ht:=h.g.txt g.toNat
 unfold lstT
 cases (V.m.v g.toNat).bg with
 | true=>exact ⟨by show (V.m.v g.toNat).t.length≤_; omega,h.tb _⟩
 | false=>exact ⟨Nat.zero_le _,fun y hy=>(List.not_mem_nil hy).elim⟩
theorem gd_in {V:Rv} {R:Out→Prop} (h:SOk V) (hR:R (oGd V (screenV V))):gdT V R:=by
 have hl:=ln_size V
 unfold gdT
 unfold screenV at hR
 cases hf:V.fd with
 | false=>
   rw [hf] at hR
   have hR:R (oGd V (wordsV (g1 V) 0 8 (txV (lstT V.m V.s.mg)))):=hR
   have ht:=lst_in h V.s.mg
   refine sT rfl (last_in h.g (h.ms hf) ⟨⟨rfl,h.s⟩,wdA_in ⟨by omega,by omega⟩ hl ⟨⟨rfl,ht.1,ht.2⟩,wdA_in ⟨by omega,by omega⟩ ?_ hR⟩⟩)
   rw [txV_size]
   exact ht.1
 | true=>
   rw [hf] at hR
   refine sF rfl ⟨⟨rfl,h.f,h.c⟩,⟨rfl,h.s⟩,wdA_in ⟨by omega,by omega⟩ hl (last_in h.g (h.mp hf) ?_)⟩
   have ht:=h.g.txt V.p.mg.toNat
   have h8:=h.t8 V.p.mg.toNat
   have hb:=h.tb V.p.mg.toNat
   unfold fdA
   generalize (V.m.v V.p.mg.toNat).t=t at *
   cases hbg:(V.m.v V.p.mg.toNat).bg with
   | false=>rw [hbg] at hR; exact hR
   | true=>
     rw [hbg] at hR h8
     have h8:=h8 rfl
     have hw:w64 ((t.length:Int) - 8)=((t.length - 8:Nat):Int):=by show IntKind.i64.wrap _=_; rw [IntKind.wrap_i64]; omega
     cases hc:xB (V.p.c.getD 3 []) 0 with
     | true=>rw [hc] at hR; exact sF rfl hR
     | false=>
       rw [hc] at hR
       have hR:R (oGd V (wordsV (g2 V) 0 32 (txV (t.drop (t.length - 8))))):=hR
       refine sT rfl ?_
       show drA t _
       unfold drA
       rw [hw]
       have e:((t.length - 8:Nat):Int).toNat=t.length - 8:=by omega
       rw [e,List.take_length]
       refine sT (decide_eq_true (by omega)) (sT (decide_eq_true (by omega)) ⟨⟨rfl,by rw [List.length_drop]; omega,fun y hy=>hb y (List.mem_of_mem_drop hy)⟩,wdA_in ⟨by omega,by omega⟩ ?_ hR⟩)
       rw [txV_size,List.length_drop]
       omega
noncomputable def tGrd:Con:=fun args regs=>match args with
 | [.c (.p 0 0 0)]=>onV regs fun V=>.must (SOk V) (.ret (oGd V (screenV V)))
 | _=>.fail
attribute [local irreducible] t_grd in
theorem kGrd:Known Tryz.prog GL 26 tGrd:=by
 refine k_grd.less fun args regs R h=>?_
 unfold tGrd at h
 split at h
 case h_2=>exact h.elim
 obtain ⟨V,rfl,hV,hs,h⟩:=rv.onV_elim h
 have hg:=gd_in hs h
 cases hf:V.fd with
 | false=>
   have e:V=Rv.wf V false:=by unfold Rv.wf; rw [← hf]
   rw [e] at hg ⊢
   exact (Box.of_eq (gd_f V R) hg).out
 | true=>
   have e:V=Rv.wf V true:=by unfold Rv.wf; rw [← hf]
   rw [e] at hg ⊢
   exact (Box.of_eq (gd_t V R) hg).out
end gr
end
section
namespace ho
open sto (sT sF Ky Sp kyP kyNC)
open ac (Pg pgZ)
open Go Go.Nx pk mac bm rv
open gr (tGrd kGrd SOk screenV grR w64)
noncomputable abbrev f_ho:=Tryz.f5
noncomputable def c_ho:FuncId→Option Con:=conOf [(20,tF19),(21,tNewV),(28,tLet),(29,tSnd),(23,tRkey),(26,tGrd),(25,tStat0)]
theorem kc_ho:∀ f T,c_ho f=some T→Known Tryz.prog GL f T:=(Knowns.cons kF19 (.cons kNewV (.cons kLet (.cons kSnd (.cons kRkey (.cons kGrd (.cons kStat0 .nil))))))).get
noncomputable def X_ho:Cx:={P:=Tryz.prog,con:=c_ho,glob:=GL,m:=0,loops:=[]}
def rwT (t:List Int):List FC:=[.is t]
noncomputable def s0 (Ts:List (List Int)) (h:Bool) (i:Int):St:={fr:=frame 131 [(0,.v (.c (.lt [.l .u8] (Ts.map rwT)))),(1,.v (.c (.b h))),(5,.v (.c (.b true))),(6,.v (.c (.i .i64 i)))],rg:=[]}
noncomputable def r0 (s:St):Tr RO:=roundT X_ho 0 [0,1,5,6] [0,1,4,5] (bodyLoop f_ho 0) s
def tAt (Ts:List (List Int)) (i:Int):List Int:=(((Ts.map rwT).getD i.toNat []).getD 0 (.i 0)).li
noncomputable def d0 (Ts:List (List Int)) (h:Bool):St:={fr:=frame 131 [(0,.v (.c (.lt [.l .u8] (Ts.map rwT)))),(1,.v (.c (.b h))),(5,.v (.c (.b true)))],rg:=[]}
noncomputable def e0 (Ts:List (List Int)) (h:Bool):St:={fr:=frame 131 [(0,.v (.c (.lt [.l .u8] (Ts.map rwT)))),(1,.v (.c (.b h))),(4,.v (.c (.b true))),(5,.v (.c (.b true)))],rg:=[]}
theorem round_0 (Ts:List (List Int)) (h:Bool) (i:Int) (R:RO→Prop):(r0 (s0 Ts h i)).run R=sel (decide (i<((Ts.map rwT).length:Int))) (ixU i (Ts.map rwT).length (sel (decide (((tAt Ts i).length:Int) > 40)) (R (.done .ret (e0 Ts h))) (R (.next (s0 Ts h (w64 (i+1))))))) (R (.done .normal (d0 Ts h))):=by kernel_rfl
noncomputable def s2 (Ts:List (List Int)) (h:Bool) (V:Rv) (o t:List Int) (i:Int):St:={fr:=frame 131 [(0,.v (.c (.lt [.l .u8] (Ts.map rwT)))),(1,.v (.c (.b h))),(5,.v (.c (.b true))),(7,.v (.c (.p 0 0 0))),(9,.v (.c (.l .u8 o))),(10,.v (.c (.l .u8 t))),(11,.v (.c (.i .i64 i)))],rg:=(inV V).map some}
noncomputable def r2 (s:St):Tr RO:=roundT X_ho 2 [0,1,5,7,9,10,11] [1,5,7,9,10] (bodyLoop f_ho 2) s
noncomputable def e2 (h:Bool) (V:Rv) (o t:List Int):St:={fr:=frame 131 [(1,.v (.c (.b h))),(5,.v (.c (.b true))),(7,.v (.c (.p 0 0 0))),(9,.v (.c (.l .u8 o))),(10,.v (.c (.l .u8 t)))],rg:=(inV V).map some}
noncomputable def letA (t:List Int) (A:Prop):Prop:=([NV.c (.l .u8 t)]=[NV.c (.l .u8 t)]∧t.length≤1000000)∧A
noncomputable def sndA (V:Rv) (t:List Int) (A:Rv→Prop):Prop:=(inV V=inV V.bk∧V.bk.m.ok)∧(([NV.c (.p 0 0 0),.c (.l .u8 t)]=[NV.c (.p 0 0 0),.c (.l .u8 t)]∧V.bk.m.good∧okKs V.bk (dS t))∧A (V.bk.pks (dS t)))
theorem round_2 (Ts:List (List Int)) (h:Bool) (V:Rv) (o t:List Int) (i:Int) (R:RO→Prop):(r2 (s2 Ts h V o t i)).run R=sel (decide (i<((Ts.map rwT).length:Int))) (ixU i (Ts.map rwT).length (letA (tAt Ts i) (sndA V ((tAt Ts i).map ltr) fun W=>R (.next (s2 Ts h W o ((tAt Ts i).map ltr) (w64 (i+1))))))) (R (.done .normal (e2 h V o t))):=by kernel_rfl
noncomputable def s4 (h:Bool) (V:Rv) (o t:List Int) (G H:List (List Sc)) (i:Int):St:={fr:=frame 131 [(1,.v (.c (.b h))),(5,.v (.c (.b true))),(7,.v (.c (.p 0 0 0))),(9,.v (.c (.l .u8 o))),(10,.v (.c (.l .u8 t))),(12,.v (.c (.p 5 0 0))),(13,.v (.c (.p 6 0 0))),(14,.v (.c (.i .i64 i)))],rg:=(inV V).map some++[some (grR G),some (grR H)]}
noncomputable def r4 (s:St):Tr RO:=roundT X_ho 4 [1,5,7,9,10,12,13,14] [4,5,7] (bodyLoop f_ho 4) s
noncomputable def d4 (V:Rv):St:={fr:=frame 131 [(5,.v (.c (.b true))),(7,.v (.c (.p 0 0 0)))],rg:=(inV V).map some}
noncomputable def e4 (V:Rv):St:={fr:=frame 131 [(4,.v (.c (.b false))),(5,.v (.c (.b true))),(7,.v (.c (.p 0 0 0)))],rg:=(inV V).map some}
def vaA (o:List Int) (i:Int) (f:Int→Prop):Prop:=sel (decide (i<(o.length:Int))) (ixU i o.length (f (o.getD i.toNat 0))) (f 32)
def ceA (G:List (List Sc)) (i x:Int) (no yes:Prop):Prop:=sel (decide (0≤i)) (sel (decide (i<40)) (sel (decide (280+i.toNat<1000)) (sel (gr.xI (G.getD (280+i.toNat) []) 0 !=w64 x) no yes) False) False) False
theorem round_4t (V:Rv) (o t:List Int) (G H:List (List Sc)) (i:Int) (R:RO→Prop):(r4 (s4 true V o t G H i)).run R=sel (decide (i<40)) (vaA o i fun x=>vaA t i fun y=>ceA G i x (R (.done .ret (e4 V))) (ceA H i y (R (.done .ret (e4 V))) (R (.next (s4 true V o t G H (w64 (i+1))))))) (R (.done .normal (d4 V))):=by kernel_rfl
theorem round_4f (V:Rv) (o t:List Int) (G H:List (List Sc)) (i:Int) (R:RO→Prop):(r4 (s4 false V o t G H i)).run R=sel (decide (i<40)) (vaA o i fun x=>vaA t i fun y=>ceA G i y (R (.done .ret (e4 V))) (ceA H i y (R (.done .ret (e4 V))) (R (.next (s4 false V o t G H (w64 (i+1))))))) (R (.done .normal (d4 V))):=by kernel_rfl
end ho
end
section
namespace ho
open sto (sT sF Ky Sp kyP kyNC)
open ac (Pg pgZ)
open pge (Hx)
open Go Go.Nx pk mac bm rv
open gr (tGrd kGrd SOk screenV grR w64)
noncomputable def pgT (t:List Int):Pg:=((rvN 4).pks (dS t)).p
def rmH:Rm:={rmZ with hd:=true}
noncomputable def vx (v0:Nat→Mv) (q:Pg) (h:Hx) (tx:List Int) (bg:Bool) (rg:Int) (inf:Ix) (pin:Ky) (pd:Bool) (u:List Int) (s:Rm) (p:Pg) (tk:Int):Rv:=⟨⟨upd v0 1 ⟨false,q,h,tx,bg,rg,false⟩,inf,⟨4,pin,pd,[pgT u]⟩⟩,s,p,true,tk⟩
section
variable (v0:Nat→Mv) (q:Pg) (h:Hx) (tx:List Int) (bg:Bool) (rg:Int) (inf:Ix) (pin:Ky) (pd:Bool) (u:List Int) (p:Pg) (tk:Int) (t:List Int)
theorem vz_ok:okKsB (vx v0 q h tx bg rg inf pin pd u rmZ p tk) (dS t)=true:=by kernel_rfl
theorem vz_opn:(((vx v0 q h tx bg rg inf pin pd u rmZ p tk).pks (dS t)).m.v 1).opn=false:=by kernel_rfl
theorem vz_td:(((vx v0 q h tx bg rg inf pin pd u rmZ p tk).pks (dS t)).m.v 1).td=false:=by kernel_rfl
theorem vz_L:((vx v0 q h tx bg rg inf pin pd u rmZ p tk).pks (dS t)).m.st.L=[pgT t]:=by kernel_rfl
theorem vz_most:((vx v0 q h tx bg rg inf pin pd u rmZ p tk).pks (dS t)).m.st.most=4:=by kernel_rfl
theorem vz_fd:((vx v0 q h tx bg rg inf pin pd u rmZ p tk).pks (dS t)).fd=true:=by kernel_rfl
theorem vz_s:((vx v0 q h tx bg rg inf pin pd u rmZ p tk).pks (dS t)).s=rmZ:=by kernel_rfl
theorem vz_p:((vx v0 q h tx bg rg inf pin pd u rmZ p tk).pks (dS t)).p=pgT t:=by kernel_rfl
theorem vh_ok:okKsB (vx v0 q h tx bg rg inf pin pd u rmH p tk) (dS t)=true:=by kernel_rfl
theorem vh_opn:(((vx v0 q h tx bg rg inf pin pd u rmH p tk).pks (dS t)).m.v 1).opn=false:=by kernel_rfl
theorem vh_td:(((vx v0 q h tx bg rg inf pin pd u rmH p tk).pks (dS t)).m.v 1).td=false:=by kernel_rfl
theorem vh_L:((vx v0 q h tx bg rg inf pin pd u rmH p tk).pks (dS t)).m.st.L=[pgT t]:=by kernel_rfl
theorem vh_most:((vx v0 q h tx bg rg inf pin pd u rmH p tk).pks (dS t)).m.st.most=4:=by kernel_rfl
theorem vh_fd:((vx v0 q h tx bg rg inf pin pd u rmH p tk).pks (dS t)).fd=true:=by kernel_rfl
theorem vh_s:((vx v0 q h tx bg rg inf pin pd u rmH p tk).pks (dS t)).s=rmH:=by kernel_rfl
theorem vh_p:((vx v0 q h tx bg rg inf pin pd u rmH p tk).pks (dS t)).p=p:=by kernel_rfl
theorem kz_key:(vx v0 q h tx bg rg inf pin pd u rmZ p tk).key 10=vx v0 q h tx bg rg inf pin pd u rmH p tk:=by kernel_rfl
theorem kh_key:(vx v0 q h tx bg rg inf pin pd u rmH p tk).key 10=vx v0 q h tx bg rg inf (kyP (pgT u)) true u rmZ (pgT u) tk:=by kernel_rfl
end
theorem pg_lk (t:List Int):(pgT t).lk.length=6:=by kernel_rfl
theorem pg_c (t:List Int):(pgT t).c.length=11:=by kernel_rfl
theorem pg_ex (t:List Int):(pgT t).ex=[]:=by kernel_rfl
theorem pg_mg (t:List Int):(pgT t).mg=1:=by kernel_rfl
theorem n_ok (t:List Int):okKsB (rvN 4) (dS t)=true:=by kernel_rfl
theorem n_opn (t:List Int):(((rvN 4).pks (dS t)).m.v 1).opn=false:=by kernel_rfl
theorem n_td (t:List Int):(((rvN 4).pks (dS t)).m.v 1).td=false:=by kernel_rfl
theorem n_L (t:List Int):((rvN 4).pks (dS t)).m.st.L=[pgT t]:=by kernel_rfl
theorem n_most (t:List Int):((rvN 4).pks (dS t)).m.st.most=4:=by kernel_rfl
theorem n_fd (t:List Int):((rvN 4).pks (dS t)).fd=true:=by kernel_rfl
theorem n_s (t:List Int):((rvN 4).pks (dS t)).s=rmZ:=by kernel_rfl
theorem pg_o (t:List Int):gr.regV (pgT t)=0:=by kernel_rfl
theorem pg_sp (t:List Int):gr.spV (pgT t).ex (-1)=[]:=by kernel_rfl
theorem pg_r0 (t:List Int):(gr.rowAt (pgT t) 0 [] 0).2=false:=by kernel_rfl
theorem pg_ln (t:List Int):(gr.lnV (pgT t) 1=gr.bl40∧gr.lnV (pgT t) 2=gr.bl40)∧(gr.lnV (pgT t) 3=gr.bl40∧gr.lnV (pgT t) 4=gr.bl40)∧gr.lnV (pgT t) 5=gr.bl40∧gr.lnV (pgT t) 6=gr.bl40:=⟨⟨by kernel_rfl,by kernel_rfl⟩,⟨by kernel_rfl,by kernel_rfl⟩,by kernel_rfl,by kernel_rfl⟩
theorem bl_tal:gr.tal (gr.rowV gr.bl40 0)=false:=by kernel_rfl
theorem pg_bo (t:List Int):gr.boV (gr.flF (pgT t).c)=false:=by kernel_rfl
end ho
end
namespace fi
end fi
section
namespace fi
open sto (sT sF Ky Sp kyP kyNC)
open ac (Pg pgZ)
open Go Go.Nx pk mac bm rv
open gr (tGrd kGrd SOk screenV)
noncomputable def bkA (V:Rv):Prop:=inV V=inV V.bk∧V.bk.m.ok
noncomputable def kyK (V:Rv) (x:Int) (A:Rv→Prop):Prop:=bkA V∧(([NV.c (.p 0 0 0),.c (.i .i64 x)]=[NV.c (.p 0 0 0),.c (.i .i64 x)]∧V.bk.p.lk.length=6∧V.bk.s.ok∧V.bk.m.good)∧A (V.bk.key x))
noncomputable def stA (V:Rv) (A:Rv→Prop):Prop:=bkA V∧((V.bk.s.sub=false∧V.bk.s.ds=[])∧A V.bk)
end fi
end
section
namespace fi
open sto (sT sF Ky Sp kyP kyNC)
open ac (Pg pgZ)
open Go Go.Nx pk mac bm rv
open gr (tGrd kGrd SOk screenV wordsV wdV wdC wdN lnS g2 pageV blC KC)
theorem set_miss {α:Type} {xs:List α} {k j:Nat} {y d:α} (h:k≠j):(xs.set k y).getD j d=xs.getD j d:=by
 rw [List.getD_eq_getElem?_getD,List.getD_eq_getElem?_getD,List.getElem?_set_ne h]
end fi
end
section
namespace ho
open sto (sT sF Ky Sp kyP kyNC)
open ac (Pg pgZ)
open Go Go.Nx pk mac bm rv
open gr (tGrd kGrd SOk screenV grR w64 Sx)
def isL (c:Int):Prop:=c=32∨(65≤c∧c≤90)
theorem isL_cases {c:Int} (h:isL c):c=32∨c=65∨c=66∨c=67∨c=68∨c=69∨c=70∨c=71∨c=72∨c=73∨c=74∨c=75∨c=76∨c=77∨c=78∨c=79∨c=80∨c=81∨c=82∨c=83∨c=84∨c=85∨c=86∨c=87∨c=88∨c=89∨c=90:=by unfold isL at h; omega
def sx (x:Int):Sx:=⟨7,0,false,false,false,false,false,false,false,32,x⟩
def celL (c:Int):List Sc:=[.i c,.i 7,.i 0,.b false,.b false,.b false,.b false,.b false,.i 0,.i 0]
theorem st_32 (x:Int):gr.stpS (sx x) 32 0=sx 32∧gr.stpC (sx x) 32 0=celL 32:=⟨by kernel_rfl,by kernel_rfl⟩
theorem st_65 (x:Int):gr.stpS (sx x) 65 0=sx 65∧gr.stpC (sx x) 65 0=celL 65:=⟨by kernel_rfl,by kernel_rfl⟩
theorem st_66 (x:Int):gr.stpS (sx x) 66 0=sx 66∧gr.stpC (sx x) 66 0=celL 66:=⟨by kernel_rfl,by kernel_rfl⟩
theorem st_67 (x:Int):gr.stpS (sx x) 67 0=sx 67∧gr.stpC (sx x) 67 0=celL 67:=⟨by kernel_rfl,by kernel_rfl⟩
theorem st_68 (x:Int):gr.stpS (sx x) 68 0=sx 68∧gr.stpC (sx x) 68 0=celL 68:=⟨by kernel_rfl,by kernel_rfl⟩
theorem st_69 (x:Int):gr.stpS (sx x) 69 0=sx 69∧gr.stpC (sx x) 69 0=celL 69:=⟨by kernel_rfl,by kernel_rfl⟩
theorem st_70 (x:Int):gr.stpS (sx x) 70 0=sx 70∧gr.stpC (sx x) 70 0=celL 70:=⟨by kernel_rfl,by kernel_rfl⟩
theorem st_71 (x:Int):gr.stpS (sx x) 71 0=sx 71∧gr.stpC (sx x) 71 0=celL 71:=⟨by kernel_rfl,by kernel_rfl⟩
theorem st_72 (x:Int):gr.stpS (sx x) 72 0=sx 72∧gr.stpC (sx x) 72 0=celL 72:=⟨by kernel_rfl,by kernel_rfl⟩
theorem st_73 (x:Int):gr.stpS (sx x) 73 0=sx 73∧gr.stpC (sx x) 73 0=celL 73:=⟨by kernel_rfl,by kernel_rfl⟩
theorem st_74 (x:Int):gr.stpS (sx x) 74 0=sx 74∧gr.stpC (sx x) 74 0=celL 74:=⟨by kernel_rfl,by kernel_rfl⟩
theorem st_75 (x:Int):gr.stpS (sx x) 75 0=sx 75∧gr.stpC (sx x) 75 0=celL 75:=⟨by kernel_rfl,by kernel_rfl⟩
theorem st_76 (x:Int):gr.stpS (sx x) 76 0=sx 76∧gr.stpC (sx x) 76 0=celL 76:=⟨by kernel_rfl,by kernel_rfl⟩
theorem st_77 (x:Int):gr.stpS (sx x) 77 0=sx 77∧gr.stpC (sx x) 77 0=celL 77:=⟨by kernel_rfl,by kernel_rfl⟩
theorem st_78 (x:Int):gr.stpS (sx x) 78 0=sx 78∧gr.stpC (sx x) 78 0=celL 78:=⟨by kernel_rfl,by kernel_rfl⟩
theorem st_79 (x:Int):gr.stpS (sx x) 79 0=sx 79∧gr.stpC (sx x) 79 0=celL 79:=⟨by kernel_rfl,by kernel_rfl⟩
theorem st_80 (x:Int):gr.stpS (sx x) 80 0=sx 80∧gr.stpC (sx x) 80 0=celL 80:=⟨by kernel_rfl,by kernel_rfl⟩
theorem st_81 (x:Int):gr.stpS (sx x) 81 0=sx 81∧gr.stpC (sx x) 81 0=celL 81:=⟨by kernel_rfl,by kernel_rfl⟩
theorem st_82 (x:Int):gr.stpS (sx x) 82 0=sx 82∧gr.stpC (sx x) 82 0=celL 82:=⟨by kernel_rfl,by kernel_rfl⟩
theorem st_83 (x:Int):gr.stpS (sx x) 83 0=sx 83∧gr.stpC (sx x) 83 0=celL 83:=⟨by kernel_rfl,by kernel_rfl⟩
theorem st_84 (x:Int):gr.stpS (sx x) 84 0=sx 84∧gr.stpC (sx x) 84 0=celL 84:=⟨by kernel_rfl,by kernel_rfl⟩
theorem st_85 (x:Int):gr.stpS (sx x) 85 0=sx 85∧gr.stpC (sx x) 85 0=celL 85:=⟨by kernel_rfl,by kernel_rfl⟩
theorem st_86 (x:Int):gr.stpS (sx x) 86 0=sx 86∧gr.stpC (sx x) 86 0=celL 86:=⟨by kernel_rfl,by kernel_rfl⟩
theorem st_87 (x:Int):gr.stpS (sx x) 87 0=sx 87∧gr.stpC (sx x) 87 0=celL 87:=⟨by kernel_rfl,by kernel_rfl⟩
theorem st_88 (x:Int):gr.stpS (sx x) 88 0=sx 88∧gr.stpC (sx x) 88 0=celL 88:=⟨by kernel_rfl,by kernel_rfl⟩
theorem st_89 (x:Int):gr.stpS (sx x) 89 0=sx 89∧gr.stpC (sx x) 89 0=celL 89:=⟨by kernel_rfl,by kernel_rfl⟩
theorem st_90 (x:Int):gr.stpS (sx x) 90 0=sx 90∧gr.stpC (sx x) 90 0=celL 90:=⟨by kernel_rfl,by kernel_rfl⟩
theorem st_all {c:Int} (h:isL c) (x:Int):gr.stpS (sx x) c 0=sx c∧gr.stpC (sx x) c 0=celL c:=by
 rcases isL_cases h with rfl | rfl | rfl | rfl | rfl | rfl | rfl | rfl | rfl | rfl | rfl | rfl | rfl | rfl | rfl | rfl | rfl | rfl | rfl | rfl | rfl | rfl | rfl | rfl | rfl | rfl | rfl
 ·exact st_32 x
 ·exact st_65 x
 ·exact st_66 x
 ·exact st_67 x
 ·exact st_68 x
 ·exact st_69 x
 ·exact st_70 x
 ·exact st_71 x
 ·exact st_72 x
 ·exact st_73 x
 ·exact st_74 x
 ·exact st_75 x
 ·exact st_76 x
 ·exact st_77 x
 ·exact st_78 x
 ·exact st_79 x
 ·exact st_80 x
 ·exact st_81 x
 ·exact st_82 x
 ·exact st_83 x
 ·exact st_84 x
 ·exact st_85 x
 ·exact st_86 x
 ·exact st_87 x
 ·exact st_88 x
 ·exact st_89 x
 ·exact st_90 x
theorem cel_at {b:List Int} (hb:∀ k<40,isL (gr.bAt b k)):∀ (n k:Nat) (x:Int) (j:Nat),k+n≤40→j<n→(gr.celV b 0 n k (sx x)).getD j []=celL (gr.bAt b (k+j))
 | 0,_,_,_,_,h=>absurd h (by omega)
 | n+1,k,x,0,hk,_=>by
   show gr.stpC (sx x) (gr.bAt b k) 0=_
   exact (st_all (hb k (by omega)) x).2
 | n+1,k,x,j+1,hk,hj=>by
   show (gr.celV b 0 n (k+1) (gr.stpS (sx x) (gr.bAt b k) 0)).getD j []=_
   rw [(st_all (hb k (by omega)) x).1,cel_at hb n (k+1) _ j (by omega) (by omega)]
   rw [show k+1+j=k+(j+1) by omega]
theorem row_at {b:List Int} (hb:∀ k<40,isL (gr.bAt b k)) {j:Nat} (hj:j<40):(gr.rowV b 0).getD j []=celL (gr.bAt b j):=by
 have:=cel_at hb 40 0 0 j (by omega) hj
 rw [Nat.zero_add] at this
 exact this
noncomputable def enc (c:Int):Int:=match pge.isOd (sv.mkO c) with
 | true=>bits .and .u8 (sv.mkO c) 127
 | false=>32
theorem pg_row (t:List Int):gr.lnV (pgT t) 7=(List.range 40).map fun k=>enc (t.getD k 32):=by kernel_rfl
theorem enc_b:((List.range 26).all fun n=>enc (65+Int.ofNat n)==65+Int.ofNat n)=true:=by kernel_rfl
theorem enc_s:enc 32=32:=by kernel_rfl
theorem enc_L {c:Int} (h:isL c):enc c=c:=by
 rcases h with rfl | ⟨h1,h2⟩
 ·exact enc_s
 ·have h:=List.all_eq_true.1 enc_b (c - 65).toNat (List.mem_range.2 (by omega))
  have e:65+Int.ofNat (c - 65).toNat=c:=by show 65+(((c - 65).toNat:Nat):Int)=c; omega
  rw [e] at h
  exact eq_of_beq h
def lets (t:List Int):Prop:=∀ c∈t,isL c
theorem lets_at {t:List Int} (h:lets t) (k:Nat):isL (t.getD k 32):=by
 rw [List.getD_eq_getElem?_getD]
 cases hk:t[k]? with
 | none=>exact .inl rfl
 | some c=>exact h c (List.mem_of_getElem? hk)
theorem row_b {t:List Int} (h:lets t) {k:Nat} (hk:k<40):gr.bAt (gr.lnV (pgT t) 7) k=t.getD k 32:=by
 have hl:(gr.lnV (pgT t) 7).length=40:=by rw [pg_row,List.length_map,List.length_range]
 unfold gr.bAt
 rw [decide_eq_true (show (k:Int)<((gr.lnV (pgT t) 7).length:Int) by omega)]
 show (gr.lnV (pgT t) 7).getD k 0=_
 rw [pg_row,List.getD_eq_getElem?_getD,List.getElem?_map,List.getElem?_range hk]
 exact enc_L (lets_at h k)
theorem flat_at {α:Type} (d:α):∀ {Ls:List (List α)} (r i:Nat),(∀ l∈Ls,l.length=40)→i<40→Ls.flatten.getD (r * 40+i) d=(Ls.getD r []).getD i d
 | [],r,i,_,_=>by simp
 | l::Ls,0,i,h,hi=>by
   have hl:=h l List.mem_cons_self
   show (l++Ls.flatten).getD (0 * 40+i) d=l.getD i d
   rw [List.getD_eq_getElem?_getD,List.getD_eq_getElem?_getD,List.getElem?_append_left (by omega),Nat.zero_mul,Nat.zero_add]
 | l::Ls,r+1,i,h,hi=>by
   have hl:=h l List.mem_cons_self
   have ih:=flat_at d (Ls:=Ls) r i (fun l hl=>h l (List.mem_cons_of_mem _ hl)) hi
   show (l++Ls.flatten).getD ((r+1) * 40+i) d=(Ls.getD r []).getD i d
   rw [← ih,List.getD_eq_getElem?_getD,List.getD_eq_getElem?_getD,List.getElem?_append_right (by omega),hl]
   rw [show (r+1) * 40+i - 40=r * 40+i by omega]
theorem rws_len (p:Pg) (o:Int) (L:List (List Sc)):∀ (n r:Nat) (q:List (List Sc)) (u:Bool),(u=true→q.length=40)→∀ l∈gr.rwsV p o L n r q u,l.length=40
 | 0,_,_,_,_,l,h=>(List.not_mem_nil h).elim
 | n+1,r,q,true,hq,l,h=>by
   have h:l∈q.map gr.loG::gr.rwsV p o L n (r+1) (q.map gr.loG) false:=h
   rcases List.mem_cons.1 h with rfl | h
   ·rw [List.length_map]; exact hq rfl
   ·exact rws_len p o L n (r+1) _ false (fun hc=>by cases hc) l h
 | n+1,r,q,false,_,l,h=>by
   have h:l∈(gr.rowAt p o L r).1::gr.rwsV p o L n (r+1) (gr.rowAt p o L r).1 (gr.rowAt p o L r).2:=h
   rcases List.mem_cons.1 h with rfl | h
   ·exact gr.rowAt_len p o L r
   ·exact rws_len p o L n (r+1) _ _ (fun _=>gr.rowAt_len p o L r) l h
theorem rws_at (p:Pg) (o:Int) (L:List (List Sc)):∀ (j n r:Nat) (q:List (List Sc)),j<n→(∀ k<j,(gr.rowAt p o L (r+k)).2=false)→(gr.rwsV p o L n r q false).getD j []=(gr.rowAt p o L (r+j)).1
 | _,0,_,_,h,_=>absurd h (by omega)
 | 0,n+1,r,q,_,_=>rfl
 | j+1,n+1,r,q,h,hk=>by
   show (gr.rwsV p o L n (r+1) (gr.rowAt p o L r).1 (gr.rowAt p o L r).2).getD j []=_
   have h0:=hk 0 (by omega)
   rw [Nat.add_zero] at h0
   rw [h0,rws_at p o L j n (r+1) _ (by omega) (fun k hj=>by have:=hk (k+1) (by omega); rw [show r+1+k=r+(k+1) by omega]; exact this)]
   rw [show r+1+j=r+(j+1) by omega]
theorem pg_flag (t:List Int):∀ k<7,(gr.rowAt (pgT t) 0 [] (0+k)).2=false:=by
 obtain ⟨⟨h1,h2⟩,⟨h3,h4⟩,h5,h6⟩:=pg_ln t
 intro k hk
 have key:∀ r:Nat,(r==0)=false→decide (r > 23)=false→gr.lnV (pgT t) (r:Int)=gr.bl40→(gr.rowAt (pgT t) 0 [] r).2=false:=fun r e0 e1 e=>by
  unfold gr.rowAt
  rw [e0,e1,e]
  exact bl_tal
 have:k=0∨k=1∨k=2∨k=3∨k=4∨k=5∨k=6:=by omega
 rcases this with rfl | rfl | rfl | rfl | rfl | rfl | rfl
 ·exact pg_r0 t
 ·exact key 1 rfl rfl h1
 ·exact key 2 rfl rfl h2
 ·exact key 3 rfl rfl h3
 ·exact key 4 rfl rfl h4
 ·exact key 5 rfl rfl h5
 ·exact key 6 rfl rfl h6
theorem grid_at {t:List Int} (h:lets t) {i:Nat} (hi:i<40):(gr.rwsG (pgT t)).getD (7 * 40+i) []=celL (t.getD i 32):=by
 unfold gr.rwsG
 rw [pg_o,pg_sp,flat_at [] 7 i (rws_len _ _ _ _ _ _ _ (fun hc=>by cases hc)) hi,rws_at _ _ _ 7 25 0 _ (by omega) (pg_flag t)]
 show (gr.rowV (gr.lnV (pgT t) 7) 0).getD i []=_
 have hb:∀ k<40,isL (gr.bAt (gr.lnV (pgT t) 7) k):=fun k hk=>by rw [row_b h hk]; exact lets_at h k
 rw [row_at hb hi,row_b h hi]
theorem out_at (F:List (List Sc)) (re mi:Bool) (G:List (List Sc)):∀ (n r j:Nat),j<n→(gr.outV F re mi G n r).getD j []=gr.outR F re mi G (r+j)
 | 0,_,_,h=>absurd h (by omega)
 | n+1,r,0,_=>rfl
 | n+1,r,j+1,h=>by
   show (gr.outV F re mi G n (r+1)).getD j []=_
   rw [out_at F re mi G n (r+1) j (by omega),show r+1+j=r+(j+1) by omega]
theorem out_len (F:List (List Sc)) (re mi:Bool) {G:List (List Sc)} (hG:G.length=1000):∀ (n r:Nat),r+n≤25→∀ l∈gr.outV F re mi G n r,l.length=40
 | 0,_,_,l,h=>(List.not_mem_nil h).elim
 | n+1,r,hr,l,h=>by
   have h:l∈gr.outR F re mi G r::gr.outV F re mi G n (r+1):=h
   rcases List.mem_cons.1 h with rfl | h
   ·unfold gr.outR
    rw [List.length_map]
    cases gr.blV F r with
    | true=>rfl
    | false=>exact gr.gRow_len hG (by omega)
   ·exact out_len F re mi hG n (r+1) (by omega) l h
theorem sh_cel (c:Int):gr.shR false false false (celL c)=celL c:=by kernel_rfl
theorem pg_bl (t:List Int):gr.blV (gr.flF (pgT t).c) 7=false:=by kernel_rfl
theorem page_at {t:List Int} (h:lets t) {i:Nat} (hi:i<40):(gr.pageV (pgT t) false false).getD (280+i) []=celL (t.getD i 32):=by
 have hG:=gr.rwsG_len (pgT t)
 unfold gr.pageV
 rw [show 280+i=7 * 40+i by omega,flat_at [] 7 i (out_len _ _ _ hG 25 0 (by omega)) hi,out_at _ _ _ _ 25 0 7 (by omega)]
 show (gr.outR (gr.flF (pgT t).c) false false (gr.rwsG (pgT t)) 7).getD i []=_
 unfold gr.outR
 rw [pg_bl,pg_bo]
 show ((gr.gRow (gr.rwsG (pgT t)) 7).map (gr.shR false false false)).getD i []=_
 have e:(gr.gRow (gr.rwsG (pgT t)) 7)[i]? = some (celL (t.getD i 32)):=by
  have hl:7 * 40+i<(gr.rwsG (pgT t)).length:=by omega
  have hg:=grid_at h hi
  rw [List.getD_eq_getElem?_getD,List.getElem?_eq_getElem hl] at hg
  unfold gr.gRow
  rw [List.getElem?_take_of_lt hi,List.getElem?_drop,List.getElem?_eq_getElem hl]
  exact congrArg some hg
 rw [List.getD_eq_getElem?_getD,List.getElem?_map,e]
 exact sh_cel _
theorem wd_far (r c:Nat) (tx:ByteArray) {j:Nat}:∀ (n k:Nat) (G:List (List Sc)),r * 40+(c+k)+n≤j→(gr.wdV r c tx n k G).getD j []=G.getD j []
 | 0,_,_,_=>rfl
 | n+1,k,G,h=>(wd_far r c tx n (k+1) _ (by omega)).trans (fi.set_miss (by omega))
theorem words_far (G:List (List Sc)) (c:Int) (hc:0≤c∧c<40) (tx:ByteArray) {j:Nat} (hj:40≤j):(gr.wordsV G 0 c tx).getD j []=G.getD j []:=by
 have hw:gr.wdN c.toNat tx≤40 - c.toNat:=by unfold gr.wdN; omega
 unfold gr.wordsV
 refine wd_far _ _ tx _ 0 G ?_
 show 0 * 40+(c.toNat+0)+gr.wdN c.toNat tx≤j
 omega
theorem screen7 {V:Rv} {t:List Int} (hf:V.fd=true) (hp:V.p=pgT t) (hr:V.s.rv=false) (hm:V.s.mx=false) (h:lets t) {i:Nat} (hi:i<40):gr.xI ((screenV V).getD (280+i) []) 0=t.getD i 32:=by
 have e:(screenV V).getD (280+i) []=celL (t.getD i 32):=by
  have hg:(gr.g2 V).getD (280+i) []=celL (t.getD i 32):=by
   unfold gr.g2
   rw [words_far _ _ ⟨by decide,by decide⟩ _ (by omega),hp,hr,hm]
   exact page_at h hi
  unfold screenV
  rw [hf]
  show (bif (V.m.v V.p.mg.toNat).bg&&!gr.xB (V.p.c.getD 3 []) 0 then gr.wordsV (gr.g2 V) 0 32 (gr.txV ((V.m.v V.p.mg.toNat).t.drop ((V.m.v V.p.mg.toNat).t.length - 8))) else gr.g2 V).getD (280+i) []=_
  cases (V.m.v V.p.mg.toNat).bg&&!gr.xB (V.p.c.getD 3 []) 0 with
  | false=>exact hg
  | true=>
    show (gr.wordsV (gr.g2 V) 0 32 _).getD (280+i) []=_
    rw [words_far _ _ ⟨by decide,by decide⟩ _ (by omega)]
    exact hg
 rw [e]
 rfl
end ho
end
section
namespace ho
open sto (sT sF Ky Sp kyP kyNC)
open ac (Pg pgZ)
open pge (Hx)
open Go Go.Nx pk mac bm rv
open gr (tGrd kGrd SOk screenV grR w64)
structure Sd (V:Rv) (u:List Int) (s:Rm) (w:List Int):Prop where
 g:V.m.good
 tx:fi.txM V.m
 opn:(V.m.v 1).opn=false
 td:(V.m.v 1).td=false
 L:V.m.st.L=[pgT u]
 most:V.m.st.most=4
 fd:V.fd=true
 s:V.s=s
 p:V.p=pgT w
theorem upd_self (v:Nat→Mv) (k:Nat):v=upd v k (v k):=by
 funext j
 by_cases e:j=k
 ·subst e; exact (upd_same _ _ _).symm
 ·exact (upd_other e).symm
theorem Sd.vx {V:Rv} {u:List Int} {s:Rm} {w:List Int} (h:Sd V u s w):∃ v0 q hx tx bg rg inf pin pd tk,V=ho.vx v0 q hx tx bg rg inf pin pd u s (pgT w) tk:=by
 obtain ⟨_,_,h3,h4,h5,h6,h7,h8,h9⟩:=h
 obtain ⟨⟨v,inf,⟨most,pin,pd,L⟩⟩,s',p',fd',tk⟩:=V
 simp only at h3 h4 h5 h6 h7 h8 h9
 subst h5 h6 h7 h8 h9
 have e:=upd_self v 1
 cases hm:v 1 with
 | mk opn q hx tx bg rg td=>
   rw [hm] at h3 h4 e
   simp only at h3 h4
   subst h3 h4
   refine ⟨v,q,hx,tx,bg,rg,inf,pin,pd,tk,?_⟩
   unfold ho.vx
   rw [← e]
theorem tx_pks {V:Rv} (h:fi.txM V.m) (t:List Int):fi.txM (V.pks (dS t)).m:=fi.tx_pk (fi.tx_pk (fi.tx_pk h d1) (d2 t)) d3
theorem first_sd (t:List Int):okKs (rvN 4) (dS t)∧Sd ((rvN 4).pks (dS t)) t rmZ t:=
 ⟨okKs_of (n_ok t),pks_good _ (mcN_good (by decide) (by decide)),tx_pks (fi.tx_new 4) t,n_opn t,n_td t,n_L t,n_most t,n_fd t,n_s t,rfl⟩
theorem Sd.sendZ {V:Rv} {u w:List Int} (h:Sd V u rmZ w) (t:List Int):okKs V (dS t)∧Sd (V.pks (dS t)) t rmZ t:=by
 have g:=pks_good (dS t) h.g
 have x:=tx_pks h.tx t
 obtain ⟨v0,q,hx,tx,bg,rg,inf,pin,pd,tk,rfl⟩:=h.vx
 exact ⟨okKs_of (vz_ok ..),g,x,vz_opn ..,vz_td ..,vz_L ..,vz_most ..,vz_fd ..,vz_s ..,vz_p ..⟩
theorem Sd.sendH {V:Rv} {u w:List Int} (h:Sd V u rmH w) (t:List Int):okKs V (dS t)∧Sd (V.pks (dS t)) t rmH w:=by
 have g:=pks_good (dS t) h.g
 have x:=tx_pks h.tx t
 obtain ⟨v0,q,hx,tx,bg,rg,inf,pin,pd,tk,rfl⟩:=h.vx
 exact ⟨okKs_of (vh_ok ..),g,x,vh_opn ..,vh_td ..,vh_L ..,vh_most ..,vh_fd ..,vh_s ..,vh_p ..⟩
theorem Sd.keyZ {V:Rv} {u w:List Int} (h:Sd V u rmZ w):Sd (V.key 10) u rmH w:=by
 have g:=key_good h.g 10
 have x:=fi.tx_key h.tx 10
 obtain ⟨v0,q,hx,tx,bg,rg,inf,pin,pd,tk,rfl⟩:=h.vx
 rw [kz_key] at g x ⊢
 exact ⟨g,x,rfl,rfl,rfl,rfl,rfl,rfl,rfl⟩
theorem Sd.keyH {V:Rv} {u w:List Int} (h:Sd V u rmH w):Sd (V.key 10) u rmZ u:=by
 have g:=key_good h.g 10
 have x:=fi.tx_key h.tx 10
 obtain ⟨v0,q,hx,tx,bg,rg,inf,pin,pd,tk,rfl⟩:=h.vx
 rw [kh_key] at g x ⊢
 exact ⟨g,x,rfl,rfl,rfl,rfl,rfl,rfl,rfl⟩
def hs:Bool→Rm
 | true=>rmH
 | false=>rmZ
def ws:Bool→List Int→List Int→List Int
 | true,w,_=>w
 | false,_,t=>t
theorem Sd.send {V:Rv} {u w:List Int}:∀ {b:Bool},Sd V u (hs b) w→∀ t,okKs V (dS t)∧Sd (V.pks (dS t)) t (hs b) (ws b w t)
 | true,h,t=>h.sendH t
 | false,h,t=>h.sendZ t
theorem Sd.sok {V:Rv} {u w:List Int} {s:Rm} (h:Sd V u s w) (hs:s.sub=false∧s.ds=[]):SOk V:=by
 have e:=pg_ex w
 have hf:V.p.ex.length≤208:=by rw [h.p,e]; exact Nat.zero_le _
 have hm:1≤V.p.mg∧V.p.mg≤8:=by rw [h.p,pg_mg]; exact ⟨by decide,by decide⟩
 exact {g:=h.g,s:=(by rw [h.s]; exact hs),c:=(by rw [h.p]; exact pg_c w),f:=hf,ms:=fun hc=>(by rw [h.fd] at hc; cases hc),mp:=fun _=>hm,tb:=fun k=>(h.tx k).1,t8:=fun k=>(h.tx k).2}
noncomputable def sends (V:Rv):List (List Int)→Rv
 | []=>V
 | t::l=>sends (V.pks (dS (t.map ltr))) l
def lastT (o:List Int):List (List Int)→List Int
 | []=>o
 | t::l=>lastT (t.map ltr) l
def lastW (b:Bool) (w:List Int):List (List Int)→List Int
 | []=>w
 | t::l=>lastW b (ws b w (t.map ltr)) l
theorem sends_sd {b:Bool}:∀ (l:List (List Int)) {V:Rv} {u w:List Int},Sd V u (hs b) w→Sd (sends V l) (lastT u l) (hs b) (lastW b w l)
 | [],_,_,_,h=>h
 | t::l,_,_,_,h=>sends_sd l (h.send (t.map ltr)).2
theorem lastW_t (w:List Int):∀ l,lastW true w l=w
 | []=>rfl
 | _::l=>lastW_t w l
theorem lastW_f (w:List Int):∀ l,lastW false w l=lastT w l
 | []=>rfl
 | t::l=>lastW_f (t.map ltr) l
def rdT (Ts:List (List Int)):List (List Int):=(Ts.map rwT).map fun r=>(r.getD 0 (.i 0)).li
theorem rdT_eq (Ts:List (List Int)):rdT Ts=Ts:=by
 unfold rdT
 rw [List.map_map]
 exact List.map_id _
theorem tAt_eq {Ts:List (List Int)} {i:Nat} (h:i<Ts.length):tAt Ts (i:Int)=Ts[i]:=by
 have e:((i:Nat):Int).toNat=i:=by simp
 have e2:(Ts.map rwT).getD i []=rwT Ts[i]:=by
  rw [List.getD_eq_getElem?_getD,List.getElem?_map,List.getElem?_eq_getElem h]
  rfl
 unfold tAt
 rw [e,e2]
 rfl
def rd0 (s:St):Option (List (List Int) × Bool):=match s.fr[(0:Nat)]?,s.fr[(1:Nat)]? with
 | some (.v (.c (.lt _ xs))),some (.v (.c (.b h)))=>some (xs.map fun r=>(r.getD 0 (.i 0)).li,h)
 | _,_=>none
def longT (Ts:List (List Int)):Bool:=Ts.any fun t=>decide ((t.length:Int) > 40)
noncomputable def l0 (s:St):Tr (NExit × St):=match rd0 s with
 | some (Ts,h)=>.must (s=s0 Ts h 0∧Ts.length≤1000) (.br (longT Ts) (.ret (.ret,e0 Ts h)) (.ret (.normal,d0 Ts h)))
 | none=>.fail
structure A0 where
 Ts:List (List Int)
 h:Bool
 i:Nat
noncomputable def h0 (x:A0):St:=s0 x.Ts x.h (x.i:Int)
noncomputable def pre0 (x:A0) (R:NExit × St→Prop):Prop:=(x.i≤x.Ts.length∧x.Ts.length≤1000)∧sel (longT (x.Ts.drop x.i)) (R (.ret,e0 x.Ts x.h)) (R (.normal,d0 x.Ts x.h))
noncomputable def nxt0 (x:A0) (R:NExit × St→Prop) (q:RO):Prop:=match q with
 | .next s=>∃ y,s=h0 y∧y.Ts.length - y.i<x.Ts.length - x.i∧pre0 y R
 | .done e s=>R (e,s)
theorem in_0 (x:A0) (R:NExit × St→Prop) (hp:pre0 x R):Box ((r0 (h0 x)).run (nxt0 x R)):=by
 obtain ⟨Ts,h,i⟩:=x
 obtain ⟨⟨h1,h2⟩,hR⟩:=hp
 simp only at h1 h2 hR
 have hw:w64 ((i:Int)+1)=((i+1:Nat):Int):=by show IntKind.i64.wrap _=_; rw [IntKind.wrap_i64]; omega
 have hl:(Ts.map rwT).length=Ts.length:=List.length_map _
 refine Box.of_eq (round_0 Ts h (i:Int) (nxt0 ⟨Ts,h,i⟩ R)) ?_
 rw [hl]
 by_cases hk:i<Ts.length
 ·rw [List.drop_eq_getElem_cons hk] at hR
  refine sT (decide_eq_true (by omega)) (ixU_in ⟨by omega,by omega⟩ ?_)
  rw [tAt_eq hk]
  unfold longT at hR
  rw [List.any_cons] at hR
  cases hd:decide ((Ts[i].length:Int) > 40) with
  | true=>
    rw [hd,Bool.true_or] at hR
    exact sT rfl hR
  | false=>
    rw [hd,Bool.false_or] at hR
    refine sF rfl ?_
    rw [hw]
    exact ⟨⟨Ts,h,i+1⟩,rfl,by simp only; omega,⟨by simp only; omega,h2⟩,hR⟩
 ·rw [List.drop_eq_nil_iff.2 (by omega)] at hR
  exact sF (decide_eq_false (by omega)) hR
theorem loop_0:LOk Tryz.prog GL 0 0 (bodyLoop f_ho 0) l0:=by
 refine loop_ok (X:=X_ho) kc_ho mixed (LAll.none (by kernel_rfl)) [0,1,5,6] [0,1,4,5] h0 (fun x=>x.Ts.length - x.i) pre0 ?_ ?_
 ·intro s R hr
  unfold l0 at hr
  split at hr
  case h_2=>exact hr.elim
  rename_i Ts h hx
  obtain ⟨⟨hs,hl⟩,hR⟩:=hr
  exact ⟨⟨Ts,h,0⟩,hs,⟨Nat.zero_le _,hl⟩,hR⟩
 ·intro x R h
  exact Tr.run_mono _ (fun q hq=>hq) (in_0 x R h).out
def rd2 (s:St):Option (List (List Int) × Bool × Rv × List Int):=match rd0 s,s.fr[(9:Nat)]?,s.rg with
 | some (Ts,h),some (.v (.c (.l _ o))),[some a,some b,some c,some d,some e]=>(match rdRv [a,b,c,d,e] with
   | some V=>some (Ts,h,V,o)
   | none=>none)
 | _,_,_=>none
noncomputable def l2 (s:St):Tr (NExit × St):=match rd2 s with
 | some (Ts,h,V,o)=>.must (s=s2 Ts h V o o 0∧Ts.length≤1000∧(∀ t∈Ts,t.length≤1000000)∧Sd V o (hs h) o) (.ret (.normal,e2 h (sends V Ts) o (lastT o Ts)))
 | none=>.fail
structure A2 where
 Ts:List (List Int)
 h:Bool
 o:List Int
 V:Rv
 u:List Int
 w:List Int
 i:Nat
noncomputable def h2 (x:A2):St:=s2 x.Ts x.h x.V x.o x.u (x.i:Int)
noncomputable def pre2 (x:A2) (R:NExit × St→Prop):Prop:=((x.i≤x.Ts.length∧x.Ts.length≤1000)∧(∀ t∈x.Ts,t.length≤1000000)∧Sd x.V x.u (hs x.h) x.w)∧R (.normal,e2 x.h (sends x.V (x.Ts.drop x.i)) x.o (lastT x.u (x.Ts.drop x.i)))
noncomputable def nxt2 (x:A2) (R:NExit × St→Prop) (q:RO):Prop:=match q with
 | .next s=>∃ y,s=h2 y∧y.Ts.length - y.i<x.Ts.length - x.i∧pre2 y R
 | .done e s=>R (e,s)
theorem in_2 (x:A2) (R:NExit × St→Prop) (hp:pre2 x R):Box ((r2 (h2 x)).run (nxt2 x R)):=by
 obtain ⟨Ts,h,o,V,u,w,i⟩:=x
 obtain ⟨⟨⟨h1,h2'⟩,h3,h4⟩,hR⟩:=hp
 simp only at h1 h2' h3 h4 hR
 have hw:w64 ((i:Int)+1)=((i+1:Nat):Int):=by show IntKind.i64.wrap _=_; rw [IntKind.wrap_i64]; omega
 have hl:(Ts.map rwT).length=Ts.length:=List.length_map _
 refine Box.of_eq (round_2 Ts h V o u (i:Int) (nxt2 ⟨Ts,h,o,V,u,w,i⟩ R)) ?_
 rw [hl]
 by_cases hk:i<Ts.length
 ·rw [List.drop_eq_getElem_cons hk] at hR
  have hR:R (.normal,e2 h (sends (V.pks (dS (Ts[i].map ltr))) (Ts.drop (i+1))) o (lastT (Ts[i].map ltr) (Ts.drop (i+1)))):=hR
  refine sT (decide_eq_true (by omega)) (ixU_in ⟨by omega,by omega⟩ ?_)
  rw [tAt_eq hk]
  obtain ⟨k1,k2⟩:=h4.send (Ts[i].map ltr)
  refine ⟨⟨rfl,h3 _ (List.getElem_mem hk)⟩,?_⟩
  unfold sndA
  rw [V.bk_eq h4.g.far]
  refine ⟨⟨rfl,h4.g.ok⟩,⟨rfl,h4.g,k1⟩,?_⟩
  rw [hw]
  exact ⟨⟨Ts,h,o,V.pks (dS (Ts[i].map ltr)),Ts[i].map ltr,ws h w (Ts[i].map ltr),i+1⟩,rfl,by simp only; omega,⟨⟨by simp only; omega,h2'⟩,h3,k2⟩,hR⟩
 ·rw [List.drop_eq_nil_iff.2 (by omega)] at hR
  exact sF (decide_eq_false (by omega)) hR
theorem loop_2:LOk Tryz.prog GL 0 2 (bodyLoop f_ho 2) l2:=by
 refine loop_ok (X:=X_ho) kc_ho mixed (LAll.none (by kernel_rfl)) [0,1,5,7,9,10,11] [1,5,7,9,10] h2 (fun x=>x.Ts.length - x.i) pre2 ?_ ?_
 ·intro s R hr
  unfold l2 at hr
  split at hr
  case h_2=>exact hr.elim
  rename_i Ts h V o hx
  obtain ⟨⟨hs,hl,ht,hv⟩,hR⟩:=hr
  exact ⟨⟨Ts,h,o,V,o,o,0⟩,hs,⟨⟨Nat.zero_le _,hl⟩,ht,hv⟩,hR⟩
 ·intro x R h
  exact Tr.run_mono _ (fun q hq=>hq) (in_2 x R h).out
def rd4 (s:St):Option (Bool × Rv × List Int × List Int × List (List Sc) × List (List Sc)):=match s.fr[(1:Nat)]?,s.fr[(9:Nat)]?,s.fr[(10:Nat)]?,s.rg with
 | some (.v (.c (.b h))),some (.v (.c (.l _ o))),some (.v (.c (.l _ t))),[some a,some b,some c,some d,some e,some ⟨_,_,.sg [.recs _ _ G]⟩,some ⟨_,_,.sg [.recs _ _ H]⟩]=>(match rdRv [a,b,c,d,e] with
   | some V=>some (h,V,o,t,G,H)
   | none=>none)
 | _,_,_,_=>none
def seen (h:Bool) (o t:List Int) (G H:List (List Sc)):Prop:=∀ i<40,gr.xI (G.getD (280+i) []) 0=w64 ((ws h o t).getD i 32)∧gr.xI (H.getD (280+i) []) 0=w64 (t.getD i 32)
noncomputable def l4 (s:St):Tr (NExit × St):=match rd4 s with
 | some (h,V,o,t,G,H)=>.must (s=s4 h V o t G H 0∧seen h o t G H) (.ret (.normal,d4 V))
 | none=>.fail
structure A4 where
 h:Bool
 V:Rv
 o:List Int
 t:List Int
 G:List (List Sc)
 H:List (List Sc)
 i:Nat
noncomputable def h4 (x:A4):St:=s4 x.h x.V x.o x.t x.G x.H (x.i:Int)
noncomputable def pre4 (x:A4) (R:NExit × St→Prop):Prop:=(x.i≤40∧seen x.h x.o x.t x.G x.H)∧R (.normal,d4 x.V)
noncomputable def nxt4 (x:A4) (R:NExit × St→Prop) (q:RO):Prop:=match q with
 | .next s=>∃ y,s=h4 y∧40 - y.i<40 - x.i∧pre4 y R
 | .done e s=>R (e,s)
theorem vaA_in {o:List Int} {i:Nat} {f:Int→Prop} (h:f (o.getD i 32)):vaA o (i:Int) f:=by
 have ek:((i:Nat):Int).toNat=i:=by simp
 unfold vaA
 by_cases hi:i<o.length
 ·refine sT (decide_eq_true (by omega)) (ixU_in ⟨by omega,by omega⟩ ?_)
  rw [ek]
  have e:o.getD i 0=o.getD i 32:=by
   rw [List.getD_eq_getElem?_getD,List.getD_eq_getElem?_getD,List.getElem?_eq_getElem hi]
   rfl
  rw [e]
  exact h
 ·have e:o.getD i 32=32:=by
   rw [List.getD_eq_getElem?_getD,List.getElem?_eq_none (by omega)]
   rfl
  rw [e] at h
  exact sF (decide_eq_false (by omega)) h
theorem ceA_in {G:List (List Sc)} {i:Nat} {x:Int} {no yes:Prop} (hi:i<40) (hx:gr.xI (G.getD (280+i) []) 0=w64 x) (h:yes):ceA G (i:Int) x no yes:=by
 have ek:((i:Nat):Int).toNat=i:=by simp
 unfold ceA
 rw [ek]
 refine sT (decide_eq_true (by omega)) (sT (decide_eq_true (by omega)) (sT (decide_eq_true (by omega)) (sF ?_ h)))
 rw [hx]
 exact bne_self_eq_false _
theorem in_4 (x:A4) (R:NExit × St→Prop) (hp:pre4 x R):Box ((r4 (h4 x)).run (nxt4 x R)):=by
 obtain ⟨h,V,o,t,G,H,i⟩:=x
 obtain ⟨⟨h1,h2⟩,hR⟩:=hp
 simp only at h1 h2 hR
 have hw:w64 ((i:Int)+1)=((i+1:Nat):Int):=by show IntKind.i64.wrap _=_; rw [IntKind.wrap_i64]; omega
 have nx:i<40→nxt4 ⟨h,V,o,t,G,H,i⟩ R (.next (s4 h V o t G H (w64 ((i:Int)+1)))):=fun hi=>by
  rw [hw]
  exact ⟨⟨h,V,o,t,G,H,i+1⟩,rfl,by simp only; omega,⟨by simp only; omega,h2⟩,hR⟩
 cases h with
 | true=>
   refine Box.of_eq (round_4t V o t G H (i:Int) (nxt4 ⟨true,V,o,t,G,H,i⟩ R)) ?_
   by_cases hk:i<40
   ·exact sT (decide_eq_true (by omega)) (vaA_in (vaA_in (ceA_in hk (h2 i hk).1 (ceA_in hk (h2 i hk).2 (nx hk)))))
   ·exact sF (decide_eq_false (by omega)) hR
 | false=>
   refine Box.of_eq (round_4f V o t G H (i:Int) (nxt4 ⟨false,V,o,t,G,H,i⟩ R)) ?_
   by_cases hk:i<40
   ·exact sT (decide_eq_true (by omega)) (vaA_in (vaA_in (ceA_in hk (h2 i hk).1 (ceA_in hk (h2 i hk).2 (nx hk)))))
   ·exact sF (decide_eq_false (by omega)) hR
theorem loop_4:LOk Tryz.prog GL 0 4 (bodyLoop f_ho 4) l4:=by
 refine loop_ok (X:=X_ho) kc_ho mixed (LAll.none (by kernel_rfl)) [1,5,7,9,10,12,13,14] [4,5,7] h4 (fun x=>40 - x.i) pre4 ?_ ?_
 ·intro s R hr
  unfold l4 at hr
  split at hr
  case h_2=>exact hr.elim
  rename_i h V o t G H hx
  obtain ⟨⟨hs,hv⟩,hR⟩:=hr
  exact ⟨⟨h,V,o,t,G,H,0⟩,hs,⟨Nat.zero_le _,hv⟩,hR⟩
 ·intro x R h
  exact Tr.run_mono _ (fun q hq=>hq) (in_4 x R h).out
noncomputable def t_ho:Con:=fun args regs=>if regs.length=0 then nfun Tryz.prog GL c_ho [(0,[0,1,5,6],l0),(2,[0,1,5,7,9,10,11],l2),(4,[1,5,7,9,10,12,13,14],l4)] f_ho args regs else .fail
theorem k_ho:Known Tryz.prog GL 5 t_ho:=known_loops 0 Tryz.func5 rfl (by kernel_rfl) mixed kc_ho (LAll.three (i1:=0) (i2:=2) (i3:=4) (b1:=bodyLoop f_ho 0) (b2:=bodyLoop f_ho 2) (b3:=bodyLoop f_ho 4) (by kernel_rfl) rfl (by decide) loop_0 loop_2 loop_4)
end ho
end
section
namespace ho
open sto (sT sF Ky Sp kyP kyNC)
open ac (Pg pgZ)
open Go Go.Nx pk mac bm rv
open gr (tGrd kGrd SOk screenV grR w64)
open fi (kyK bkA stA)
noncomputable def oBl (b:Bool):Out:=⟨.v (.c (.b b)),[]⟩
def old3:List Int:=[111,108,100]
def oldL:List Int:=old3.map ltr
noncomputable def hoT (Ts:List (List Int)) (h:Bool) (R:Out→Prop) (rest:Rv→Prop):Prop:=
 sel (decide (((Ts.map rwT).length:Int) > 10)) (R (oBl true)) ((s0 Ts h 0=s0 (rdT Ts) h 0∧(rdT Ts).length≤1000)∧sel (longT (rdT Ts)) (R (oBl true)) ([NV.c (.i .i64 4)]=[NV.c (.i .i64 4)]∧letA old3 (sndA (rvN 4) oldL rest)))
noncomputable def lpA (h:Bool) (Ts:List (List Int)) (W:Rv) (A:Rv→List Int→Prop):Prop:=
 (s2 (rdT Ts) h W oldL oldL 0=s2 (rdT (rdT Ts)) h W.bk oldL oldL 0∧(rdT (rdT Ts)).length≤1000∧(∀ t∈rdT (rdT Ts),t.length≤1000000)∧Sd W.bk oldL (hs h) oldL)∧A (sends W.bk (rdT (rdT Ts))) (lastT oldL (rdT (rdT Ts)))
noncomputable def gridA (V:Rv) (A:Rv→List (List Sc)→Prop):Prop:=bkA V∧(SOk V.bk∧A V.bk (screenV V.bk))
noncomputable def sgA (h:Bool) (X:Rv) (t:List Int) (G H:List (List Sc)) (A:Rv→Prop):Prop:=(s4 h X oldL t G H 0=s4 h X.bk oldL t G H 0∧seen h oldL t G H)∧A X.bk
noncomputable def finA (X:Rv) (R:Out→Prop):Prop:=stA X fun Y=>sel Y.fd (stA Y fun Z=>R (oBl ((Z.m.st.L.length:Int)==1))) (R (oBl false))
noncomputable def bodT (Ts:List (List Int)) (R:Out→Prop) (W:Rv):Prop:=kyK W 10 fun W=>lpA true Ts W fun U t=>gridA U fun U G=>kyK U 10 fun X=>gridA X fun X H=>sgA true X t G H fun X=>finA X R
noncomputable def bodF (Ts:List (List Int)) (R:Out→Prop) (W:Rv):Prop:=lpA false Ts W fun U t=>gridA U fun U G=>gridA U fun X H=>sgA false X t G H fun X=>finA X R
theorem ho_t (Ts:List (List Int)) (R:Out→Prop):(t_ho [.c (.lt [.l .u8] (Ts.map rwT)),.c (.b true)] []).run R=hoT Ts true R (bodT Ts R):=by kernel_rfl
theorem ho_f (Ts:List (List Int)) (R:Out→Prop):(t_ho [.c (.lt [.l .u8] (Ts.map rwT)),.c (.b false)] []).run R=hoT Ts false R (bodF Ts R):=by kernel_rfl
end ho
end
section
namespace ho
open sto (sT sF Ky Sp kyP kyNC)
open ac (Pg pgZ)
open Go Go.Nx pk mac bm rv
open gr (tGrd kGrd SOk screenV grR w64)
open fi (kyK bkA stA)
theorem ltr_b:((List.range 256).all fun n=>decide (65≤ltr (Int.ofNat n))&&decide (ltr (Int.ofNat n)≤90))=true:=by kernel_rfl
theorem ltr_L {x:Int} (h:0≤x∧x<256):isL (ltr x):=by
 have hk:=List.all_eq_true.1 ltr_b x.toNat (List.mem_range.2 (by omega))
 have e:Int.ofNat x.toNat=x:=by show ((x.toNat:Nat):Int)=x; omega
 rw [e,Bool.and_eq_true] at hk
 exact .inr ⟨of_decide_eq_true hk.1,of_decide_eq_true hk.2⟩
def byT (t:List Int):Prop:=∀ b∈t,0≤b∧b<256
theorem lets_map {t:List Int} (h:byT t):lets (t.map ltr):=fun c hc=>by
 obtain ⟨x,hx,rfl⟩:=List.mem_map.1 hc
 exact ltr_L (h x hx)
theorem old_L:lets oldL:=lets_map (t:=old3) (by unfold byT old3; decide)
theorem last_L:∀ (l:List (List Int)) {o:List Int},lets o→(∀ t∈l,byT t)→lets (lastT o l)
 | [],_,h,_=>h
 | t::l,_,_,ht=>last_L l (lets_map (ht t List.mem_cons_self)) fun t h=>ht t (List.mem_cons_of_mem _ h)
theorem w64_L {c:Int} (h:isL c):w64 c=c:=by
 show IntKind.i64.wrap c=c
 rw [IntKind.wrap_i64]
 unfold isL at h
 omega
theorem see {V:Rv} {u w:List Int} {s:Rm} (h:Sd V u s w) (hr:s.rv=false) (hm:s.mx=false) (hl:lets w) {i:Nat} (hi:i<40):gr.xI ((screenV V).getD (280+i) []) 0=w64 (w.getD i 32):=by
 rw [w64_L (lets_at hl i)]
 exact screen7 h.fd h.p (by rw [h.s]; exact hr) (by rw [h.s]; exact hm) hl hi
theorem kyK_in {V:Rv} {u w:List Int} {s:Rm} {A:Rv→Prop} (h:Sd V u s w) (hs:s.ds.length≤2∧s.su.length≤3) (hA:A (V.key 10)):kyK V 10 A:=by
 unfold fi.kyK fi.bkA
 rw [V.bk_eq h.g.far]
 exact ⟨⟨rfl,h.g.ok⟩,⟨rfl,by rw [h.p]; exact pg_lk w,⟨by rw [h.s]; exact hs.1,by rw [h.s]; exact hs.2⟩,h.g⟩,hA⟩
theorem gridA_in {V:Rv} {u w:List Int} {s:Rm} {A:Rv→List (List Sc)→Prop} (h:Sd V u s w) (hs:s.sub=false∧s.ds=[]) (hA:A V (screenV V)):gridA V A:=by
 unfold gridA fi.bkA
 rw [V.bk_eq h.g.far]
 exact ⟨⟨rfl,h.g.ok⟩,h.sok hs,hA⟩
theorem stA_in {V:Rv} {u w:List Int} {A:Rv→Prop} (h:Sd V u rmZ w) (hA:A V):stA V A:=by
 unfold fi.stA fi.bkA
 rw [V.bk_eq h.g.far]
 exact ⟨⟨rfl,h.g.ok⟩,⟨by rw [h.s]; rfl,by rw [h.s]; rfl⟩,hA⟩
theorem fin_in {X:Rv} {u w:List Int} {R:Out→Prop} (h:Sd X u rmZ w) (hR:R (oBl true)):finA X R:=by
 refine stA_in h (sT h.fd (stA_in h ?_))
 rw [h.L]
 exact hR
theorem lpA_in {b:Bool} {Ts:List (List Int)} {W:Rv} {A:Rv→List Int→Prop} (h:Sd W oldL (hs b) oldL) (h1:Ts.length≤1000) (h2:∀ t∈Ts,t.length≤1000000) (hA:A (sends W Ts) (lastT oldL Ts)):lpA b Ts W A:=by
 unfold lpA
 rw [rdT_eq,rdT_eq,W.bk_eq h.g.far]
 exact ⟨⟨rfl,h1,h2,h⟩,hA⟩
theorem sgA_in {b:Bool} {X:Rv} {u w:List Int} {s:Rm} {t:List Int} {G H:List (List Sc)} {A:Rv→Prop} (h:Sd X u s w) (hs:seen b oldL t G H) (hA:A X):sgA b X t G H A:=by
 unfold sgA
 rw [X.bk_eq h.g.far]
 exact ⟨⟨rfl,hs⟩,hA⟩
theorem bodT_in {Ts:List (List Int)} {W:Rv} {R:Out→Prop} (h:Sd W oldL rmZ oldL) (h1:Ts.length≤1000) (h2:∀ t∈Ts,t.length≤1000000) (h3:∀ t∈Ts,byT t) (hR:R (oBl true)):bodT Ts R W:=by
 refine kyK_in h ⟨by decide,by decide⟩ ?_
 have h4:Sd (W.key 10) oldL (hs true) oldL:=h.keyZ
 refine lpA_in h4 h1 h2 ?_
 have h5:=sends_sd Ts h4
 rw [lastW_t] at h5
 have h6:Sd ((sends (W.key 10) Ts).key 10) (lastT oldL Ts) rmZ (lastT oldL Ts):=Sd.keyH h5
 have hl:=last_L Ts old_L h3
 refine gridA_in h5 ⟨rfl,rfl⟩ (kyK_in h5 ⟨by decide,by decide⟩ (gridA_in h6 ⟨rfl,rfl⟩ (sgA_in h6 (fun i hi=>⟨?_,?_⟩) (fin_in h6 hR))))
 ·exact see h5 rfl rfl old_L hi
 ·exact see h6 rfl rfl hl hi
theorem bodF_in {Ts:List (List Int)} {W:Rv} {R:Out→Prop} (h:Sd W oldL rmZ oldL) (h1:Ts.length≤1000) (h2:∀ t∈Ts,t.length≤1000000) (h3:∀ t∈Ts,byT t) (hR:R (oBl true)):bodF Ts R W:=by
 have h4:Sd W oldL (hs false) oldL:=h
 refine lpA_in h4 h1 h2 ?_
 have h5:=sends_sd Ts h4
 rw [lastW_f] at h5
 have h5:Sd (sends W Ts) (lastT oldL Ts) rmZ (lastT oldL Ts):=h5
 have hl:=last_L Ts old_L h3
 refine gridA_in h5 ⟨rfl,rfl⟩ (gridA_in h5 ⟨rfl,rfl⟩ (sgA_in h5 (fun i hi=>⟨?_,?_⟩) (fin_in h5 hR)))
 ·exact see h5 rfl rfl hl hi
 ·exact see h5 rfl rfl hl hi
theorem hoT_in {Ts:List (List Int)} {h:Bool} {R:Out→Prop} {rest:Rv→Prop} (hR:R (oBl true)) (hA:Ts.length≤1000→(∀ t∈Ts,t.length≤1000000)→∀ W,Sd W oldL rmZ oldL→rest W):hoT Ts h R rest:=by
 unfold hoT
 rw [rdT_eq,List.length_map]
 by_cases hT:(Ts.length:Int) > 10
 ·exact sT (decide_eq_true hT) hR
 ·refine sF (decide_eq_false hT) ⟨⟨rfl,by omega⟩,?_⟩
  cases hl:longT Ts with
  | true=>exact sT rfl hR
  | false=>
    have h2:∀ t∈Ts,t.length≤1000000:=fun t ht=>by
     have:=List.any_eq_false.1 hl t ht
     simp only [decide_eq_true_eq] at this
     omega
    obtain ⟨k1,k2⟩:=first_sd oldL
    have g:=mcN_good (n:=4) (by decide) (by decide)
    refine sF rfl ⟨rfl,⟨rfl,by unfold old3; decide⟩,?_⟩
    unfold sndA
    have eb:(rvN 4).bk=rvN 4:=Rv.bk_eq _ g.far
    rw [eb]
    exact ⟨⟨rfl,g.ok⟩,⟨rfl,g,k1⟩,hA (by omega) h2 _ k2⟩
attribute [local irreducible] t_ho in
theorem ho_yes (Ts:List (List Int)) (h3:∀ t∈Ts,byT t) (b:Bool):Holds (t_ho [.c (.lt [.l .u8] (Ts.map rwT)),.c (.b b)] []) fun q=>q.res=.v (.c (.b true)):=by
 cases b with
 | true=>exact ⟨Box.out (Box.of_eq (ho_t Ts _) (hoT_in rfl fun h1 h2 W h=>bodT_in h h1 h2 h3 rfl))⟩
 | false=>exact ⟨Box.out (Box.of_eq (ho_f Ts _) (hoT_in rfl fun h1 h2 W h=>bodF_in h h1 h2 h3 rfl))⟩
def shsHo:List Sh:=[.tab [.l .u8],.b]
theorem u8_in {n:Int} (h:(Lit.int .u8 n).wf=true):0≤n∧n<256:=by
 simp only [Lit.wf,Bool.and_eq_true,decide_eq_true_eq] at h
 have h1:IntKind.u8.min=0:=rfl
 have h2:IntKind.u8.max=255:=rfl
 rw [h1,h2] at h
 omega
theorem rows_of:∀ {xs:List (List FC)},(∀ r∈xs,R2 PkOk [Part.l .u8] r)→∃ Ts:List (List Int),xs=Ts.map rwT∧∀ t∈Ts,byT t
 | [],_=>⟨[],rfl,fun t h=>(List.not_mem_nil h).elim⟩
 | r::xs,h=>by
   obtain ⟨Ts,rfl,ht⟩:=rows_of (xs:=xs) fun r hr=>h r (List.mem_cons_of_mem _ hr)
   have hr:=h r List.mem_cons_self
   cases hr with
   | cons h1 h2=>
     cases h2
     cases h1 with
     | @l _ ys hw hl=>
       refine ⟨ys::Ts,rfl,fun t h=>?_⟩
       rcases List.mem_cons.1 h with rfl | h
       ·exact fun n hn=>u8_in (hw n hn)
       ·exact ht t h
theorem ho_law (xs:List NV) (h:R2 ShOk shsHo xs):Holds (t_ho xs []) fun o=>o.res=.v (.c (.b true)):=by
 cases h with
 | cons h1 h=>
   cases h with
   | cons h2 h=>
     cases h
     cases h1 with
     | @tab _ rows hr hl=>
       cases h2 with
       | @b b=>
         obtain ⟨Ts,rfl,ht⟩:=rows_of hr
         exact ho_yes Ts ht b
end ho
end
end Go.Proofs.YthknkidbonfbnaaGreatDoor
