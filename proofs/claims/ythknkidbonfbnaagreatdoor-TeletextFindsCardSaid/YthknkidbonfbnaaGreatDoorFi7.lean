/-
  Joined: GrP, FiB, FiT, FiC, FiD.
-/
import Derived.Test.YthknkidbonfbnaaGreatDoorFi6
set_option linter.unusedVariables false
section
namespace Go.Proofs.YthknkidbonfbnaaGreatDoor.gr
open Go Go.Nx Go.Proofs.YthknkidbonfbnaaGreatDoor.pk
open Go.Proofs.YthknkidbonfbnaaGreatDoor.bm (ixU ixU_in)
open Go.Proofs.YthknkidbonfbnaaGreatDoor.sto (pgV rdPg)
open Go.Proofs.YthknkidbonfbnaaGreatDoor.ac (Pg pgZ K1)
open Go.Proofs.YthknkidbonfbnaaGreatDoor.mac (fits Mc)
open Go.Proofs.YthknkidbonfbnaaGreatDoor.rv (Rv Rm inV onV line0 tLine0 kLine0)
set_option maxRecDepth 100000
noncomputable def c_grd:FuncId→Option Con:=conOf [(66,mac.tLa),(67,tWds),(68,tEmp),(70,tPg),(65,tLine0),(69,tTtx)]
theorem kc_grd:∀ f T,c_grd f=some T→Known Tryz.prog GL f T:=(Knowns.cons mac.kLa (.cons kWds (.cons kEmp (.cons kPg (.cons kLine0 (.cons kTtx .nil)))))).get
noncomputable def t_grd:Con:=fun args regs=>nfun Tryz.prog GL c_grd [] Tryz.f26 args regs
theorem k_grd:Known Tryz.prog GL 26 t_grd:=known_inl Tryz.func26 rfl (by kernel_rfl) mixed kc_grd (by kernel_rfl)
noncomputable def eqG (V W:Rv) (A:Prop):Prop:=some (mac.mcG 2 V.m.v V.m.inf)=some (mac.mcG 2 W.m.v W.m.inf)∧(some (rv.stN 3 V.m.st.sto)=some (rv.stN 3 W.m.st.sto)∧(some (ac.mpReg V.m.st.sto.m)=some (ac.mpReg W.m.st.sto.m)∧(some (sto.ordReg (sto.kyRows V.m.st.sto.l))=some (sto.ordReg (sto.kyRows W.m.st.sto.l))∧A)))
def rdyM (M:Mc):Prop:=mac.inM M=mac.inM (mac.bk M)∧(mac.bk M).ok
noncomputable def lastA (V:Rv) (g:Int) (f:List Int→Bool→Prop):Prop:=rdyM V.m∧(([NV.c (.p 0 0 0),.c (.i .i64 g)]=[NV.c (.p 0 0 0),.c (.i .i64 g)]∧(1≤g∧g≤8)∧(mac.bk V.m).good)∧sel ((mac.bk V.m).v g.toNat).bg (eqG V V.bk (f ((mac.bk V.m).v g.toNat).t true)) (eqG V V.bk (f [] false)))
def lineA (s:Rm) (A:Prop):Prop:=([NV.ag s.nc]=[NV.ag s.nc]∧s.sub=false∧s.ds=[])∧A
def wdA (G:List (List Sc)) (r c:Int) (t:ByteArray) (A:Prop):Prop:=([NV.sg [.recs KC 1000 G],.c (.i .i64 r),.c (.i .i64 c),.c (.s t)]=[NV.sg [.recs KC 1000 G],.c (.i .i64 r),.c (.i .i64 c),.c (.s t)]∧(0≤r∧r<25)∧(0≤c∧c<40)∧t.size≤1000000)∧A
def txA (b:List Int) (A:Prop):Prop:=([NV.c (.l .u8 b)]=[NV.c (.l .u8 b)]∧b.length≤1000000∧∀ y∈b,0≤y∧y<256)∧A
noncomputable def oGd (V:Rv) (G:List (List Sc)):Out:=⟨.v (.sg [.recs KC 1000 G]),(inV V).map some⟩
noncomputable def lnS (V:Rv):ByteArray:=line0 V.s.mg V.s.pn
noncomputable def g1 (V:Rv):List (List Sc):=wordsV (List.replicate 1000 blC) 0 0 (lnS V)
noncomputable def nfA (V W:Rv) (t:List Int) (R:Out→Prop):Prop:=lineA V.s (wdA (List.replicate 1000 blC) 0 0 (lnS V) (txA t (wdA (g1 V) 0 8 (txV t) (R (oGd W (wordsV (g1 V) 0 8 (txV t)))))))
noncomputable def g2 (V:Rv):List (List Sc):=wordsV (pageV V.p V.s.rv V.s.mx) 0 0 (lnS V)
def drA (t:List Int) (f:List Int→Prop):Prop:=sel (decide (0≤w64 ((t.length:Int) - 8))) (sel (decide (w64 ((t.length:Int) - 8)≤(t.length:Int))) (f (List.drop (w64 ((t.length:Int) - 8)).toNat (List.take t.length t))) False) False
noncomputable def fdA (V W:Rv) (t:List Int) (is:Bool) (R:Out→Prop):Prop:=match is with
 | true=>sel (!xB (V.p.c.getD 3 []) 0) (drA t fun u=>txA u (wdA (g2 V) 0 32 (txV u) (R (oGd W (wordsV (g2 V) 0 32 (txV u)))))) (R (oGd W (g2 V)))
 | false=>R (oGd W (g2 V))
noncomputable def gdT (V:Rv) (R:Out→Prop):Prop:=sel (!V.fd) (lastA V V.s.mg fun t is=>nfA V V t R)
 (([pgV V.p,.ag [.b V.s.rv,.b V.s.mx]]=[pgV V.p,.ag [.b V.s.rv,.b V.s.mx]]∧fits V.p∧V.p.c.length=11)∧lineA V.s (wdA (pageV V.p V.s.rv V.s.mx) 0 0 (lnS V) (lastA V V.p.mg fun t is=>fdA V V t is R)))
def Rv.wf (V:Rv) (b:Bool):Rv:={V with fd:=b}
theorem gd_f (V:Rv) (R:Out→Prop):(t_grd [.c (.p 0 0 0)] (inV (Rv.wf V false))).run R=gdT (Rv.wf V false) R:=by kernel_rfl
theorem gd_t (V:Rv) (R:Out→Prop):(t_grd [.c (.p 0 0 0)] (inV (Rv.wf V true))).run R=gdT (Rv.wf V true) R:=by kernel_rfl
structure SOk (V:Rv):Prop where
 g:V.m.good
 s:V.s.sub=false∧V.s.ds=[]
 c:V.p.c.length=11
 f:fits V.p
 ms:V.fd=false→1≤V.s.mg∧V.s.mg≤8
 mp:V.fd=true→1≤V.p.mg∧V.p.mg≤8
 tb:∀ k,∀ y∈(V.m.v k).t,0≤y∧y<256
 t8:∀ k,(V.m.v k).bg=true→8≤(V.m.v k).t.length
noncomputable def lstT (M:Mc) (g:Int):List Int:=bif (M.v g.toNat).bg then (M.v g.toNat).t else []
noncomputable def screenV (V:Rv):List (List Sc):=match V.fd with
 | false=>wordsV (g1 V) 0 8 (txV (lstT V.m V.s.mg))
 | true=>bif (V.m.v V.p.mg.toNat).bg&&!xB (V.p.c.getD 3 []) 0 then wordsV (g2 V) 0 32 (txV ((V.m.v V.p.mg.toNat).t.drop ((V.m.v V.p.mg.toNat).t.length - 8))) else g2 V
theorem nums_size (xs:List Int):(strOfNums xs).size=xs.length:=by
 unfold strOfNums
 show (List.toArray _).size=_
 simp
theorem ln_size (V:Rv):(lnS V).size≤1000000:=by
 unfold lnS line0
 rw [ByteArray.size_append,ByteArray.size_append,nums_size]
 show 1+3+4≤1000000
 omega
theorem wdA_in {G:List (List Sc)} {c:Int} {t:ByteArray} {A:Prop} (hc:0≤c∧c<40) (ht:t.size≤1000000) (h:A):wdA G 0 c t A:=⟨⟨rfl,⟨by omega,by omega⟩,hc,ht⟩,h⟩
theorem eqG_in {V:Rv} {A:Prop} (h:A):eqG V V A:=⟨rfl,rfl,rfl,rfl,h⟩
theorem last_in {V:Rv} {g:Int} {f:List Int→Bool→Prop} (hV:V.m.good) (hg:1≤g∧g≤8) (h:f (bif (V.m.v g.toNat).bg then (V.m.v g.toNat).t else []) (V.m.v g.toNat).bg):lastA V g f:=by
 unfold lastA rdyM
 rw [V.bk_eq hV.far,hV.bk]
 refine ⟨⟨rfl,hV.ok⟩,⟨rfl,hg,hV⟩,?_⟩
 cases hb:(V.m.v g.toNat).bg with
 | true=>rw [hb] at h; exact sT rfl (eqG_in h)
 | false=>rw [hb] at h; exact sF rfl (eqG_in h)
theorem lst_in {V:Rv} (h:SOk V) (g:Int):(lstT V.m g).length≤1000000∧∀ y∈lstT V.m g,0≤y∧y<256:=by
 have ht:=h.g.txt g.toNat
 unfold lstT
 cases (V.m.v g.toNat).bg with
 | true=>exact ⟨by show (V.m.v g.toNat).t.length≤_; omega,h.tb _⟩
 | false=>exact ⟨Nat.zero_le _,fun y hy=>(List.not_mem_nil hy).elim⟩
theorem gd_in {V:Rv} {R:Out→Prop} (h:SOk V) (hR:R (oGd V (screenV V))):gdT V R:=by
  have hl:=ln_size V
  unfold gdT
  unfold screenV at hR
  cases hf:V.fd with
  | false=>
    rw [hf] at hR
    have hR:R (oGd V (wordsV (g1 V) 0 8 (txV (lstT V.m V.s.mg)))):=hR
    have ht:=lst_in h V.s.mg
    refine sT rfl (last_in h.g (h.ms hf) ⟨⟨rfl,h.s⟩,wdA_in ⟨by omega,by omega⟩ hl ⟨⟨rfl,ht.1,ht.2⟩,wdA_in ⟨by omega,by omega⟩ ?_ hR⟩⟩)
    rw [txV_size]
    exact ht.1
  | true=>
    rw [hf] at hR
    refine sF rfl ⟨⟨rfl,h.f,h.c⟩,⟨rfl,h.s⟩,wdA_in ⟨by omega,by omega⟩ hl (last_in h.g (h.mp hf) ?_)⟩
    have ht:=h.g.txt V.p.mg.toNat
    have h8:=h.t8 V.p.mg.toNat
    have hb:=h.tb V.p.mg.toNat
    unfold fdA
    generalize (V.m.v V.p.mg.toNat).t=t at *
    cases hbg:(V.m.v V.p.mg.toNat).bg with
    | false=>rw [hbg] at hR; exact hR
    | true=>
      rw [hbg] at hR h8
      have h8:=h8 rfl
      have hw:w64 ((t.length:Int) - 8)=((t.length - 8:Nat):Int):=by show IntKind.i64.wrap _=_; rw [IntKind.wrap_i64]; omega
      cases hc:xB (V.p.c.getD 3 []) 0 with
      | true=>rw [hc] at hR; exact sF rfl hR
      | false=>
        rw [hc] at hR
        have hR:R (oGd V (wordsV (g2 V) 0 32 (txV (t.drop (t.length - 8))))):=hR
        refine sT rfl ?_
        show drA t _
        unfold drA
        rw [hw]
        have e:((t.length - 8:Nat):Int).toNat=t.length - 8:=by omega
        rw [e,List.take_length]
        refine sT (decide_eq_true (by omega)) (sT (decide_eq_true (by omega)) ⟨⟨rfl,by rw [List.length_drop]; omega,fun y hy=>hb y (List.mem_of_mem_drop hy)⟩,wdA_in ⟨by omega,by omega⟩ ?_ hR⟩)
        rw [txV_size,List.length_drop]
        omega
noncomputable def tGrd:Con:=fun args regs=>match args with
 | [.c (.p 0 0 0)]=>onV regs fun V=>.must (SOk V) (.ret (oGd V (screenV V)))
 | _=>.fail
attribute [local irreducible] t_grd in
theorem kGrd:Known Tryz.prog GL 26 tGrd:=by
  refine k_grd.less fun args regs R h=>?_
  unfold tGrd at h
  split at h
  case h_2=>exact h.elim
  obtain ⟨V,rfl,hV,hs,h⟩:=rv.onV_elim h
  have hg:=gd_in hs h
  cases hf:V.fd with
  | false=>
    have e:V=Rv.wf V false:=by unfold Rv.wf; rw [← hf]
    rw [e] at hg ⊢
    exact (Box.of_eq (gd_f V R) hg).out
  | true=>
    have e:V=Rv.wf V true:=by unfold Rv.wf; rw [← hf]
    rw [e] at hg ⊢
    exact (Box.of_eq (gd_t V R) hg).out
end Go.Proofs.YthknkidbonfbnaaGreatDoor.gr
end
section
namespace Go.Proofs.YthknkidbonfbnaaGreatDoor.fi
open Go.Proofs.YthknkidbonfbnaaGreatDoor.sto (sT sF Ky Sp kyP kyNC)
open Go.Proofs.YthknkidbonfbnaaGreatDoor.ac (Pg pgZ)
open Go Go.Nx Go.Proofs.YthknkidbonfbnaaGreatDoor.pk Go.Proofs.YthknkidbonfbnaaGreatDoor.mac Go.Proofs.YthknkidbonfbnaaGreatDoor.bm Go.Proofs.YthknkidbonfbnaaGreatDoor.rv
open Go.Proofs.YthknkidbonfbnaaGreatDoor.gr (tGrd kGrd SOk screenV)
set_option maxRecDepth 100000
noncomputable abbrev f_fi:=Tryz.f4
noncomputable def c_fi:FuncId→Option Con:=conOf [(20,tF19),(8,num.tNumV),(21,tNewV),(22,tPl),(12,tByN),(24,tRpkN),(23,tRkey),(26,tGrd),(25,tStat0),(27,hd.tSamePT)]
theorem kc_fi:∀ f T,c_fi f=some T→Known Tryz.prog GL f T:=(Knowns.cons kF19 (.cons (known_gl num.kNumV) (.cons kNewV (.cons kPl (.cons kByN (.cons kRpkN (.cons kRkey (.cons kGrd (.cons kStat0 (.cons hd.kSamePT .nil)))))))))).get
noncomputable def X_fi:Cx:={P:=Tryz.prog,con:=c_fi,glob:=GL,m:=0,loops:=[]}
noncomputable def lf0:St→Tr (NExit × St):=unroll X_fi 0 [0,1,2,3,9,11,13,14,15] [0,1,2,3,9,11,13,14] (bodyLoop f_fi 0) 4
noncomputable def lf2:St→Tr (NExit × St):=unroll X_fi 2 [1,2,9,11,13,14,16] [1,9,11,13] (bodyLoop f_fi 2) 4
noncomputable def t_fi:Con:=fun args regs=>if regs.length=0 then nfun Tryz.prog GL c_fi [(0,[0,1,2,3,9,11,13,14,15],lf0),(2,[1,2,9,11,13,14,16],lf2)] f_fi args regs else .fail
theorem k_fi:Known Tryz.prog GL 4 t_fi:=known_loops 0 Tryz.func4 rfl (by kernel_rfl) mixed kc_fi (LAll.two (i1:=0) (i2:=2) (b1:=bodyLoop f_fi 0) (b2:=bodyLoop f_fi 2) (by kernel_rfl) rfl (by decide)
 (unroll_ok (X:=X_fi) kc_fi mixed (LAll.none (by kernel_rfl)) [0,1,2,3,9,11,13,14,15] [0,1,2,3,9,11,13,14] 4)
 (unroll_ok (X:=X_fi) kc_fi mixed (LAll.none (by kernel_rfl)) [1,2,9,11,13,14,16] [1,9,11,13] 4))
end Go.Proofs.YthknkidbonfbnaaGreatDoor.fi
end
section
namespace Go.Proofs.YthknkidbonfbnaaGreatDoor.fi
open Go.Proofs.YthknkidbonfbnaaGreatDoor.sto (sT sF Ky Sp kyP kyNC)
open Go.Proofs.YthknkidbonfbnaaGreatDoor.ac (Pg pgZ)
open Go Go.Nx Go.Proofs.YthknkidbonfbnaaGreatDoor.pk Go.Proofs.YthknkidbonfbnaaGreatDoor.mac Go.Proofs.YthknkidbonfbnaaGreatDoor.bm Go.Proofs.YthknkidbonfbnaaGreatDoor.rv
open Go.Proofs.YthknkidbonfbnaaGreatDoor.gr (tGrd kGrd SOk screenV)
set_option maxRecDepth 100000
noncomputable def oBl (b:Bool):Out:=⟨.v (.c (.b b)),[]⟩
noncomputable def bkA (V:Rv):Prop:=inV V=inV V.bk∧V.bk.m.ok
noncomputable def kyK (V:Rv) (x:Int) (A:Rv→Prop):Prop:=bkA V∧(([NV.c (.p 0 0 0),.c (.i .i64 x)]=[NV.c (.p 0 0 0),.c (.i .i64 x)]∧V.bk.p.lk.length=6∧V.bk.s.ok∧V.bk.m.good)∧A (V.bk.key x))
def pg6:List Int:=[0,1,2,3,4,7]
def dk (k:Int) (T:List Int):Dv:=⟨1,1,k,0,0,[],T,[],[]⟩
noncomputable def ky3 (V:Rv) (k:Int) (A:Rv→Prop):Prop:=kyK V (1 % 3+1) fun V=>kyK V (shrv .i64 (plP k) 4) fun V=>kyK V (bits .and .i64 (plP k) 15) A
noncomputable def pk2 (V:Rv) (k:Int) (T:List Int) (A:Rv→Prop):Prop:=pkK V (dk k T) (pkK (V.bk.pk (dk k T)) (dk 5 T) (A ((V.bk.pk (dk k T)).bk.pk (dk 5 T))))
noncomputable def ansF (V W:Rv) (k:Int) (R:Out→Prop):Prop:=
 sel V.fd ((V.p.mg=1 % 3+1∧V.p.pn=plP k∧V.p.sb=plS 0)∧sel ((V.m.st.L.length:Int)==1) (sel (gr.xI ((screenV V).getD 0 []) 0==80) (sel (gr.xI ((screenV V).getD 1 []) 0==IntKind.i64.wrap (48+(1 % 3+1))) (sel (!W.fd) (sel (W.s.mg==8) (R (oBl true)) (R (oBl false))) (R (oBl false))) (R (oBl false))) (R (oBl false))) (R (oBl false))) (R (oBl false))
noncomputable def stA (V:Rv) (A:Rv→Prop):Prop:=bkA V∧((V.bk.s.sub=false∧V.bk.s.ds=[])∧A V.bk)
noncomputable def endF (V:Rv) (k o:Int) (R:Out→Prop):Prop:=stA V fun V=>bkA V∧(SOk V.bk∧kyK V.bk 8 fun W=>kyK W 8 fun W=>((0:Int)<10∧(10:Int)<4611686018427387904)∧kyK W (o % 10) fun W=>stA W fun W=>ansF V W k R)
noncomputable def fiT (n:Int) (T:List Int) (R:Out→Prop) (rest:Int→Prop):Prop:=sel (decide ((T.length:Int) > 32)) (R (oBl true)) (((0:Int)<6∧(6:Int)<4611686018427387904)∧sel (decide (0≤n % 6)) (sel (decide (n % 6<6)) (sel (decide (0+(n % 6).toNat<6))
 ([NV.c (.i .i64 5)]=[NV.c (.i .i64 5)]∧([NV.c (.i .i64 1),.c (.i .i64 (pg6.getD (0+(n % 6).toNat) 0)),.c (.i .i64 0)]=[NV.c (.i .i64 1),.c (.i .i64 (pg6.getD (0+(n % 6).toNat) 0)),.c (.i .i64 0)]∧rest (pg6.getD (0+(n % 6).toNat) 0))) False) False) False)
theorem fi_0 (n o:Int) (T:List Int) (R:Out→Prop):(t_fi [.c (.i .i64 n),.c (.i .i64 o),.c (.b false),.c (.l .u8 T)] []).run R=fiT n T R fun k=>ky3 (rvN 5) k fun V=>pk2 V k T fun V=>endF V k o R:=by kernel_rfl
theorem fi_1 (n o:Int) (T:List Int) (R:Out→Prop):(t_fi [.c (.i .i64 n),.c (.i .i64 o),.c (.b true),.c (.l .u8 T)] []).run R=fiT n T R fun k=>pk2 (rvN 5) k T fun V=>ky3 V k fun V=>endF V k o R:=by kernel_rfl
end Go.Proofs.YthknkidbonfbnaaGreatDoor.fi
end
section
namespace Go.Proofs.YthknkidbonfbnaaGreatDoor.fi
open Go.Proofs.YthknkidbonfbnaaGreatDoor.sto (sT sF Ky Sp kyP kyNC)
open Go.Proofs.YthknkidbonfbnaaGreatDoor.ac (Pg pgZ)
open Go Go.Nx Go.Proofs.YthknkidbonfbnaaGreatDoor.pk Go.Proofs.YthknkidbonfbnaaGreatDoor.mac Go.Proofs.YthknkidbonfbnaaGreatDoor.bm Go.Proofs.YthknkidbonfbnaaGreatDoor.rv
open Go.Proofs.YthknkidbonfbnaaGreatDoor.gr (tGrd kGrd SOk screenV wordsV wdV wdC wdN lnS g2 pageV blC KC)
set_option maxRecDepth 100000
noncomputable def okB (V:Rv):List Int→Bool
 | []=>true
 | k::l=>(decide (V.p.lk.length=6)&&(decide (V.s.ds.length≤2)&&decide (V.s.su.length≤3)))&&okB (V.key k) l
noncomputable def keysV (V:Rv) (l:List Int):Rv:=l.foldl Rv.key V
noncomputable def l3 (k:Int):List Int:=[1 % 3+1,shrv .i64 (plP k) 4,bits .and .i64 (plP k) 15]
noncomputable def dsV (k:Int) (T:List Int):List Dv:=[dk k T,dk 5 T]
noncomputable def keyOk (W:Rv):Bool:=!W.s.sub&&(W.s.ds.isEmpty&&(!W.fd&&W.s.mg==8))
noncomputable def finF (V:Rv) (k:Int):Bool:=!V.s.sub&&(V.s.ds.isEmpty&&(V.fd&&(V.p.mg==2&&(V.p.pn==plP k&&(V.p.sb==plS 0&&((V.m.st.L.length:Int)==1&&(decide (V.p.c.length=11)&&(decide (V.p.ex.length≤208)&&(V.s.mg==2 &&
 ((List.range 10).all fun x=>okB V [8,8,Int.ofNat x]&&keyOk (keysV V [8,8,Int.ofNat x])))))))))))
noncomputable def chk0 (k:Int) (T:List Int):Bool:=okB (rvN 5) (l3 k)&&(okKsB (keysV (rvN 5) (l3 k)) (dsV k T)&&finF ((keysV (rvN 5) (l3 k)).pks (dsV k T)) k)
noncomputable def chk1 (k:Int) (T:List Int):Bool:=okKsB (rvN 5) (dsV k T)&&(okB ((rvN 5).pks (dsV k T)) (l3 k)&&finF (keysV ((rvN 5).pks (dsV k T)) (l3 k)) k)
theorem c0_0 (T:List Int):chk0 0 T=true:=by kernel_rfl
theorem c0_1 (T:List Int):chk0 1 T=true:=by kernel_rfl
theorem c0_2 (T:List Int):chk0 2 T=true:=by kernel_rfl
theorem c0_3 (T:List Int):chk0 3 T=true:=by kernel_rfl
theorem c0_4 (T:List Int):chk0 4 T=true:=by kernel_rfl
theorem c0_7 (T:List Int):chk0 7 T=true:=by kernel_rfl
theorem c1_0 (T:List Int):chk1 0 T=true:=by kernel_rfl
theorem c1_1 (T:List Int):chk1 1 T=true:=by kernel_rfl
theorem c1_2 (T:List Int):chk1 2 T=true:=by kernel_rfl
theorem c1_3 (T:List Int):chk1 3 T=true:=by kernel_rfl
theorem c1_4 (T:List Int):chk1 4 T=true:=by kernel_rfl
theorem c1_7 (T:List Int):chk1 7 T=true:=by kernel_rfl
theorem set_hit {α:Type} {xs:List α} {k:Nat} {y d:α} (h:k<xs.length):(xs.set k y).getD k d=y:=by
 rw [List.getD_eq_getElem?_getD,List.getElem?_set_self h]
 rfl
theorem set_miss {α:Type} {xs:List α} {k j:Nat} {y d:α} (h:k≠j):(xs.set k y).getD j d=xs.getD j d:=by
 rw [List.getD_eq_getElem?_getD,List.getD_eq_getElem?_getD,List.getElem?_set_ne h]
theorem wd_miss (r c:Nat) (t:ByteArray) {j:Nat}:∀ (n k:Nat) (G:List (List Sc)),j<r * 40+(c+k)→(wdV r c t n k G).getD j []=G.getD j []
 | 0,_,_,_=>rfl
 | n+1,k,G,h=>(wd_miss r c t n (k+1) _ (by omega)).trans (set_miss (by omega))
theorem wd_hit (r c:Nat) (t:ByteArray) {j:Nat}:∀ (n k:Nat) (G:List (List Sc)),k≤j→j<k+n→r * 40+(c+j)<G.length→(wdV r c t n k G).getD (r * 40+(c+j)) []=wdC (byteAt t j)
  | 0,k,G,h1,h2,_=>absurd h2 (by omega)
  | n+1,k,G,h1,h2,h3=>by
    show (wdV r c t n (k+1) (G.set (r * 40+(c+k)) (wdC (byteAt t k)))).getD _ []=_
    by_cases e:j=k
    · subst e
      rw [wd_miss r c t n (j+1) _ (by omega)]
      exact set_hit h3
    · exact wd_hit r c t n (k+1) _ (by omega) (by omega) (by rw [List.length_set]; exact h3)
theorem page_len (p:Pg) (re mi:Bool):40≤(pageV p re mi).length:=by
  have hG:=gr.rwsG_len p
  show 40≤(gr.outR (gr.flF p.c) re mi (gr.rwsG p) 0++(gr.outV (gr.flF p.c) re mi (gr.rwsG p) 24 1).flatten).length
  rw [List.length_append]
  have h:(gr.outR (gr.flF p.c) re mi (gr.rwsG p) 0).length=40:=by
    unfold gr.outR
    rw [List.length_map]
    cases gr.blV (gr.flF p.c) 0 with
    | true=>rfl
    | false=>
      show (gr.gRow (gr.rwsG p) 0).length=40
      unfold gr.gRow
      simp [hG]
  omega
theorem ln_0 (p:Int):byteAt (line0 2 p) 0=80:=by kernel_rfl
theorem ln_1 (p:Int):byteAt (line0 2 p) 1=50:=by kernel_rfl
theorem ln_sz (m p:Int):(line0 m p).size=8:=by
 unfold line0
 rw [ByteArray.size_append,ByteArray.size_append,gr.nums_size]
 rfl
theorem g2_at (V:Rv) {j:Nat} (h:j<8):(g2 V).getD j []=wdC (byteAt (lnS V) j):=by
 have hl:=page_len V.p V.s.rv V.s.mx
 have hs:(lnS V).size=8:=ln_sz _ _
 have hn:wdN 0 (lnS V)=8:=by unfold wdN; rw [hs]; rfl
 have e:g2 V=wdV 0 0 (lnS V) 8 0 (pageV V.p V.s.rv V.s.mx):=by
  show wdV 0 0 (lnS V) (wdN 0 (lnS V)) 0 _=_
  rw [hn]
 rw [e]
 have:=wd_hit 0 0 (lnS V) (j:=j) 8 0 (pageV V.p V.s.rv V.s.mx) (by omega) (by omega) (by omega)
 rw [show 0 * 40+(0+j)=j by omega] at this
 exact this
theorem screen_at {V:Rv} (hf:V.fd=true) {j:Nat} (h:j<8):(screenV V).getD j []=wdC (byteAt (lnS V) j):=by
  unfold screenV
  rw [hf]
  show (bif (V.m.v V.p.mg.toNat).bg&&!gr.xB (V.p.c.getD 3 []) 0 then wordsV (g2 V) 0 32 (gr.txV ((V.m.v V.p.mg.toNat).t.drop ((V.m.v V.p.mg.toNat).t.length - 8))) else g2 V).getD j []=_
  cases (V.m.v V.p.mg.toNat).bg&&!gr.xB (V.p.c.getD 3 []) 0 with
  | false=>exact g2_at V h
  | true=>
    show (wdV 0 32 _ _ 0 (g2 V)).getD j []=_
    rw [wd_miss 0 32 _ _ 0 _ (by omega)]
    exact g2_at V h
end Go.Proofs.YthknkidbonfbnaaGreatDoor.fi
end
section
namespace Go.Proofs.YthknkidbonfbnaaGreatDoor.fi
open Go.Proofs.YthknkidbonfbnaaGreatDoor.sto (sT sF Ky Sp kyP kyNC)
open Go.Proofs.YthknkidbonfbnaaGreatDoor.ac (Pg pgZ)
open Go Go.Nx Go.Proofs.YthknkidbonfbnaaGreatDoor.pk Go.Proofs.YthknkidbonfbnaaGreatDoor.mac Go.Proofs.YthknkidbonfbnaaGreatDoor.bm Go.Proofs.YthknkidbonfbnaaGreatDoor.rv
open Go.Proofs.YthknkidbonfbnaaGreatDoor.gr (tGrd kGrd SOk screenV wordsV wdV wdC wdN lnS g2 pageV blC KC)
set_option maxRecDepth 100000
structure Gd (V:Rv):Prop where
 g:V.m.good
 t:txM V.m
theorem Gd.key {V:Rv} (h:Gd V) (k:Int):Gd (V.key k):=⟨key_good h.g k,tx_key h.t k⟩
theorem Gd.pk {V:Rv} (h:Gd V) (d:Dv):Gd (V.pk d):=⟨pk_good h.g d,tx_pk h.t d⟩
theorem gd0:Gd (rvN 5):=⟨mcN_good (by decide) (by decide),tx_new 5⟩
theorem kyK_in {V:Rv} {x:Int} {l:List Int} {A:Rv→Prop} (h:Gd V) (hk:okB V (x::l)=true) (hA:okB (V.key x) l=true→A (V.key x)):kyK V x A:=by
 unfold okB at hk
 rw [Bool.and_eq_true,Bool.and_eq_true,Bool.and_eq_true] at hk
 unfold kyK bkA
 rw [V.bk_eq h.g.far]
 exact ⟨⟨rfl,h.g.ok⟩,⟨rfl,of_decide_eq_true hk.1.1,⟨of_decide_eq_true hk.1.2.1,of_decide_eq_true hk.1.2.2⟩,h.g⟩,hA hk.2⟩
theorem ky3_in {V:Rv} {k:Int} {A:Rv→Prop} (h:Gd V) (hk:okB V (l3 k)=true) (hA:Gd (keysV V (l3 k))→A (keysV V (l3 k))):ky3 V k A:=
 kyK_in h hk fun hk=>kyK_in (h.key _) hk fun hk=>kyK_in ((h.key _).key _) hk fun _=>hA (((h.key _).key _).key _)
theorem pk2_in {V:Rv} {k:Int} {T:List Int} {A:Rv→Prop} (h:Gd V) (hk:okKsB V (dsV k T)=true) (hA:Gd (V.pks (dsV k T))→A (V.pks (dsV k T))):pk2 V k T A:=by
 obtain ⟨k1,k2,_⟩:=okKs_of hk
 have h1:=h.pk (dk k T)
 unfold pk2
 rw [V.bk_eq h.g.far,Rv.bk_eq _ h1.g.far]
 exact pkK_in h.g k1 (pkK_in h1.g k2 (hA (h1.pk _)))
theorem stA_in {V:Rv} {A:Rv→Prop} (h:Gd V) (hs:V.s.sub=false∧V.s.ds=[]) (hA:A V):stA V A:=by
 unfold stA bkA
 rw [V.bk_eq h.g.far]
 exact ⟨⟨rfl,h.g.ok⟩,hs,hA⟩
theorem all10 {f:Nat→Bool} (h:(List.range 10).all f=true) (o:Int):f (o % 10).toNat=true:=List.all_eq_true.1 h _ (List.mem_range.2 (by omega))
theorem end_in {V:Rv} {k:Int} (o:Int) {R:Out→Prop} (h:Gd V) (hf:finF V k=true) (hR:R (oBl true)):endF V k o R:=by
 unfold finF at hf
 rw [Bool.and_eq_true,Bool.and_eq_true,Bool.and_eq_true,Bool.and_eq_true,Bool.and_eq_true,Bool.and_eq_true,Bool.and_eq_true,Bool.and_eq_true,Bool.and_eq_true,Bool.and_eq_true] at hf
 obtain ⟨h1,h2,h3,h4,h5,h6,h7,h8,h9,h10,h11⟩:=hf
 have h1:V.s.sub=false:=by cases hs:V.s.sub with | true=>rw [hs] at h1; cases h1 | false=>rfl
 have h2:=List.isEmpty_iff.1 h2
 have h4:=eq_of_beq h4
 have h10:=eq_of_beq h10
 have hx:=all10 h11 o
 rw [Bool.and_eq_true] at hx
 have ex:Int.ofNat (o % 10).toNat=o % 10:=by show (((o % 10).toNat:Nat):Int)=_; omega
 rw [ex] at hx
 obtain ⟨x1,x2⟩:=hx
 unfold keyOk at x2
 rw [Bool.and_eq_true,Bool.and_eq_true,Bool.and_eq_true] at x2
 obtain ⟨y1,y2,y3,y4⟩:=x2
 have hfit:V.p.ex.length≤208:=of_decide_eq_true h9
 have hmp:1≤V.p.mg∧V.p.mg≤8:=by rw [h4]; exact ⟨by decide,by decide⟩
 have hS:SOk V:={g:=h.g,s:=⟨h1,h2⟩,c:=of_decide_eq_true h8,f:=hfit,ms:=fun hc=>(by rw [h3] at hc; cases hc),mp:=fun _=>hmp,tb:=fun k=>(h.t k).1,t8:=fun k=>(h.t k).2}
 have e0:=screen_at h3 (j:=0) (by omega)
 have e1:=screen_at h3 (j:=1) (by omega)
 have el:lnS V=line0 2 V.s.pn:=by unfold lnS; rw [h10]
 rw [el,ln_0] at e0
 rw [el,ln_1] at e1
 unfold endF
 refine stA_in h ⟨h1,h2⟩ ?_
 show bkA V∧(SOk V.bk∧_)
 unfold bkA
 rw [V.bk_eq h.g.far]
 refine ⟨⟨rfl,h.g.ok⟩,hS,?_⟩
 refine kyK_in h x1 fun x1=>kyK_in (h.key _) x1 fun x1=>⟨⟨by decide,by decide⟩,kyK_in ((h.key _).key _) x1 fun _=>?_⟩
 refine stA_in (((h.key _).key _).key _) ⟨?_,List.isEmpty_iff.1 y2⟩ ?_
 ·have y1:(!(keysV V [8,8,o % 10]).s.sub)=true:=y1
  cases hs:(keysV V [8,8,o % 10]).s.sub with
  | true=>rw [hs] at y1; cases y1
  | false=>exact hs
 ·have y3:(!(keysV V [8,8,o % 10]).fd)=true:=y3
  have y4:((keysV V [8,8,o % 10]).s.mg==8)=true:=y4
  show ansF V (keysV V [8,8,o % 10]) k R
  unfold ansF
  refine sT h3 ⟨⟨h4,eq_of_beq h5,eq_of_beq h6⟩,sT h7 (sT ?_ (sT ?_ (sT y3 (sT y4 hR))))⟩
  ·rw [e0]; rfl
  ·rw [e1]; rfl
theorem pg_cases (n:Int):∃ k,(k=0∨k=1∨k=2∨k=3∨k=4∨k=7)∧pg6.getD (0+(n % 6).toNat) 0=k:=by
 have key:∀ j<6,(pg6.getD (0+j) 0=0∨pg6.getD (0+j) 0=1∨pg6.getD (0+j) 0=2∨pg6.getD (0+j) 0=3∨pg6.getD (0+j) 0=4∨pg6.getD (0+j) 0=7):=by decide
 exact ⟨_,key _ (by omega),rfl⟩
theorem fiT_in {n:Int} {T:List Int} {R:Out→Prop} {rest:Int→Prop} (hR:R (oBl true)) (h:∀ k,(k=0∨k=1∨k=2∨k=3∨k=4∨k=7)→rest k):fiT n T R rest:=by
 unfold fiT
 by_cases hT:(T.length:Int) > 32
 ·exact sT (decide_eq_true hT) hR
 ·obtain ⟨k,hk,e⟩:=pg_cases n
  rw [e]
  exact sF (decide_eq_false hT) ⟨⟨by decide,by decide⟩,sT (decide_eq_true (by omega)) (sT (decide_eq_true (by omega)) (sT (decide_eq_true (by omega)) ⟨rfl,rfl,h k hk⟩))⟩
theorem c0_all {k:Int} (T:List Int) (h:k=0∨k=1∨k=2∨k=3∨k=4∨k=7):chk0 k T=true:=by
 rcases h with rfl | rfl | rfl | rfl | rfl | rfl
 ·exact c0_0 T
 ·exact c0_1 T
 ·exact c0_2 T
 ·exact c0_3 T
 ·exact c0_4 T
 ·exact c0_7 T
theorem c1_all {k:Int} (T:List Int) (h:k=0∨k=1∨k=2∨k=3∨k=4∨k=7):chk1 k T=true:=by
 rcases h with rfl | rfl | rfl | rfl | rfl | rfl
 ·exact c1_0 T
 ·exact c1_1 T
 ·exact c1_2 T
 ·exact c1_3 T
 ·exact c1_4 T
 ·exact c1_7 T
theorem in_0 (n o:Int) (T:List Int) {R:Out→Prop} (hR:R (oBl true)):fiT n T R fun k=>ky3 (rvN 5) k fun V=>pk2 V k T fun V=>endF V k o R:=by
 refine fiT_in hR fun k hk=>?_
 have h:=c0_all T hk
 unfold chk0 at h
 rw [Bool.and_eq_true,Bool.and_eq_true] at h
 exact ky3_in gd0 h.1 fun g1=>pk2_in g1 h.2.1 fun g2=>end_in o g2 h.2.2 hR
theorem in_1 (n o:Int) (T:List Int) {R:Out→Prop} (hR:R (oBl true)):fiT n T R fun k=>pk2 (rvN 5) k T fun V=>ky3 V k fun V=>endF V k o R:=by
 refine fiT_in hR fun k hk=>?_
 have h:=c1_all T hk
 unfold chk1 at h
 rw [Bool.and_eq_true,Bool.and_eq_true] at h
 exact pk2_in gd0 h.1 fun g1=>ky3_in g1 h.2.1 fun g2=>end_in o g2 h.2.2 hR
attribute [local irreducible] t_fi in
theorem fi_yes (n o:Int) (a:Bool) (T:List Int):Holds (t_fi [.c (.i .i64 n),.c (.i .i64 o),.c (.b a),.c (.l .u8 T)] []) fun q=>q.res=.v (.c (.b true)):=by
 cases a with
 | false=>exact ⟨Box.out (Box.of_eq (fi_0 n o T _) (in_0 n o T rfl))⟩
 | true=>exact ⟨Box.out (Box.of_eq (fi_1 n o T _) (in_1 n o T rfl))⟩
def shsFi:List Sh:=[.i .i64,.i .i64,.b,.row .u8]
theorem fi_law (xs:List NV) (h:R2 ShOk shsFi xs):Holds (t_fi xs []) fun o=>o.res=.v (.c (.b true)):=by
  cases h with
  | cons h1 h=>
    cases h with
    | cons h2 h=>
      cases h with
      | cons h3 h=>
        cases h with
        | cons h4 h=>
          cases h
          cases h1 with
          | @i _ n _=>
            cases h2 with
            | @i _ o _=>
              cases h3 with
              | @b a=>
                cases h4 with
                | @row _ T hT=>exact fi_yes n o a T
end Go.Proofs.YthknkidbonfbnaaGreatDoor.fi
end
