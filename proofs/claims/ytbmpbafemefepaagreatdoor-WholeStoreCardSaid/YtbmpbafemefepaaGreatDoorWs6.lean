/-
  Joined: BmC, BmD, BmE, LsZ, SvTz, SvOz, SvUz, SvQz, BmH, BmI, BmJ, BmG, BmK, AqN3, AqN4, AqN5, NxA, NxB, NxC, RvB, RvC, RvD, RvE, RvF, RvG, BmF, KeA, KeB, KeC, KeD, GrA, GrB, GrC, GrD, GrE, GrF, GrG, GrH, GrI, GrJ, GrK, WfA, SuC, GrL, GrM, GrN, TwA, TuA, TuB, TuC, TuD, TuE, TuF, TuG, TuH, TwS, FiA, TiA, WsI, SgA, SgB, SgC, ScA, ScB, ScC, ScD, ScGl, ScE, ScF, PrA, PrB, PrC, VnA, VnB, VnC, VnD, VnW, WsA, WsB.
-/
import Derived.Test.YtbmpbafemefepaaGreatDoorWs5
import Derived.Lib.BytesEntry
import Derived.Lib.Strings
import Derived.WalkKit
import Derived.Test.YtbmpbafemefepaaGreatDoorRows
import Derived.Shelf.Strings.BuilderK
import Derived.BigCall
set_option maxRecDepth 100000
set_option linter.unusedVariables false
namespace Go.Proofs.YtbmpbafemefepaaGreatDoor
namespace bm
open sto (sT sF)
open pge (Hx)
open Go Go.Nx pk ln hd lb sv
def right (m p s:Int):Prop:=(1≤m∧m≤8)∧(0≤p∧p≤255)∧0≤s∧bits .andNot .i64 s 16255=0
theorem adr_all:∀ g<8,∀ r<32,0≤adr (Int.ofNat g+1) (Int.ofNat r)∧adr (Int.ofNat g+1) (Int.ofNat r)<16:=by decide +kernel
theorem adr_in {m r:Int} (hm:1≤m∧m≤8) (hr:0≤r∧r<32):e16 (adr m r):=by
 have:=adr_all (m - 1).toNat (by omega) r.toNat (by omega)
 have e1:Int.ofNat (m - 1).toNat+1=m:=by show (((m - 1).toNat:Nat):Int)+1=m; omega
 have e2:Int.ofNat r.toNat=r:=by show ((r.toNat:Nat):Int)=r; omega
 rw [e1,e2] at this
 exact this
theorem m6_in {p s b:Int} {A:Prop} (hp:0≤p∧p≤255) (hb:0≤b∧b<8) (h:A):m6 p s b A:=by
 have c1:e16 (aI p 15):=by rw [aI_15]; exact ⟨by omega,by omega⟩
 have c2:e16 (shrv .i64 p 4):=by rw [sh_4]; exact ⟨by omega,by omega⟩
 have c3:e16 (aI s 15):=by rw [aI_15]; exact ⟨by omega,by omega⟩
 have c4:e16 (nb3 s (aI b 1)):=by rw [aI_1,nb3_eq _ _ (by omega)]; exact ⟨by omega,by omega⟩
 have c5:e16 (nb4 s):=by rw [nb4_eq]; exact ⟨by omega,by omega⟩
 have c6:e16 (nb5 s (shrv .i64 b 1)):=by rw [sh_1,nb5_eq _ _ (by omega)]; exact ⟨by omega,by omega⟩
 exact ⟨c1,c2,c3,c4,c5,c6,h⟩
theorem zz2_in {n m:Nat} {A:Prop} (h:n+m≤10000) (hA:A):zz2 n m A:=by
 unfold zz2
 rw [bytesU]
 exact sT (decide_eq_true (by omega)) (sT (decide_eq_true (by omega)) hA)
theorem hdD_len (h:Hx) (all:Int) (xs:List Int):(hdD h all xs).length=8+xs.length:=by
 unfold hdD
 rw [List.length_append]
 rfl
theorem hdT_eq (h:Hx) (all:Int) (xs:List Int):hdT h all xs=hdD h all xs:=by
 unfold hdT
 rw [← hdD_len h all xs,List.take_length]
noncomputable def hbV (h:Hx) (xs:List Int):List Int:=pkB h.mg 0 (hdD h (alV h 11) xs)
attribute [local irreducible] zz2 in
theorem hbI_in {h:Hx} {all:Int} {xs:List Int} {R:Out→Prop} (hr:right h.mg h.pn h.sb) (hl:xs.length=32) (hR:R (oPr (.l .u8 (pkB h.mg 0 (hdD h all xs))) 0)):hbI h all xs R:=by
 have ha:0≤bits .and .i64 all 7∧bits .and .i64 all 7<8:=by
  have e:bits .and .i64 all 7=all % 8:=and_mask64 all 3 (by decide)
  rw [e]
  omega
 have k3:e16 (bits .and .i64 (shrv .i64 all 3) 15):=by
  have e:bits .and .i64 (shrv .i64 all 3) 15=(shrv .i64 all 3) % 16:=and_mask64 _ 4 (by decide)
  rw [e]
  exact ⟨by omega,by omega⟩
 have k7:e16 (bits .and .i64 (shrv .i64 all 7) 15):=by
  have e:bits .and .i64 (shrv .i64 all 7) 15=(shrv .i64 all 7) % 16:=and_mask64 _ 4 (by decide)
  rw [e]
  exact ⟨by omega,by omega⟩
 have hd:=hdD_len h all xs
 have hp:(pkB h.mg 0 (hdD h all xs)).length=2+(hdD h all xs).length:=by unfold pkB; rw [List.length_append]; rfl
 have h40:8+xs.length≤10000:=by omega
 have h41:0+(8+xs.length)≤(hdD h all xs).length:=by omega
 have h42:2+(hdD h all xs).length≤10000:=by omega
 have h43:e16 (adr h.mg 0):=adr_in hr.1 ⟨by decide,by decide⟩
 have h44:e16 0:=⟨by decide,by decide⟩
 unfold hbI
 rw [hdT_eq]
 refine m6_in hr.2.1 ha (And.intro k3 (And.intro k7 ?_))
 refine zz2_in (n:=8) (m:=xs.length) h40 ?_
 refine sT (decide_eq_true h41) (And.intro h43 (And.intro h44 ?_))
 exact zz2_in (n:=2) (m:=(hdD h all xs).length) h42 (And.intro hp.symm hR)
noncomputable def tHB:Con:=fun args regs=>match args,regs with
 | [.ag [.i _ mg,.i _ pn,.i _ sb,.b c0,.b c1,.b c2,.b c3,.b c4,.b c5,.b c6,.b c7,.b c8,.b c9,.b c10,.i _ op],.c (.l _ xs)],[]=>
   .must (args=[.ag (Hx.nc ⟨mg,pn,sb,c0,c1,c2,c3,c4,c5,c6,c7,c8,c9,c10,op⟩),.c (.l .u8 xs)]∧right mg pn sb∧xs.length=32) (.ret (oPr (.l .u8 (hbV ⟨mg,pn,sb,c0,c1,c2,c3,c4,c5,c6,c7,c8,c9,c10,op⟩ xs)) 0))
 | _,_=>.fail
attribute [local irreducible] t_hbC in
theorem kHB:Known Tryz.prog GL 38 tHB:=by
 refine k_hbC.less fun args regs R h=>?_
 unfold tHB at h
 split at h
 case h_2=>exact h.elim
 rename_i _ mg _ pn _ sb c0 c1 c2 c3 c4 c5 c6 c7 c8 c9 c10 _ op _ xs
 obtain ⟨⟨h1,hr,hl⟩,h⟩:=h
 rw [h1]
 refine (Box.of_eq (hbc_tree ⟨mg,pn,sb,c0,c1,c2,c3,c4,c5,c6,c7,c8,c9,c10,op⟩ xs R) ?_).out
 unfold hbT
 exact sT (decide_eq_true hr.1.1) (sT (decide_eq_true hr.1.2) (sT (decide_eq_true hr.2.1.1) (sT (decide_eq_true hr.2.1.2) (sT (decide_eq_true hr.2.2.1) (sF (by rw [Bool.not_eq_false',beq_iff_eq]; exact hr.2.2.2) (sF (by rw [bne_eq_false_iff_eq]; omega) ⟨rfl,hbI_in hr hl h⟩))))))
def pgs8:List Int:=[0,1,2,35,153,255,26,16]
def sub4:List Int:=[0,1,2,16255]
def plP (b:Int):Int:=pgs8.getD (b % 8).toNat 0
def plS (c:Int):Int:=sub4.getD (c % 4).toNat 0
def i83 (n:Int) (l:Nat) (A:Prop):Prop:=sel (decide (0≤n)) (sel (decide (n<(l:Int))) (sel (decide (0+n.toNat<l)) A False) False) False
theorem pl_tree (a b c:Int) (R:Out→Prop):(t_pl0 [.c (.i .i64 a),.c (.i .i64 b),.c (.i .i64 c)] []).run R =
 (((0:Int)<3∧(3:Int)<4611686018427387904)∧(((0:Int)<8∧(8:Int)<4611686018427387904)∧i83 (b % 8) 8 (((0:Int)<4∧(4:Int)<4611686018427387904)∧i83 (c % 4) 4
   (R ⟨.v (.ag [.i .i64 (IntKind.i64.wrap (a % 3+1)),.i .i64 (pgs8.getD (0+(b % 8).toNat) 0),.i .i64 (sub4.getD (0+(c % 4).toNat) 0)]),[]⟩)))):=by kernel_rfl
noncomputable def oPl (a b c:Int):Out:=⟨.v (.ag [.i .i64 (a % 3+1),.i .i64 (plP b),.i .i64 (plS c)]),[]⟩
noncomputable def tPl:Con:=fun args regs=>match args,regs with
 | [.c (.i _ a),.c (.i _ b),.c (.i _ c)],[]=>.must (args=[.c (.i .i64 a),.c (.i .i64 b),.c (.i .i64 c)]) (.ret (oPl a b c))
 | _,_=>.fail
theorem i83_in {n:Int} {l:Nat} {A:Prop} (h:0≤n∧n<(l:Int)) (hA:A):i83 n l A:=sT (decide_eq_true h.1) (sT (decide_eq_true h.2) (sT (decide_eq_true (by omega)) hA))
attribute [local irreducible] t_pl0 in
theorem kPl:Known Tryz.prog GL 37 tPl:=by
 refine k_pl0.less fun args regs R h=>?_
 unfold tPl at h
 split at h
 case h_2=>exact h.elim
 rename_i _ a _ b _ c
 obtain ⟨h1,h⟩:=h
 rw [h1]
 refine (Box.of_eq (pl_tree a b c R) ⟨⟨by decide,by decide⟩,⟨by decide,by decide⟩,i83_in ⟨by omega,by show b % 8<8; omega⟩ ⟨⟨by decide,by decide⟩,i83_in ⟨by omega,by show c % 4<4; omega⟩ ?_⟩⟩).out
 have hw:IntKind.i64.wrap (a % 3+1)=a % 3+1:=by rw [IntKind.wrap_i64]; omega
 rw [hw,Nat.zero_add,Nat.zero_add]
 exact h
theorem plP_in (b:Int):0≤plP b∧plP b≤255:=by
 have key:∀ n<8,0≤pgs8.getD n 0∧pgs8.getD n 0≤255:=by decide
 exact key _ (by omega)
theorem pl_right (a b c:Int):right (a % 3+1) (plP b) (plS c):=by
 have key:∀ n<4,0≤sub4.getD n 0∧bits .andNot .i64 (sub4.getD n 0) 16255=0:=by decide +kernel
 have h:=key (c % 4).toNat (by omega)
 exact ⟨⟨by omega,by omega⟩,plP_in b,h.1,h.2⟩
noncomputable abbrev f_by:=Tryz.f16
noncomputable def t_tof:Con:=fun args regs=>nfun Tryz.prog GL (fun _=>Option.none) [] Tryz.f41 args regs
theorem k_tof:Known Tryz.prog GL 41 t_tof:=known_inl Tryz.func41 rfl (by kernel_rfl) mixed con_none (by kernel_rfl)
structure Dv where
 k:Int
 mag:Int
 pg:Int
 sb:Int
 n:Int
 L:List Int
 T:List Int
 W:List Int
 B:List Int
def Dv.nv (d:Dv):NV:=.ag [.i .i64 d.k,.i .i64 d.mag,.i .i64 d.pg,.i .i64 d.sb,.i .i64 d.n,.l .i64 d.L,.l .u8 d.T,.l .u8 d.W,.l .i64 d.B]
noncomputable def cbit (n:Int) (k:Nat):Bool:=bits .and .i64 (shrv .i64 n (Int.ofNat k)) 1==1
noncomputable def hxOf (d:Dv):Hx:=⟨d.mag % 3+1,plP d.pg,plS d.sb,cbit d.n 0,cbit d.n 1,cbit d.n 2,cbit d.n 3,cbit d.n 4,cbit d.n 5,cbit d.n 6,cbit d.n 7,cbit d.n 8,cbit d.n 9,cbit d.n 10,0⟩
def plA (d:Dv):Prop:=[NV.c (.i .i64 d.mag),.c (.i .i64 d.pg),.c (.i .i64 d.sb)]=[NV.c (.i .i64 d.mag),.c (.i .i64 d.pg),.c (.i .i64 d.sb)]
def nmA (m:Int):Prop:=0<m∧m<4611686018427387904
def odA (T:List Int) (n:Int):Prop:=[NV.c (.l .u8 T),.c (.i .i64 n)]=[NV.c (.l .u8 T),.c (.i .i64 n)]∧0<n∧n≤100
noncomputable def opt (n sb:Int):Int:=bits .or .i64 (shlv .i64 (n % 16) 10) (IntKind.i64.wrap ((sb % 5).tdiv 4))
noncomputable def trR (v:Int):List Sc:=[.i (bits .and .i64 v 63),.i (bits .and .i64 (shrv .i64 v 6) 31),.i (bits .and .i64 (shrv .i64 v 11) 127)]
noncomputable def trO (n sb:Int):List (List Sc):=trR (opt n sb)::List.replicate 12 [.i 0,.i 0,.i 0]
noncomputable def cdO (pg:Int):Int:=IntKind.i64.wrap (IntKind.i64.wrap ((pg % 3).tdiv 2) * 3)
noncomputable def trB (mg row cd:Int) (rows:List (List Sc)):List Int:=adr0 mg row::adr1 row::ts.LTg cd rows
theorem cdO_in (pg:Int):0≤cdO pg∧cdO pg≤3:=by
 have key:∀ n<3,0≤IntKind.i64.wrap (IntKind.i64.wrap ((Int.ofNat n).tdiv 2) * 3)∧IntKind.i64.wrap (IntKind.i64.wrap ((Int.ofNat n).tdiv 2) * 3)≤3:=by decide +kernel
 have h:=key (pg % 3).toNat (by omega)
 have e:Int.ofNat (pg % 3).toNat=pg % 3:=by show (((pg % 3).toNat:Nat):Int)=pg % 3; omega
 rw [e] at h
 exact h
theorem okTB_of {mg row cd:Int} (hm:1≤mg∧mg≤8) (hc:0≤cd∧cd≤3) (hr:row=28∨row=29∨row=26):ts.okTB mg row cd=true:=by
 unfold ts.okTB
 rw [decide_eq_true (show 1≤mg∧mg≤8∧0≤cd∧cd≤15 from ⟨hm.1,hm.2,hc.1,by omega⟩)]
 rcases hr with rfl | rfl | rfl <;> rfl
def Dv.fc (d:Dv):List FC:=[.i d.k,.i d.mag,.i d.pg,.i d.sb,.i d.n,.is d.L,.is d.T,.is d.W,.is d.B]
def dvSch:List Part:=[.i .i64,.i .i64,.i .i64,.i .i64,.i .i64,.l .i64,.l .u8,.l .u8,.l .i64]
def ofFc (r:List FC):Dv:=⟨(r.getD 0 (.i 0)).n,(r.getD 1 (.i 0)).n,(r.getD 2 (.i 0)).n,(r.getD 3 (.i 0)).n,(r.getD 4 (.i 0)).n,(r.getD 5 (.i 0)).li,(r.getD 6 (.i 0)).li,(r.getD 7 (.i 0)).li,(r.getD 8 (.i 0)).li⟩
theorem ofFc_fc (d:Dv):ofFc d.fc=d:=rfl
end bm
namespace ls
open Go Go.Nx pk ln hd lb
noncomputable def t_rright:Con:=fun args regs=>nfun Tryz.prog GL (fun _=>Option.none) [] Tryz.f82 args regs
theorem k_rright:Known Tryz.prog GL 82 t_rright:=known_inl Tryz.func82 rfl (by kernel_rfl) mixed con_none (by kernel_rfl)
noncomputable def c_rplaced:FuncId→Option Con:=conOf [(84,tRPut)]
theorem kc_rplaced:∀ f T,c_rplaced f=some T→Known Tryz.prog GL f T:=(Knowns.cons (known_gl kRPut) .nil).get
noncomputable def t_rplaced:Con:=fun args regs=>nfun Tryz.prog GL c_rplaced [] Tryz.f83 args regs
theorem k_rplaced:Known Tryz.prog GL 83 t_rplaced:=known_inl Tryz.func83 rfl (by kernel_rfl) mixed kc_rplaced (by kernel_rfl)
noncomputable def c_rpacked:FuncId→Option Con:=conOf [(84,tRPut)]
theorem kc_rpacked:∀ f T,c_rpacked f=some T→Known Tryz.prog GL f T:=(Knowns.cons (known_gl kRPut) .nil).get
noncomputable def t_rpacked:Con:=fun args regs=>nfun Tryz.prog GL c_rpacked [] Tryz.f40 args regs
theorem k_rpacked:Known Tryz.prog GL 40 t_rpacked:=known_inl Tryz.func40 rfl (by kernel_rfl) mixed kc_rpacked (by kernel_rfl)
theorem step_and {a b:Bool} {A B:Prop} (h:sel (a&&b) A B) {C:Prop} (hC:a=true→sel b A B→C):sel (!a) B C:=by
 cases a with
 | true=>exact selF rfl (hC rfl h)
 | false=>exact selT rfl h
theorem last_and {a:Bool} {A B C:Prop} (h:sel a A B) (hC:a=true→A→C):sel (!a) B C:=by
 cases a with
 | true=>exact selF rfl (hC rfl h)
 | false=>exact selT rfl h
noncomputable def rightB (m p s:Int):Bool:=decide (m ≥ 1)&&(decide (m≤8)&&(decide (p ≥ 0)&&(decide (p≤255)&&(decide (s ≥ 0)&&(bits .andNot .i64 s 16255==0)))))
theorem right_tree (m p s:Int) (R:Out→Prop):(t_rright [.ag [.i .i64 m,.i .i64 p,.i .i64 s]] []).run R =
 sel (decide (m ≥ 1)) (sel (decide (m≤8)) (sel (decide (p ≥ 0)) (sel (decide (p≤255)) (sel (decide (s ≥ 0)) (R (oB (bits .andNot .i64 s 16255==0))) (R (oB false))) (R (oB false))) (R (oB false))) (R (oB false))) (R (oB false)):=by kernel_rfl
noncomputable def tRright:Con:=fun args regs=>match args,regs with
 | [.ag [.i .i64 m,.i .i64 p,.i .i64 s]],[]=>.ret (oB (rightB m p s))
 | _,_=>.fail
theorem kRright:Known Tryz.prog GL 82 tRright:=by
 refine k_rright.less fun args regs R h=>Box.out ?_
 unfold tRright at h
 split at h
 case h_2=>exact h.elim
 rename_i m p s
 have h2:R (oB (rightB m p s)):=h
 clear h
 refine Box.of_eq (right_tree m p s R) ?_
 have a1:=sel_and (R:=fun b=>R (oB b)) h2
 exact sel_thn a1 fun a1=>sel_thn (sel_and (R:=fun b=>R (oB b)) a1) fun a1=>sel_thn (sel_and (R:=fun b=>R (oB b)) a1) fun a1=>sel_thn (sel_and (R:=fun b=>R (oB b)) a1) fun a1=>sel_and (R:=fun b=>R (oB b)) a1
noncomputable def plN (p s b:Int):List Int:=[put (aI p 15),put (shrv .i64 p 4),put (aI s 15),put (nb3 s (aI b 1)),put (nb4 s),put (nb5 s (shrv .i64 b 1))]
def in16 (n:Int):Prop:=0≤n∧n<16
theorem placed_tree (p s b:Int) (R:Out→Prop):(t_rplaced [.c (.i .i64 p),.c (.i .i64 s),.c (.i .i64 b)] []).run R =
 (in16 (aI p 15)∧(in16 (shrv .i64 p 4)∧(in16 (aI s 15)∧(in16 (nb3 s (aI b 1))∧(in16 (nb4 s)∧(in16 (nb5 s (shrv .i64 b 1))∧R ⟨.v (.c (.h 0 0 6)),[some ⟨1,5,.ints .u8 (plN p s b)⟩]⟩)))))):=by kernel_rfl
noncomputable def tRplaced:Con:=fun args regs=>match args,regs with
 | [.c (.i .i64 p),.c (.i .i64 s),.c (.i .i64 b)],[]=>.must (0≤p∧p≤255∧0≤b∧b<8) (.ret ⟨.v (.c (.h 0 0 6)),[some ⟨1,5,.ints .u8 (plN p s b)⟩]⟩)
 | _,_=>.fail
theorem kRplaced:Known Tryz.prog GL 83 tRplaced:=by
 refine k_rplaced.less fun args regs R h=>Box.out ?_
 unfold tRplaced at h
 split at h
 case h_2=>exact h.elim
 rename_i p s b
 have h1:=h.1
 have h2:=h.2
 clear h
 refine Box.of_eq (placed_tree p s b R) ⟨?_,?_,?_,?_,?_,?_,h2⟩
 ·rw [aI_15]; exact ⟨by omega,by omega⟩
 ·rw [sh_4]; exact ⟨by omega,by omega⟩
 ·rw [aI_15]; exact ⟨by omega,by omega⟩
 ·rw [aI_1,nb3_eq _ _ (by omega)]; exact ⟨by omega,by omega⟩
 ·rw [nb4_eq]; exact ⟨by omega,by omega⟩
 ·rw [sh_1,nb5_eq _ _ (by omega)]; exact ⟨by omega,by omega⟩
noncomputable def c_rlbytes:FuncId→Option Con:=conOf [(84,tRPut),(82,tRright),(83,tRplaced),(40,t_rpacked)]
theorem kc_rlbytes:∀ f T,c_rlbytes f=some T→Known Tryz.prog GL f T:=(Knowns.cons (known_gl kRPut) (.cons kRright (.cons kRplaced (.cons k_rpacked .nil)))).get
noncomputable def X_rlbytes:Cx:={P:=Tryz.prog,con:=c_rlbytes,glob:=GL,m:=0,loops:=[]}
noncomputable def t_rlbytes:Con:=fun args regs=>if regs.length=0 then nfun Tryz.prog GL c_rlbytes [(0,[0,3,6,10,11],unroll X_rlbytes 0 [0,3,6,10,11] [0,3,8,9,10] (bodyLoop Tryz.f43 0) 7)] Tryz.f43 args regs else .fail
theorem k_rlbytes:Known Tryz.prog GL 43 t_rlbytes:=known_loops 0 Tryz.func43 rfl (by kernel_rfl) mixed kc_rlbytes (LAll.one (id:=0) (body:=bodyLoop Tryz.f43 0) (by kernel_rfl) rfl (unroll_ok (X:=X_rlbytes) kc_rlbytes mixed (LAll.none (by kernel_rfl)) [0,3,6,10,11] [0,3,8,9,10] 7))
def oRE:Out:=⟨.tu [.c .sn,.c (.i .i64 101)],[]⟩
noncomputable def rbt (mag m:Int):Int:=bits .xor .i64 (mag.tmod 8) (m.tmod 8)
noncomputable def radr (mag:Int):Int:=bits .or .i64 (mag.tmod 8) 8
noncomputable def rlN (mag code ctl m0 p0 s0 m1 p1 s1 m2 p2 s2 m3 p3 s3 m4 p4 s4 m5 p5 s5:Int):List Int:=put code::(plN p0 s0 (rbt mag m0)++(plN p1 s1 (rbt mag m1)++(plN p2 s2 (rbt mag m2)++(plN p3 s3 (rbt mag m3)++(plN p4 s4 (rbt mag m4)++(plN p5 s5 (rbt mag m5)++[put ctl,0,0]))))))
theorem rlbytes_tree (mag code ctl m0 p0 s0 m1 p1 s1 m2 p2 s2 m3 p3 s3 m4 p4 s4 m5 p5 s5:Int) (R:Out→Prop):(t_rlbytes [.c (.i .i64 mag),.c (.i .i64 code),.ag [.i .i64 m0,.i .i64 p0,.i .i64 s0,.i .i64 m1,.i .i64 p1,.i .i64 s1,.i .i64 m2,.i .i64 p2,.i .i64 s2,.i .i64 m3,.i .i64 p3,.i .i64 s3,.i .i64 m4,.i .i64 p4,.i .i64 s4,.i .i64 m5,.i .i64 p5,.i .i64 s5],.c (.i .i64 ctl)] []).run R =
 sel (decide (mag<1)) (R oRE) (sel (decide (mag > 8)) (R oRE) (sel (decide (code<0)) (R oRE) (sel (decide (code > 3)) (R oRE) (sel (decide (ctl<0)) (R oRE) (sel (decide (ctl > 15)) (R oRE) (in16 code∧(sel (!rightB m0 p0 s0) (R oRE) ((0≤p0∧p0≤255∧0≤rbt mag m0∧rbt mag m0<8)∧(sel (!rightB m1 p1 s1) (R oRE) ((0≤p1∧p1≤255∧0≤rbt mag m1∧rbt mag m1<8)∧(sel (!rightB m2 p2 s2) (R oRE) ((0≤p2∧p2≤255∧0≤rbt mag m2∧rbt mag m2<8)∧(sel (!rightB m3 p3 s3) (R oRE) ((0≤p3∧p3≤255∧0≤rbt mag m3∧rbt mag m3<8)∧(sel (!rightB m4 p4 s4) (R oRE) ((0≤p4∧p4≤255∧0≤rbt mag m4∧rbt mag m4<8)∧(sel (!rightB m5 p5 s5) (R oRE) ((0≤p5∧p5≤255∧0≤rbt mag m5∧rbt mag m5<8)∧(in16 ctl∧(in16 (radr mag)∧(in16 13∧R ⟨.tu [.c (.h 0 0 42),.c (.i .i64 0)],[some ⟨1,5,.ints .u8 (put (radr mag)::put 13::rlN mag code ctl m0 p0 s0 m1 p1 s1 m2 p2 s2 m3 p3 s3 m4 p4 s4 m5 p5 s5)⟩]⟩))))))))))))))))))))):=by kernel_rfl
noncomputable def okR (mag code ctl m0 p0 s0 m1 p1 s1 m2 p2 s2 m3 p3 s3 m4 p4 s4 m5 p5 s5:Int):Bool:=decide (1≤mag∧mag≤8∧0≤code∧code≤3∧0≤ctl∧ctl≤15)&&(rightB m0 p0 s0&&(rightB m1 p1 s1&&(rightB m2 p2 s2&&(rightB m3 p3 s3&&(rightB m4 p4 s4&&(rightB m5 p5 s5))))))
noncomputable def oRB (mag code ctl m0 p0 s0 m1 p1 s1 m2 p2 s2 m3 p3 s3 m4 p4 s4 m5 p5 s5:Int):Out:=⟨.tu [.c (.h 0 0 42),.c (.i .i64 0)],[some ⟨1,5,.ints .u8 (put (radr mag)::put 13::rlN mag code ctl m0 p0 s0 m1 p1 s1 m2 p2 s2 m3 p3 s3 m4 p4 s4 m5 p5 s5)⟩]⟩
noncomputable def tRLB:Con:=fun args regs=>match args,regs with
 | [.c (.i .i64 mag),.c (.i .i64 code),.ag [.i .i64 m0,.i .i64 p0,.i .i64 s0,.i .i64 m1,.i .i64 p1,.i .i64 s1,.i .i64 m2,.i .i64 p2,.i .i64 s2,.i .i64 m3,.i .i64 p3,.i .i64 s3,.i .i64 m4,.i .i64 p4,.i .i64 s4,.i .i64 m5,.i .i64 p5,.i .i64 s5],.c (.i .i64 ctl)],[]=>.br (okR mag code ctl m0 p0 s0 m1 p1 s1 m2 p2 s2 m3 p3 s3 m4 p4 s4 m5 p5 s5) (.ret (oRB mag code ctl m0 p0 s0 m1 p1 s1 m2 p2 s2 m3 p3 s3 m4 p4 s4 m5 p5 s5)) (.ret oRE)
 | _,_=>.fail
theorem xM_in (mg m:Int):0≤xM mg m∧xM mg m<8:=by
 have e:xM mg m=bits .xor .i64 mg m % 8:=and_mask64 _ 3 (by decide)
 rw [e]
 omega
theorem rbt_all:∀ g<8,∀ m<8,rbt (Int.ofNat g+1) (Int.ofNat m+1)=xM (Int.ofNat g+1) (Int.ofNat m+1):=by decide +kernel
theorem rbt_eq (mg m:Int) (hg:1≤mg∧mg≤8) (hm:1≤m∧m≤8):rbt mg m=xM mg m:=by
 have:=rbt_all (mg - 1).toNat (by omega) (m - 1).toNat (by omega)
 have e1:Int.ofNat (mg - 1).toNat+1=mg:=by show (((mg - 1).toNat:Nat):Int)+1=mg; omega
 have e2:Int.ofNat (m - 1).toNat+1=m:=by show (((m - 1).toNat:Nat):Int)+1=m; omega
 rwa [e1,e2] at this
theorem radr_all:∀ g<8,0≤radr (Int.ofNat g+1)∧radr (Int.ofNat g+1)<16∧put (radr (Int.ofNat g+1))=adr0 (Int.ofNat g+1) 27:=by decide +kernel
theorem radr_in (mg:Int) (hg:1≤mg∧mg≤8):in16 (radr mg)∧put (radr mg)=adr0 mg 27:=by
 have:=radr_all (mg - 1).toNat (by omega)
 have e1:Int.ofNat (mg - 1).toNat+1=mg:=by show (((mg - 1).toNat:Nat):Int)+1=mg; omega
 rw [e1] at this
 exact ⟨⟨this.1,this.2.1⟩,this.2.2⟩
theorem right_in {m p s:Int} (h:rightB m p s=true):(1≤m∧m≤8)∧(0≤p∧p≤255):=by
 unfold rightB at h
 simp only [Bool.and_eq_true,decide_eq_true_eq] at h
 omega
theorem rb_in {mag m p s:Int} (hm:1≤mag∧mag≤8) (h:rightB m p s=true):0≤p∧p≤255∧0≤rbt mag m∧rbt mag m<8:=by
 have hr:=right_in h
 rw [rbt_eq mag m hm hr.1]
 have hx:=xM_in mag m
 omega
theorem rlb_in {mag code ctl m0 p0 s0 m1 p1 s1 m2 p2 s2 m3 p3 s3 m4 p4 s4 m5 p5 s5:Int} {R:Out→Prop} (h:sel (okR mag code ctl m0 p0 s0 m1 p1 s1 m2 p2 s2 m3 p3 s3 m4 p4 s4 m5 p5 s5) (R (oRB mag code ctl m0 p0 s0 m1 p1 s1 m2 p2 s2 m3 p3 s3 m4 p4 s4 m5 p5 s5)) (R oRE)):Box ((t_rlbytes [.c (.i .i64 mag),.c (.i .i64 code),.ag [.i .i64 m0,.i .i64 p0,.i .i64 s0,.i .i64 m1,.i .i64 p1,.i .i64 s1,.i .i64 m2,.i .i64 p2,.i .i64 s2,.i .i64 m3,.i .i64 p3,.i .i64 s3,.i .i64 m4,.i .i64 p4,.i .i64 s4,.i .i64 m5,.i .i64 p5,.i .i64 s5],.c (.i .i64 ctl)] []).run R):=by
 refine Box.of_eq (rlbytes_tree mag code ctl m0 p0 s0 m1 p1 s1 m2 p2 s2 m3 p3 s3 m4 p4 s4 m5 p5 s5 R) ?_
 unfold okR at h
 by_cases hc:1≤mag∧mag≤8∧0≤code∧code≤3∧0≤ctl∧ctl≤15
 ·rw [dT hc,Bool.true_and] at h
  have hm:1≤mag∧mag≤8:=⟨hc.1,hc.2.1⟩
  refine selF (dF (by omega)) (selF (dF (by omega)) (selF (dF (by omega)) (selF (dF (by omega)) (selF (dF (by omega)) (selF (dF (by omega)) ⟨⟨by omega,by omega⟩,?_⟩)))))
  exact step_and h fun hr h=>⟨rb_in hm hr,step_and h fun hr h=>⟨rb_in hm hr,step_and h fun hr h=>⟨rb_in hm hr,step_and h fun hr h=>⟨rb_in hm hr,step_and h fun hr h=>⟨rb_in hm hr,last_and h fun hr h=>⟨rb_in hm hr,⟨by omega,by omega⟩,(radr_in mag hm).1,⟨by decide,by decide⟩,h⟩⟩⟩⟩⟩⟩
 ·rw [dF hc,Bool.false_and] at h
  have h:R oRE:=h
  refine sel_by (fun _=>h) fun h1=>sel_by (fun _=>h) fun h2=>sel_by (fun _=>h) fun h3=>sel_by (fun _=>h) fun h4=>sel_by (fun _=>h) fun h5=>sel_by (fun _=>h) fun h6=>?_
  exact (hc ⟨by omega,by omega,by omega,by omega,by omega,by omega⟩).elim
theorem kRLB:Known Tryz.prog GL 43 tRLB:=by
 refine k_rlbytes.less fun args regs R h=>Box.out ?_
 unfold tRLB at h
 split at h
 case h_2=>exact h.elim
 exact rlb_in h
end ls
namespace sv
open Go Go.Nx pk ln hd lb
theorem byT {x:Int} (h:0≤x∧x<256):∃ m,m<256∧x=Int.ofNat m:=⟨x.toNat,by omega,by show x=((x.toNat:Nat):Int); omega⟩
noncomputable def c_rodd:FuncId→Option Con:=conOf [(138,ones.tOnes)]
theorem kc_rodd:∀ f T,c_rodd f=some T→Known Tryz.prog GL f T:=(Knowns.cons (known_gl ones.kOnes) .nil).get
noncomputable def t_rodd:Con:=fun args regs=>nfun Tryz.prog GL c_rodd [] Tryz.f139 args regs
theorem k_rodd:Known Tryz.prog GL 139 t_rodd:=known_inl Tryz.func139 rfl (by kernel_rfl) mixed kc_rodd (by kernel_rfl)
theorem rodd_tree (b:Int) (R:Out→Prop):(t_rodd [.c (.i .u8 b)] []).run R=((0≤IntKind.i64.wrap b∧IntKind.i64.wrap b<9223372036854775808)∧R (oB ((ones.bl (IntKind.i64.wrap b).toNat:Int).tmod 2==1))):=by kernel_rfl
theorem rodd_all:∀ m<256,ones.par m 8=odd (Int.ofNat m):=by decide +kernel
noncomputable def tROdd:Con:=fun args regs=>match args,regs with
 | [.c (.i .u8 b)],[]=>.must (0≤b∧b<256) (.ret (oB (odd b)))
 | _,_=>.fail
theorem rodd_in {b:Int} (h:0≤b∧b<256):((ones.bl (IntKind.i64.wrap b).toNat:Int).tmod 2==1)=odd b:=by
 obtain ⟨m,hm,rfl⟩:=byT h
 have hw:IntKind.i64.wrap (Int.ofNat m)=Int.ofNat m:=by rw [IntKind.wrap_i64]; show ((m:Int)+_) % _ - _=(m:Int); omega
 rw [hw,show (Int.ofNat m).toNat=m from rfl,← rodd_all m hm]
 have hp:=ones.bl_par 8 m (by omega)
 rw [Int.tmod_eq_emod_of_nonneg (by omega)]
 cases h2:ones.par m 8 with
 | true=>
   rw [h2] at hp
   have hp:ones.bl m % 2=1:=hp
   rw [beq_iff_eq]
   omega
 | false=>
   rw [h2] at hp
   have hp:ones.bl m % 2=0:=hp
   rw [beq_eq_false_iff_ne]
   omega
theorem kROdd:Known Tryz.prog GL 139 tROdd:=by
 refine k_rodd.less fun args regs R h=>Box.out ?_
 unfold tROdd at h
 split at h
 case h_2=>exact h.elim
 rename_i b
 have h1:=h.1
 have h2:R (oB (odd b)):=h.2
 clear h
 refine Box.of_eq (rodd_tree b R) ⟨?_,by rw [rodd_in h1]; exact h2⟩
 rw [IntKind.wrap_i64]
 omega
noncomputable def c_rmk:FuncId→Option Con:=conOf [(139,tROdd)]
theorem kc_rmk:∀ f T,c_rmk f=some T→Known Tryz.prog GL f T:=(Knowns.cons kROdd .nil).get
noncomputable def t_rmk:Con:=fun args regs=>nfun Tryz.prog GL c_rmk [] Tryz.f85 args regs
theorem k_rmk:Known Tryz.prog GL 85 t_rmk:=known_inl Tryz.func85 rfl (by kernel_rfl) mixed kc_rmk (by kernel_rfl)
theorem rmk_tree (c:Int) (R:Out→Prop):(t_rmk [.c (.i .u8 c)] []).run R=((0≤aU c 127∧aU c 127<256)∧sel (odd (aU c 127)) (R ⟨.v (.c (.i .u8 (aU c 127))),[]⟩) (R ⟨.v (.c (.i .u8 (oU (aU c 127) 128))),[]⟩)):=by kernel_rfl
theorem kRMkO:Known Tryz.prog GL 85 tMkO:=by
 refine k_rmk.less fun args regs R h=>Box.out ?_
 unfold tMkO at h
 split at h
 case h_2=>exact h.elim
 rename_i c
 have h2:R ⟨.v (.c (.i .u8 (mkO c))),[]⟩:=h
 clear h
 refine Box.of_eq (rmk_tree c R) ⟨aU_in _ _,?_⟩
 unfold mkO at h2
 cases hc:odd (aU c 127) with
 | true=>rw [hc] at h2; exact selT rfl h2
 | false=>rw [hc] at h2; exact selF rfl h2
noncomputable def X_rturn:Cx:={P:=Tryz.prog,con:=(fun _=>Option.none),glob:=GL,m:=0,loops:=[]}
noncomputable def t_rturn:Con:=fun args regs=>if regs.length=0 then nfun Tryz.prog GL (fun _=>Option.none) [(0,[0,3,4],unroll X_rturn 0 [0,3,4] [3] (bodyLoop Tryz.f88 0) 9)] Tryz.f88 args regs else .fail
theorem k_rturn:Known Tryz.prog GL 88 t_rturn:=known_loops 0 Tryz.func88 rfl (by kernel_rfl) mixed con_none (LAll.one (id:=0) (body:=bodyLoop Tryz.f88 0) (by kernel_rfl) rfl (unroll_ok (X:=X_rturn) con_none mixed (LAll.none (by kernel_rfl)) [0,3,4] [3] 9))
noncomputable def rvE (b:Int):Int:=oU (oU (oU (oU (oU (oU (oU (oU (0) (shlv .u8 (aU (shrv .u8 b 0) 1) 7)) (shlv .u8 (aU (shrv .u8 b 1) 1) 6)) (shlv .u8 (aU (shrv .u8 b 2) 1) 5)) (shlv .u8 (aU (shrv .u8 b 3) 1) 4)) (shlv .u8 (aU (shrv .u8 b 4) 1) 3)) (shlv .u8 (aU (shrv .u8 b 5) 1) 2)) (shlv .u8 (aU (shrv .u8 b 6) 1) 1)) (shlv .u8 (aU (shrv .u8 b 7) 1) 0)
theorem rturn_tree (b:Int) (R:Out→Prop):(t_rturn [.c (.i .u8 b)] []).run R=R ⟨.v (.c (.i .u8 (rvE b))),[]⟩:=by kernel_rfl
theorem rvE_all:∀ m<256,rvE (Int.ofNat m)=rv (Int.ofNat m):=by decide +kernel
theorem kRTurn:Known Tryz.prog GL 88 tTurn:=by
 refine k_rturn.less fun args regs R h=>Box.out ?_
 unfold tTurn at h
 split at h
 case h_2=>exact h.elim
 rename_i b
 have h1:=h.1
 have h2:R ⟨.v (.c (.i .u8 (rv b))),[]⟩:=h.2
 clear h
 refine Box.of_eq (rturn_tree b R) ?_
 obtain ⟨m,hm,rfl⟩:=byT h1
 rw [rvE_all m hm]
 exact h2
noncomputable def t_rtwo:Con:=fun args regs=>nfun Tryz.prog GL (fun _=>Option.none) [] Tryz.f89 args regs
theorem k_rtwo:Known Tryz.prog GL 89 t_rtwo:=known_inl Tryz.func89 rfl (by kernel_rfl) mixed con_none (by kernel_rfl)
noncomputable def twoR (x:Int):Int:=u8i (IntKind.i64.wrap (bits .or .i64 (shlv .i64 (IntKind.i64.wrap ((IntKind.i64.wrap (x.tdiv 10)).tmod 10+1)) 4) (x.tmod 10)+1))
noncomputable def rIf (a b e n o d h m s:Int) (z:ByteArray):Option Reg:=some ⟨10,117,.cells (infC a b e n o d h m s z)⟩
noncomputable abbrev fIB:=Tryz.f44
noncomputable def c_ib:FuncId→Option Con:=conOf [(85,tMkO)]
theorem kc_ib:∀ f T,c_ib f=some T→Known Tryz.prog GL f T:=(Knowns.cons kRMkO .nil).get
noncomputable def X_ib:Cx:={P:=Tryz.prog,con:=c_ib,glob:=GL,m:=0,loops:=[]}
noncomputable def rIu (A:List Int):Option Reg:=some ⟨1,5,.ints .u8 A⟩
noncomputable def sIb (a b e n o d h m s:Int) (z:ByteArray) (A:List Int) (q:Nat) (k:Int):St:={fr:=frame 167 [(1,.v (.c (.p 0 0 0))),(5,.v (.c (.h 1 0 q))),(6,.v (.c (.i .i64 k)))],rg:=[rIf a b e n o d h m s z,rIu A]}
noncomputable def dIb (A:List Int) (q:Nat):St:={fr:=frame 167 [(5,.v (.c (.h 0 0 q)))],rg:=[rIu A]}
noncomputable def xIb (A:List Int) (q:Nat):St:={fr:=frame 167 [(2,.v (.c .sn)),(3,.v (.c (.i .i64 101))),(5,.v (.c (.h 0 0 q)))],rg:=[rIu A]}
noncomputable def signI (a b e n o d h m s:Int) (z:ByteArray) (A:List Int) (q:Nat) (k c:Int) (R:RO→Prop):Prop:=sel (decide (c<32)) (R (.done .ret (xIb A q))) (sel (decide (c > 127)) (R (.done .ret (xIb A q))) (appS q A (R (.next (sIb a b e n o d h m s z (List.take q (List.drop 0 A)++[mkO c]) (q+1) (IntKind.i64.wrap (k+1)))))))
theorem round_ib (a b e n o d h m s:Int) (z:ByteArray) (A:List Int) (q:Nat) (k:Int) (R:RO→Prop):(roundT X_ib 0 [1,5,6] [2,3,5] (bodyLoop fIB 0) (sIb a b e n o d h m s z A q k)).run R =
 sel (decide (k<20)) (sel (decide (k<(z.size:Int))) (sel (decide (0≤k)) (sel (decide (k<(z.size:Int))) (signI a b e n o d h m s z A q k (byteAt z k.toNat) R) False) False) (signI a b e n o d h m s z A q k 32 R)) (R (.done .normal (dIb A q))):=by kernel_rfl
noncomputable def sgs (z:ByteArray) (k r:Nat):List Int:=(List.range r).map fun j=>mkO (txc z (k+j))
theorem sgs_cons (z:ByteArray) (k r:Nat):sgs z k (r+1)=mkO (txc z k)::sgs z (k+1) r:=by
 unfold sgs
 rw [List.range_succ_eq_map,List.map_cons,List.map_map]
 congr 1
 refine List.map_congr_left fun j _=>?_
 show mkO (txc z (k+(j+1)))=mkO (txc z (k+1+j))
 rw [show k+(j+1)=k+1+j by omega]
theorem fst_ge (z:ByteArray):∀ (r k:Nat),(fst z r k).isNone=false→k≤(fst z r k).getD 0
 | 0,_,h=>by cases h
 | r+1,k,h=>by
   have e:fst z (r+1) k=bif badz z k then some k else fst z r (k+1):=rfl
   rw [e] at h ⊢
   cases hb:badz z k with
   | true=>exact Nat.le_refl _
   | false=>
     rw [hb] at h
     have:=fst_ge z r (k+1) h
     show k≤(fst z r (k+1)).getD 0
     omega
noncomputable def pIb:List Pat:=pats 167 [(1,.p 0 0 0),(5,.h 1 0),(6,.i .i64)]
def rIbp:List RPat:=[.cells 10 117 [.i .i64,.i .i64,.i .i64,.i .i64,.i .i64,.i .i64,.i .i64,.i .i64,.i .i64,.s],.ints 1 5 .u8]
noncomputable def lIb:List Leaf × List (List Leaf)→Tr (NExit × St):=fun x=>match x with
 | ([.n q,.i k],[[.i _,.i _,.i _,.i _,.i _,.i _,.i _,.i _,.i _,.s z],[.l A]])=>.must (A.length=q∧(q:Int)<1000+k∧0≤k∧k≤20) (.br (fst z (20 - k.toNat) k.toNat).isNone (.ret (.normal,dIb (A++sgs z k.toNat (20 - k.toNat)) (q+(20 - k.toNat)))) (.ret (.ret,xIb (A++sgs z k.toNat ((fst z (20 - k.toNat) k.toNat).getD 0 - k.toNat)) (q+((fst z (20 - k.toNat) k.toNat).getD 0 - k.toNat)))))
 | _=>.fail
def muIb:List Leaf × List (List Leaf)→Nat:=fun x=>match x with
 | ([.n _,.i k],_)=>(20 - k).toNat
 | _=>0
theorem mk_ib (a b e n o d h m s:Int) (z:ByteArray) (A:List Int) (q:Nat) (k:Int):mkSt pIb rIbp ([.n q,.i k],[[.i a,.i b,.i e,.i n,.i o,.i d,.i h,.i m,.i s,.s z],[.l A]])=sIb a b e n o d h m s z A q k:=by kernel_rfl
noncomputable def outI (z:ByteArray) (A:List Int) (q k:Nat) (R:NExit × St→Prop):Prop:=sel (fst z (20 - k) k).isNone (R (.normal,dIb (A++sgs z k (20 - k)) (q+(20 - k)))) (R (.ret,xIb (A++sgs z k ((fst z (20 - k) k).getD 0 - k)) (q+((fst z (20 - k) k).getD 0 - k))))
def mIb (A:List Int) (q:Nat) (k:Int):Prop:=A.length=q∧(q:Int)<1000+k∧0≤k∧k≤20
theorem lIb_inv {x:List Leaf × List (List Leaf)} {R:NExit × St→Prop} (hx:(lIb x).run R):∃ (a b e n o d h m s:Int) (z:ByteArray) (A:List Int) (q:Nat) (k:Int),x=([.n q,.i k],[[.i a,.i b,.i e,.i n,.i o,.i d,.i h,.i m,.i s,.s z],[.l A]])∧mIb A q k∧outI z A q k.toNat R:=by
 unfold lIb at hx
 split at hx
 case h_2=>exact hx.elim
 exact ⟨_,_,_,_,_,_,_,_,_,_,_,_,_,rfl,hx.1,hx.2⟩
theorem step_ib {z:ByteArray} {A:List Int} {q k:Nat} {R:NExit × St→Prop} (hk:k<20) (h:outI z A q k R):(badz z k=true→R (.ret,xIb A q))∧(badz z k=false→outI z (A++[mkO (txc z k)]) (q+1) (k+1) R):=by
 unfold outI at h
 obtain ⟨r,hr⟩:∃ r,20 - k=r+1:=⟨20 - k - 1,by omega⟩
 have er:20 - (k+1)=r:=by omega
 rw [hr] at h
 have eu:fst z (r+1) k=bif badz z k then some k else fst z r (k+1):=rfl
 rw [eu] at h
 refine ⟨fun hb=>?_,fun hb=>?_⟩
 ·rw [hb] at h
  have h:R (.ret,xIb (A++sgs z k (k - k)) (q+(k - k))):=h
  rw [Nat.sub_self] at h
  have e:A++sgs z k 0=A:=List.append_nil A
  rw [e] at h
  exact h
 ·rw [hb] at h
  have h:sel (fst z r (k+1)).isNone (R (.normal,dIb (A++sgs z k (r+1)) (q+(r+1)))) (R (.ret,xIb (A++sgs z k ((fst z r (k+1)).getD 0 - k)) (q+((fst z r (k+1)).getD 0 - k)))):=h
  unfold outI
  rw [er]
  cases hn:(fst z r (k+1)).isNone with
  | true=>
    rw [hn] at h
    have h:R (.normal,dIb (A++sgs z k (r+1)) (q+(r+1))):=h
    rw [sgs_cons] at h
    refine selT rfl ?_
    rw [List.append_assoc,show q+1+r=q+(r+1) by omega]
    exact h
  | false=>
    rw [hn] at h
    have hg:=fst_ge z r (k+1) hn
    have h:R (.ret,xIb (A++sgs z k ((fst z r (k+1)).getD 0 - k)) (q+((fst z r (k+1)).getD 0 - k))):=h
    generalize (fst z r (k+1)).getD 0=j at h hg
    obtain ⟨t,ht⟩:∃ t,j - k=t+1:=⟨j - k - 1,by omega⟩
    rw [ht,sgs_cons] at h
    refine selF rfl ?_
    rw [show j - (k+1)=t by omega,List.append_assoc,show q+1+t=q+(t+1) by omega]
    exact h
theorem loop_ib:LOk Tryz.prog GL 0 0 (bodyLoop fIB 0) (sumP pIb rIbp lIb):=by
 refine sumP_ok (X:=X_ib) kc_ib mixed (LAll.none (by kernel_rfl)) [1,5,6] [2,3,5] _ _ _ muIb ?_
 intro x R hx
 obtain ⟨a,b,e,n,o,d,h,m,s,z,A,q,k,rfl,h1,h2⟩:=lIb_inv hx
 clear hx
 have hA:=h1.1
 have hq:=h1.2.1
 have hk0:=h1.2.2.1
 have hk:=h1.2.2.2
 clear h1
 rw [mk_ib,round_ib]
 refine sel_by (fun hlt=>?_) fun hge=>?_
 ·have w2:IntKind.i64.wrap (k+1)=k+1:=by rw [IntKind.wrap_i64]; omega
  have ekn:(k+1).toNat=k.toNat+1:=by omega
  obtain ⟨hb,hg⟩:=step_ib (k:=k.toNat) (by omega) h2
  have ea:List.take q (List.drop 0 A)=A:=by rw [List.drop_zero,List.take_of_length_le (by omega)]
  have go:badz z k.toNat=false→∃ y,sIb a b e n o d h m s z (List.take q (List.drop 0 A)++[mkO (txc z k.toNat)]) (q+1) (IntKind.i64.wrap (k+1))=mkSt pIb rIbp y∧muIb y<muIb ([.n q,.i k],[[.i a,.i b,.i e,.i n,.i o,.i d,.i h,.i m,.i s,.s z],[.l A]])∧(lIb y).run R:=fun hc=>by
   rw [ea,w2]
   refine ⟨([.n (q+1),.i (k+1)],[[.i a,.i b,.i e,.i n,.i o,.i d,.i h,.i m,.i s,.s z],[.l (A++[mkO (txc z k.toNat)])]]),(mk_ib ..).symm,by show (20 - (k+1)).toNat<(20 - k).toNat; omega,⟨by rw [List.length_append]; show A.length+1=q+1; omega,?_,by omega,by omega⟩,?_⟩
   ·omega
   ·have:=hg hc
    rw [← ekn] at this
    exact this
  have app:∀ X:Prop,X→appS q A X:=fun X hX=>selT (dT (by omega)) (selT (dT (by omega)) (selT (dT (by omega)) hX))
  refine sel_by (fun hz=>selT (dT hk0) (selT (dT hz) ?_)) fun hz=>?_
  ·have ez:txc z k.toNat=byteAt z k.toNat:=by unfold txc; rw [dT (by omega)]; rfl
   unfold badz at hb go
   rw [ez] at hb go
   exact bad_in hb fun hc=>app _ (go hc)
  ·have ez:txc z k.toNat=32:=by unfold txc; rw [dF (by omega)]; rfl
   unfold badz at hb go
   rw [ez] at hb go
   exact bad_in hb fun hc=>app _ (go hc)
 ·have hk2:k.toNat=20:=by omega
  rw [hk2] at h2
  have h2:R (.normal,dIb (A++[]) (q+0)):=h2
  rw [List.append_nil] at h2
  exact h2
noncomputable def c_rib:FuncId→Option Con:=conOf [(82,ls.tRright),(84,tRPut),(83,ls.tRplaced),(88,tTurn),(89,t_rtwo),(85,tMkO),(40,ls.t_rpacked)]
theorem kc_rib:∀ f T,c_rib f=some T→Known Tryz.prog GL f T:=(Knowns.cons ls.kRright (.cons (known_gl kRPut) (.cons ls.kRplaced (.cons kRTurn (.cons k_rtwo (.cons kRMkO (.cons ls.k_rpacked .nil))))))).get
noncomputable def t_rib:Con:=fun args regs=>if regs.length=0 then nfun Tryz.prog GL c_rib [(0,[1,5,6],sumP pIb rIbp lIb)] Tryz.f44 args regs else .fail
theorem k_rib:Known Tryz.prog GL 44 t_rib:=known_loops 0 Tryz.func44 rfl (by kernel_rfl) mixed kc_rib (LAll.one (id:=0) (body:=bodyLoop Tryz.f44 0) (by kernel_rfl) rfl loop_ib)
noncomputable def oI1:Out:=⟨.tu [.c .sn,.c (.i .i64 101)],[]⟩
noncomputable def oIY (L:List Int):Out:=⟨.tu [.c (.h 0 0 42),.c (.i .i64 0)],[some ⟨1,5,.ints .u8 L⟩]⟩
noncomputable def md9R (neg:Bool) (n o d h mi s:Int):List Int:=[rv (u8i (shrv .i64 n 8)),rv (u8i n),ofB neg o,u8i (IntKind.i64.wrap (IntKind.i64.wrap (d.tdiv 10000)+1)),twoR ((IntKind.i64.wrap (d.tdiv 100)).tmod 100),twoR (d.tmod 100),twoR h,twoR mi,twoR s,0,0,0,0]
noncomputable def hdR (neg:Bool) (a b e n o d h mi s:Int):List Int:=put 0::(ls.plN b e (a.tmod 8)++md9R neg n o d h mi s)
noncomputable def LR (neg:Bool) (a b e n o d h mi s:Int) (z:ByteArray):List Int:=21::234::(hdR neg a b e n o d h mi s++sgs z 0 20)
noncomputable def ibE (neg:Bool) (a b e n o d h mi s:Int) (z:ByteArray) (R:Out→Prop):Prop:=ls.in16 0∧((0≤b∧b≤255∧0≤a.tmod 8∧a.tmod 8<8)∧(mBy (u8i (shrv .i64 n 8))∧(mBy (u8i n)∧(((hdR neg a b e n o d h mi s).length=20∧((20:Nat):Int)<1000+0∧0≤(0:Int)∧(0:Int)≤20)∧sel (fst z 20 0).isNone (ls.in16 0∧(ls.in16 15∧R (oIY (LR neg a b e n o d h mi s z)))) (R oI1)))))
theorem rib_tree (a b e n o d h mi s:Int) (z:ByteArray) (R:Out→Prop):(t_rib [.ag (infC a b e n o d h mi s z)] []).run R =
 sel (!ls.rightB a b e) (R oI1) (sel (decide (n<0)) (R oI1) (sel (decide (n > 65535)) (R oI1) (sel (decide (o < -31)) (R oI1) (sel (decide (o > 31)) (R oI1) (sel (decide (d<0)) (R oI1) (sel (decide (d > 99999)) (R oI1) (sel (decide (h<0)) (R oI1) (sel (decide (h > 23)) (R oI1) (sel (decide (mi<0)) (R oI1) (sel (decide (mi > 59)) (R oI1) (sel (decide (s<0)) (R oI1) (sel (decide (s > 59)) (R oI1) (sel (decide ((z.size:Int) > 20)) (R oI1) (sel (decide (o<0)) (ibE true a b e n o d h mi s z R) (ibE false a b e n o d h mi s z R))))))))))))))):=by kernel_rfl
noncomputable def okIb (a b e n o d h mi s:Int) (z:ByteArray):Bool:=ls.rightB a b e&&(!decide (n<0)&&(!decide (n > 65535)&&(!decide (o < -31)&&(!decide (o > 31)&&(!decide (d<0)&&(!decide (d > 99999)&&(!decide (h<0)&&(!decide (h > 23)&&(!decide (mi<0)&&(!decide (mi > 59)&&(!decide (s<0)&&(!decide (s > 59)&&(!decide ((z.size:Int) > 20)&&(fst z 20 0).isNone)))))))))))))
noncomputable def tRib:Con:=fun args regs=>match args,regs with
 | [.ag [.i .i64 a,.i .i64 b,.i .i64 e,.i .i64 n,.i .i64 o,.i .i64 d,.i .i64 h,.i .i64 mi,.i .i64 s,.s z]],[]=>.br (okIb a b e n o d h mi s z) (.ret (oIY (LR (decide (o<0)) a b e n o d h mi s z))) (.ret oI1)
 | _,_=>.fail
theorem ibE_in {neg:Bool} {a b e n o d h mi s:Int} {z:ByteArray} {R:Out→Prop} (hb:0≤b∧b≤255∧0≤a.tmod 8∧a.tmod 8<8) (hR:sel (fst z 20 0).isNone (R (oIY (LR neg a b e n o d h mi s z))) (R oI1)):ibE neg a b e n o d h mi s z R:=by
 refine ⟨⟨by decide,by decide⟩,hb,u8i_in _,u8i_in _,⟨rfl,by decide,by decide,by decide⟩,?_⟩
 cases hn:(fst z 20 0).isNone with
 | true=>rw [hn] at hR; exact selT rfl ⟨⟨by decide,by decide⟩,⟨by decide,by decide⟩,hR⟩
 | false=>rw [hn] at hR; exact selF rfl hR
theorem rib_in {a b e n o d h mi s:Int} {z:ByteArray} {R:Out→Prop} (hR:sel (okIb a b e n o d h mi s z) (R (oIY (LR (decide (o<0)) a b e n o d h mi s z))) (R oI1)) :
  sel (!ls.rightB a b e) (R oI1) (sel (decide (n<0)) (R oI1) (sel (decide (n > 65535)) (R oI1) (sel (decide (o < -31)) (R oI1) (sel (decide (o > 31)) (R oI1) (sel (decide (d<0)) (R oI1) (sel (decide (d > 99999)) (R oI1) (sel (decide (h<0)) (R oI1) (sel (decide (h > 23)) (R oI1) (sel (decide (mi<0)) (R oI1) (sel (decide (mi > 59)) (R oI1) (sel (decide (s<0)) (R oI1) (sel (decide (s > 59)) (R oI1) (sel (decide ((z.size:Int) > 20)) (R oI1) (sel (decide (o<0)) (ibE true a b e n o d h mi s z R) (ibE false a b e n o d h mi s z R))))))))))))))):=by
 unfold okIb at hR
 cases hr:ls.rightB a b e with
 | false=>rw [hr] at hR; exact selT rfl hR
 | true=>
   rw [hr] at hR
   have hp:=ls.right_in hr
   have ht:a.tmod 8=a % 8:=Int.tmod_eq_emod_of_nonneg (by omega)
   have hb:0≤b∧b≤255∧0≤a.tmod 8∧a.tmod 8<8:=by rw [ht]; omega
   refine selF rfl (nb_in hR fun hR=>nb_in hR fun hR=>nb_in hR fun hR=>nb_in hR fun hR=>nb_in hR fun hR=>nb_in hR fun hR=>nb_in hR fun hR=>nb_in hR fun hR=>nb_in hR fun hR=>nb_in hR fun hR=>nb_in hR fun hR=>nb_in hR fun hR=>nb_in hR fun hR=>?_)
   cases ho:decide (o<0) with
   | true=>rw [ho] at hR; exact selT rfl (ibE_in hb hR)
   | false=>rw [ho] at hR; exact selF rfl (ibE_in hb hR)
theorem kRib:Known Tryz.prog GL 44 tRib:=by
 refine k_rib.less fun args regs R h=>Box.out ?_
 unfold tRib at h
 split at h
 case h_2=>exact h.elim
 exact Box.of_eq (rib_tree _ _ _ _ _ _ _ _ _ _ R) (rib_in h)
end sv
namespace bh
open sto (sT sF)
open pge (Hx)
open Go Go.Nx pk ln hd lb sv bm
noncomputable abbrev fCopy:=Tryz.f45
noncomputable def XCopy:Cx:={P:=Tryz.prog,con:=fun _=>Option.none,glob:=[],m:=0,loops:=[]}
noncomputable def sCopy (xs ys:List Int) (n:Nat) (i:Int):St:={fr:=frame 22 [(0,.v (.c (.l .u8 xs))),(3,.v (.c (.h 0 0 n))),(4,.v (.c (.i .i64 i)))],rg:=[some ⟨1,5,.ints .u8 ys⟩]}
noncomputable def dCopy (ys:List Int) (n:Nat):St:={fr:=frame 22 [(3,.v (.c (.h 0 0 n)))],rg:=[some ⟨1,5,.ints .u8 ys⟩]}
theorem round_copy (xs ys:List Int) (n:Nat) (i:Int) (R:RO→Prop):(roundT XCopy 0 [0,3,4] [3] (bodyLoop fCopy 0) (sCopy xs ys n i)).run R =
 sel (decide (i<(xs.length:Int))) (sel (decide (0≤i)) (sel (decide (i<(xs.length:Int))) (sel (decide (i.toNat<xs.length)) (sel (decide (0+n≤ys.length)) (sel (decide ((n+1) * bytesT Tryz.prog 5≤140737488355328)) (sel (decide (n+1≤9223372036854775807))
  (R (.next (sCopy xs (List.take n (List.drop 0 ys)++[xs.getD i.toNat 0]) (n+1) (IntKind.i64.wrap (i+1))))) False) False) False) False) False) False) (R (.done .normal (dCopy ys n))):=by kernel_rfl
noncomputable def pCopy:List Pat:=pats 22 [(0,.l .u8),(3,.h 0 0),(4,.i .i64)]
def rCopy:List RPat:=[.ints 1 5 .u8]
noncomputable def lCopy:List Leaf × List (List Leaf)→Tr (NExit × St):=fun a=>match a with
 | ([.l xs,.n n,.i i],[[.l ys]])=>.must (n=ys.length∧i=(ys.length:Int)∧ys.length≤xs.length∧xs.length≤1000000∧ys=xs.take ys.length) (.ret (.normal,dCopy xs xs.length))
 | _=>.fail
def muCopy:List Leaf × List (List Leaf)→Nat:=fun a=>match a with
 | ([.l xs,.n _,.i i],_)=>((xs.length:Int) - i).toNat
 | _=>0
theorem loop_copy:LOk Tryz.prog [] 0 0 (bodyLoop fCopy 0) (sumP pCopy rCopy lCopy):=by
 refine sumP_ok (X:=XCopy) con_none mixed (LAll.none (by kernel_rfl)) [0,3,4] [3] _ _ _ muCopy ?_
 rintro ⟨a,b⟩ R hh
 unfold lCopy at hh
 split at hh
 case h_2=>exact hh.elim
 rename_i xs n i ys he
 cases he
 have h1:=hh.1
 have h2:R (.normal,dCopy xs xs.length):=hh.2
 clear hh
 obtain ⟨rfl,rfl,hl,hm,hy⟩:=h1
 show (roundT XCopy 0 [0,3,4] [3] (bodyLoop fCopy 0) (sCopy xs ys ys.length ys.length)).run _
 rw [round_copy,bytes1]
 have et:((ys.length:Nat):Int).toNat=ys.length:=by simp
 rw [et]
 refine sel_by (fun hlt=>?_) fun hge=>?_
 ·have hx:ys.length<xs.length:=by omega
  have hw:IntKind.i64.wrap ((ys.length:Int)+1)=(((ys.length+1:Nat)):Int):=by rw [IntKind.wrap_i64]; omega
  refine selT (dT (by omega)) (selT (dT hlt) (selT (dT hx) (selT (dT (by omega)) (selT (dT (by omega)) (selT (dT (by omega)) ?_)))))
  have ey:List.take ys.length (List.drop 0 ys)=ys:=by rw [List.drop_zero,List.take_length]
  have eg:xs.getD ys.length 0=xs[ys.length]:=by rw [List.getD_eq_getElem?_getD,List.getElem?_eq_getElem hx]; rfl
  rw [ey,hw]
  have elen:(ys++[xs.getD ys.length 0]).length=ys.length+1:=by simp
  refine ⟨([.l xs,.n (ys.length+1),.i ((ys.length+1:Nat):Int)],[[.l (ys++[xs.getD ys.length 0])]]),rfl,by show ((xs.length:Int) - ((ys.length+1:Nat):Int)).toNat<((xs.length:Int) - (ys.length:Int)).toNat; omega,⟨elen.symm,by rw [elen],by rw [elen]; omega,hm,?_⟩,h2⟩
  rw [elen,eg,List.take_add_one,← hy,List.getElem?_eq_getElem hx]
  rfl
 ·have e:ys.length=xs.length:=by omega
  have e2:ys=xs:=by rw [hy,e,List.take_length]
  rw [e2]
  exact h2
noncomputable def tCopy0:Con:=fun args regs=>if regs.length=0 then nfun Tryz.prog [] (fun _=>Option.none) [(0,[0,3,4],sumP pCopy rCopy lCopy)] fCopy args regs else .fail
theorem kCopy0:Known Tryz.prog [] 45 tCopy0:=known_loops 0 Tryz.func45 rfl (by kernel_rfl) mixed con_none (LAll.one (id:=0) (body:=bodyLoop fCopy 0) (by kernel_rfl) rfl loop_copy)
theorem copy_tree (xs:List Int) (R:Out→Prop):(tCopy0 [.c (.l .u8 xs)] []).run R =
 sel (decide ((xs.length:Int) * ((bytesT Tryz.prog 5:Nat):Int)≤140737488355328)) (sel (decide ((xs.length:Int)≤9223372036854775807))
  ((0=([]:List Int).length∧(0:Int)=(([]:List Int).length:Int)∧([]:List Int).length≤xs.length∧xs.length≤1000000∧[]=xs.take ([]:List Int).length)∧R (oL xs)) False) False:=by kernel_rfl
noncomputable def tCopy:Con:=fun args regs=>match args,regs with
 | [.c (.l .u8 ds)],[]=>.must (ds.length≤1000000) (.ret (oL ds))
 | _,_=>.fail
theorem copy_in {xs:List Int} {R:Out→Prop} (h1:xs.length≤1000000) (h2:R (oL xs)):Box ((tCopy0 [.c (.l .u8 xs)] []).run R):=by
 refine Box.of_eq (copy_tree xs R) ?_
 rw [bytes1]
 exact selT (dT (by omega)) (selT (dT (by omega)) ⟨⟨rfl,rfl,Nat.zero_le _,h1,rfl⟩,h2⟩)
theorem kCopy:Known Tryz.prog [] 45 tCopy:=by
 refine kCopy0.less fun args regs R h=>Box.out ?_
 unfold tCopy at h
 split at h
 case h_2=>exact h.elim
 exact copy_in h.1 h.2
noncomputable def tCpC:Con:=softT [] [0] [(0,0,0,.l .u8 [])] [] 0 tCopy
theorem kCpC:Known Tryz.prog GL 45 tCpC:=(known_gl kCopy).soft [] [0] [(0,0,0,.l .u8 [])] [] 0
noncomputable def c_by:FuncId→Option Con:=conOf [(27,num.tNumV),(37,tPl),(39,tOddB),(38,tHB),(40,t_rpkd),(41,t_tof),(42,ts.tRTBg),(43,ls.tRLB),(44,tRib),(45,tCpC)]
theorem kc_by:∀ f T,c_by f=some T→Known Tryz.prog GL f T:=(Knowns.cons (known_gl num.kNumV) (.cons kPl (.cons kOddB (.cons kHB (.cons k_rpkd (.cons k_tof (.cons ts.kRTBg (.cons ls.kRLB (.cons kRib (.cons kCpC .nil)))))))))).get
noncomputable def X_by:Cx:={P:=Tryz.prog,con:=c_by,glob:=GL,m:=0,loops:=[]}
noncomputable def dReg (d:Dv):Reg:=⟨9,35,.cells d.nv.cells⟩
noncomputable def pReg (x:Int × Int × Int):Reg:=⟨3,40,.cells [.i .i64 x.1,.i .i64 x.2.1,.i .i64 x.2.2]⟩
noncomputable def tReg (rs:List (List Sc)):Reg:=⟨3,112,.recs [.i .i64,.i .i64,.i .i64] rs⟩
noncomputable def ouT:Option (List (List Sc) × Nat)→NC
 | none=>.sn
 | some x=>.h 2 0 x.2
noncomputable def ouTR:Option (List (List Sc) × Nat)→List (Option Reg)
 | none=>[]
 | some x=>[some (tReg x.1)]
noncomputable def s3 (d:Dv) (x:Int × Int × Int) (o:Option (List (List Sc) × Nat)) (i:Int):St:={fr:=frame 179 [(1,.v (.c (.p 0 0 0))),(3,.v (.c (.p 1 0 0))),(7,.v (.c (ouT o))),(8,.v (.c (.i .i64 i)))],rg:=some (dReg d)::some (pReg x)::ouTR o}
noncomputable def d3 (d:Dv) (x:Int × Int × Int) (o:Option (List (List Sc) × Nat)):St:={fr:=frame 179 [(1,.v (.c (.p 0 0 0))),(3,.v (.c (.p 1 0 0))),(7,.v (.c (ouT o)))],rg:=some (dReg d)::some (pReg x)::ouTR o}
noncomputable def r3 (s:St):Tr RO:=roundT X_by 3 [1,3,7,8] [1,3,7] (bodyLoop f_by 3) s
def apT (m:Nat) (A:Prop):Prop:=sel (decide (0+m≤m)) (sel (decide ((m+1) * bytesT Tryz.prog 112≤140737488355328)) (sel (decide (m+1≤9223372036854775807)) A False) False) False
noncomputable def nx3 (d:Dv) (x:Int × Int × Int) (i:Int) (R:RO→Prop) (xs:List (List Sc)) (m:Nat):Prop:=R (.next (s3 d x (some (xs,m)) (IntKind.i64.wrap (i+1))))
theorem r3_0 (d:Dv) (x:Int × Int × Int) (i:Int) (R:RO→Prop):(r3 (s3 d x none i)).run R =
 sel (decide (i<13)) (sel (decide (i<(d.L.length:Int))) (ixU i d.L.length (nx3 d x i R [trR (d.L.getD i.toNat 0)] 1)) (nx3 d x i R [trR 0] 1)) (R (.done .normal (d3 d x none))):=by kernel_rfl
theorem r3_1 (d:Dv) (x:Int × Int × Int) (i:Int) (xs:List (List Sc)) (R:RO→Prop):(r3 (s3 d x (some (xs,xs.length)) i)).run R =
 sel (decide (i<13)) (sel (decide (i<(d.L.length:Int))) (ixU i d.L.length (apT xs.length (nx3 d x i R (List.take xs.length xs++[trR (d.L.getD i.toNat 0)]) (xs.length+1)))) (apT xs.length (nx3 d x i R (List.take xs.length xs++[trR 0]) (xs.length+1)))) (R (.done .normal (d3 d x (some (xs,xs.length))))):=by kernel_rfl
noncomputable def tr3 (L:List Int) (k:Nat):List (List Sc):=(List.range k).map fun j=>trR (L.getD j 0)
theorem tr3_len (L:List Int) (k:Nat):(tr3 L k).length=k:=by unfold tr3; rw [List.length_map,List.length_range]
theorem tr3_succ (L:List Int) (k:Nat):tr3 L (k+1)=tr3 L k++[trR (L.getD k 0)]:=by unfold tr3; rw [List.range_succ,List.map_append]; rfl
theorem getD_z {L:List Int} {k:Nat} (h:¬ k<L.length):L.getD k 0=0:=by
 rw [List.getD_eq_getElem?_getD,List.getElem?_eq_none (by omega)]; rfl
noncomputable def oT (L:List Int):Nat→Option (List (List Sc) × Nat)
 | 0=>none
 | k+1=>some (tr3 L (k+1),k+1)
theorem bytesT3:bytesT Tryz.prog 112=24:=by kernel_rfl
theorem apT_in {m:Nat} {A:Prop} (hm:m≤1000) (h:A):apT m A:=by
 unfold apT
 rw [bytesT3]
 exact sT (decide_eq_true (by omega)) (sT (decide_eq_true (by omega)) (sT (decide_eq_true (by omega)) h))
def rdDP (s:St):Option (Dv × (Int × Int × Int)):=match s.rg with
 | some ⟨_,_,.cells [.i _ k,.i _ mag,.i _ pg,.i _ sb,.i _ n,.l _ L,.l _ T,.l _ W,.l _ B]⟩::some ⟨_,_,.cells [.i _ m,.i _ p,.i _ t]⟩::_=>some (⟨k,mag,pg,sb,n,L,T,W,B⟩,(m,p,t))
 | _=>none
noncomputable def l3 (s:St):Tr (NExit × St):=match rdDP s with
 | some x=>.must (s=s3 x.1 x.2 none 0) (.ret (.normal,d3 x.1 x.2 (some (tr3 x.1.L 13,13))))
 | none=>.fail
structure A3 where
 d:Dv
 x:Int × Int × Int
 k:Nat
noncomputable def h3 (a:A3):St:=s3 a.d a.x (oT a.d.L a.k) (a.k:Int)
def pre3 (a:A3) (R:NExit × St→Prop):Prop:=a.k≤13∧R (.normal,d3 a.d a.x (some (tr3 a.d.L 13,13)))
def nxt3 (a:A3) (R:NExit × St→Prop) (o:RO):Prop:=match o with
 | .next s=>∃ y,s=h3 y∧13 - y.k<13 - a.k∧pre3 y R
 | .done e s=>R (e,s)
theorem r3_in (a:A3) (R:NExit × St→Prop) (h:pre3 a R):Box ((r3 (h3 a)).run (nxt3 a R)):=by
 obtain ⟨d,x,k⟩:=a
 obtain ⟨h1,hR⟩:=h
 simp only at h1 hR
 have hw:IntKind.i64.wrap ((k:Int)+1)=((k+1:Nat):Int):=by rw [IntKind.wrap_i64]; omega
 have nx:∀ xs m,k<13→xs=tr3 d.L (k+1)→m=k+1→nx3 d x (k:Int) (nxt3 ⟨d,x,k⟩ R) xs m:=by
  rintro xs m hk rfl rfl
  unfold nx3
  rw [hw]
  exact ⟨⟨d,x,k+1⟩,rfl,by simp only; omega,by simp only; omega,hR⟩
 match k,h1,hw,nx with
 | 0,h1,hw,nx=>
   have e:tr3 d.L 1=[trR (d.L.getD 0 0)]:=rfl
   refine Box.of_eq (r3_0 d x 0 _) (sT (decide_eq_true (by decide)) ?_)
   by_cases hb:0<d.L.length
   ·exact sT (decide_eq_true (by omega)) (ixU_in ⟨by omega,by omega⟩ (nx _ _ (by decide) (by rw [e]; rfl) rfl))
   ·exact sF (decide_eq_false (by omega)) (nx _ _ (by decide) (by rw [e,getD_z hb]) rfl)
 | k+1,h1,hw,nx=>
   have hl:=tr3_len d.L (k+1)
   have e:=tr3_succ d.L (k+1)
   have ha:h3 ⟨d,x,k+1⟩=s3 d x (some (tr3 d.L (k+1),(tr3 d.L (k+1)).length)) ((k+1:Nat):Int):=by
    show s3 d x (some (tr3 d.L (k+1),k+1)) _=_
    rw [hl]
   rw [ha]
   refine Box.of_eq (r3_1 d x _ _ _) ?_
   by_cases hk:k+1<13
   ·refine sT (decide_eq_true (by omega)) ?_
    rw [List.take_length,hl]
    by_cases hb:k+1<d.L.length
    ·exact sT (decide_eq_true (by omega)) (ixU_in ⟨by omega,by omega⟩ (apT_in (by omega) (nx _ _ hk (by rw [e]; rfl) rfl)))
    ·exact sF (decide_eq_false (by omega)) (apT_in (by omega) (nx _ _ hk (by rw [e,getD_z hb]) rfl))
   ·refine sF (decide_eq_false (by omega)) ?_
    have hn:k+1=13:=by omega
    rw [hl,hn]
    exact hR
theorem loop_3:LOk Tryz.prog GL 0 3 (bodyLoop f_by 3) l3:=by
 refine loop_ok (X:=X_by) kc_by mixed (LAll.none (by kernel_rfl)) [1,3,7,8] [1,3,7] h3 (fun a=>13 - a.k) pre3 ?_ ?_
 ·intro s R h
  unfold l3 at h
  split at h
  case h_2=>exact h.elim
  rename_i x hx
  obtain ⟨hs,hR⟩:=h
  exact ⟨⟨x.1,x.2,0⟩,hs,by show 0≤13; omega,hR⟩
 ·intro a R h
  exact Tr.run_mono _ (fun o ho=>ho) (r3_in a R h).out
noncomputable def lReg (rs:List (List Sc)):Reg:=⟨3,87,.recs [.i .i64,.i .i64,.i .i64] rs⟩
noncomputable def s5 (d:Dv) (x:Int × Int × Int) (rs:List (List Sc)) (i:Int):St:={fr:=frame 179 [(1,.v (.c (.p 0 0 0))),(3,.v (.c (.p 1 0 0))),(10,.v (.c (.p 2 0 0))),(11,.v (.c (.i .i64 i)))],rg:=[some (dReg d),some (pReg x),some (lReg rs)]}
noncomputable def d5 (d:Dv) (x:Int × Int × Int) (rs:List (List Sc)):St:={fr:=frame 179 [(1,.v (.c (.p 0 0 0))),(3,.v (.c (.p 1 0 0))),(10,.v (.c (.p 2 0 0)))],rg:=[some (dReg d),some (pReg x),some (lReg rs)]}
noncomputable def r5 (s:St):Tr RO:=roundT X_by 5 [1,3,10,11] [1,3,10] (bodyLoop f_by 5) s
noncomputable def plR (v:Int):List Sc:=[.i (v % 3+1),.i (plP (IntKind.i64.wrap (v.tdiv 8))),.i (plS (IntKind.i64.wrap (v.tdiv 64)))]
def plE (v:Int):Prop:=[NV.c (.i .i64 v),.c (.i .i64 (IntKind.i64.wrap (v.tdiv 8))),.c (.i .i64 (IntKind.i64.wrap (v.tdiv 64)))]=[NV.c (.i .i64 v),.c (.i .i64 (IntKind.i64.wrap (v.tdiv 8))),.c (.i .i64 (IntKind.i64.wrap (v.tdiv 64)))]
noncomputable def nx5 (d:Dv) (x:Int × Int × Int) (rs:List (List Sc)) (i v:Int) (R:RO→Prop):Prop:=plE v∧sel (decide (0≤i)) (sel (decide (i<((6:Nat):Int))) (sel (decide (0+i.toNat<rs.length)) (R (.next (s5 d x (rs.set (0+i.toNat) (plR v)) (IntKind.i64.wrap (i+1))))) False) False) False
theorem r5_tree (d:Dv) (x:Int × Int × Int) (rs:List (List Sc)) (i:Int) (R:RO→Prop):(r5 (s5 d x rs i)).run R =
 sel (decide (i<6)) (sel (decide (i<(d.L.length:Int))) (ixU i d.L.length (nmA 1048576∧nx5 d x rs i (d.L.getD i.toNat 0 % 1048576) R)) (nx5 d x rs i 0 R)) (R (.done .normal (d5 d x rs))):=by kernel_rfl
noncomputable def lv (L:List Int) (j:Nat):Int:=L.getD j 0 % 1048576
def zS:List Sc:=[.i 0,.i 0,.i 0]
noncomputable def lrK (f:Nat→List Sc):Nat→List (List Sc)
 | 0=>[zS,zS,zS,zS,zS,zS]
 | 1=>[f 0,zS,zS,zS,zS,zS]
 | 2=>[f 0,f 1,zS,zS,zS,zS]
 | 3=>[f 0,f 1,f 2,zS,zS,zS]
 | 4=>[f 0,f 1,f 2,f 3,zS,zS]
 | 5=>[f 0,f 1,f 2,f 3,f 4,zS]
 | _=>[f 0,f 1,f 2,f 3,f 4,f 5]
theorem lrK_set (f:Nat→List Sc) {k:Nat} (h:k<6):(lrK f k).set (0+k) (f k)=lrK f (k+1):=by
 have:k=0∨k=1∨k=2∨k=3∨k=4∨k=5:=by omega
 rcases this with rfl | rfl | rfl | rfl | rfl | rfl <;> rfl
theorem lrK_len (f:Nat→List Sc) {k:Nat} (h:k≤6):(lrK f k).length=6:=by
 have:k=0∨k=1∨k=2∨k=3∨k=4∨k=5∨k=6:=by omega
 rcases this with rfl | rfl | rfl | rfl | rfl | rfl | rfl <;> rfl
noncomputable def lrs (L:List Int) (k:Nat):List (List Sc):=lrK (fun j=>plR (lv L j)) k
noncomputable def l5 (s:St):Tr (NExit × St):=match rdDP s with
 | some x=>.must (s=s5 x.1 x.2 [zS,zS,zS,zS,zS,zS] 0) (.ret (.normal,d5 x.1 x.2 [plR (lv x.1.L 0),plR (lv x.1.L 1),plR (lv x.1.L 2),plR (lv x.1.L 3),plR (lv x.1.L 4),plR (lv x.1.L 5)]))
 | none=>.fail
noncomputable def h5 (a:A3):St:=s5 a.d a.x (lrs a.d.L a.k) (a.k:Int)
def pre5 (a:A3) (R:NExit × St→Prop):Prop:=a.k≤6∧R (.normal,d5 a.d a.x (lrs a.d.L 6))
def nxt5 (a:A3) (R:NExit × St→Prop) (o:RO):Prop:=match o with
 | .next s=>∃ y,s=h5 y∧6 - y.k<6 - a.k∧pre5 y R
 | .done e s=>R (e,s)
theorem r5_in (a:A3) (R:NExit × St→Prop) (h:pre5 a R):Box ((r5 (h5 a)).run (nxt5 a R)):=by
 obtain ⟨d,x,k⟩:=a
 obtain ⟨h1,hR⟩:=h
 simp only at h1 hR
 have hw:IntKind.i64.wrap ((k:Int)+1)=((k+1:Nat):Int):=by rw [IntKind.wrap_i64]; omega
 have et:((k:Nat):Int).toNat=k:=by simp
 have nx:∀ v,k<6→v=lv d.L k→nx5 d x (lrs d.L k) (k:Int) v (nxt5 ⟨d,x,k⟩ R):=by
  rintro v hk rfl
  unfold nx5
  rw [et,hw]
  refine ⟨rfl,sT (decide_eq_true (by omega)) (sT (decide_eq_true (by omega)) (sT (decide_eq_true (by unfold lrs; rw [lrK_len _ (by omega)]; omega)) ?_))⟩
  have e:(lrs d.L k).set (0+k) (plR (lv d.L k))=lrs d.L (k+1):=lrK_set (fun j=>plR (lv d.L j)) hk
  rw [e]
  exact ⟨⟨d,x,k+1⟩,rfl,by simp only; omega,by simp only; omega,hR⟩
 refine Box.of_eq (r5_tree d x (lrs d.L k) (k:Int) _) ?_
 rw [et]
 by_cases hk:k<6
 ·refine sT (decide_eq_true (by omega)) ?_
  by_cases hb:k<d.L.length
  ·exact sT (decide_eq_true (by omega)) (ixU_in ⟨by omega,by omega⟩ ⟨⟨by decide,by decide⟩,nx _ hk rfl⟩)
  ·refine sF (decide_eq_false (by omega)) (nx _ hk ?_)
   unfold lv
   rw [getD_z hb]
   rfl
 ·have hn:k=6:=by omega
  subst hn
  exact sF (decide_eq_false (by decide)) hR
theorem loop_5:LOk Tryz.prog GL 0 5 (bodyLoop f_by 5) l5:=by
 refine loop_ok (X:=X_by) kc_by mixed (LAll.none (by kernel_rfl)) [1,3,10,11] [1,3,10] h5 (fun a=>6 - a.k) pre5 ?_ ?_
 ·intro s R h
  unfold l5 at h
  split at h
  case h_2=>exact h.elim
  rename_i x hx
  obtain ⟨hs,hR⟩:=h
  exact ⟨⟨x.1,x.2,0⟩,hs,by show 0≤6; omega,hR⟩
 ·intro a R h
  exact Tr.run_mono _ (fun o ho=>ho) (r5_in a R h).out
noncomputable def xP (mag pg sb:Int):Int × Int × Int:=(mag % 3+1,plP pg,plS sb)
noncomputable def ly {α:Type} (f:Int→Int→Int→Int→Int→Int→Int→Int→Int→Int→Int→Int→Int→Int→Int→Int→Int→Int→α) (L:List Int):α:=
 f (lv L 0 % 3+1) (plP (IntKind.i64.wrap ((lv L 0).tdiv 8))) (plS (IntKind.i64.wrap ((lv L 0).tdiv 64))) (lv L 1 % 3+1) (plP (IntKind.i64.wrap ((lv L 1).tdiv 8))) (plS (IntKind.i64.wrap ((lv L 1).tdiv 64))) (lv L 2 % 3+1) (plP (IntKind.i64.wrap ((lv L 2).tdiv 8))) (plS (IntKind.i64.wrap ((lv L 2).tdiv 64))) (lv L 3 % 3+1) (plP (IntKind.i64.wrap ((lv L 3).tdiv 8))) (plS (IntKind.i64.wrap ((lv L 3).tdiv 64))) (lv L 4 % 3+1) (plP (IntKind.i64.wrap ((lv L 4).tdiv 8))) (plS (IntKind.i64.wrap ((lv L 4).tdiv 64))) (lv L 5 % 3+1) (plP (IntKind.i64.wrap ((lv L 5).tdiv 8))) (plS (IntKind.i64.wrap ((lv L 5).tdiv 64)))
noncomputable def cd9 (n:Int):Int:=IntKind.i64.wrap ((n % 9).tdiv 8)
noncomputable def lkB (mag n:Int) (L:List Int):List Int:=put (ls.radr (mag % 3+1))::put 13::ly (ls.rlN (mag % 3+1) (cd9 n) 0) L
noncomputable def lkO (mag n:Int) (L:List Int):Bool:=ly (ls.okR (mag % 3+1) (cd9 n) 0) L
noncomputable def zE:ByteArray:=⟨#[]⟩
noncomputable def svO (mag pg sb n:Int):Bool:=okIb (mag % 3+1) (plP pg) (plS sb) (n % 65536) 0 (n % 90000) (sb % 24) 0 0 zE
noncomputable def svB (mag pg sb n:Int):List Int:=LR (decide ((0:Int)<0)) (mag % 3+1) (plP pg) (plS sb) (n % 65536) 0 (n % 90000) (sb % 24) 0 0 zE
noncomputable def rwB (m n:Int) (L:List Int):List Int:=trB m 26 (n % 16) (List.take 13 (List.drop 0 (tr3 L 13)))
end bh
namespace df
open sto (sT sF)
open Go Go.Nx pk mac bm
def B8 (b:Int):Prop:=0≤b∧b<256
theorem put_in (n:Int):B8 (put n):=by
 have key:∀ m<16,0≤putL.getD m 0∧putL.getD m 0<256:=by decide +kernel
 exact key (n % 16).toNat (by omega)
theorem u8_in (v:BitVec 8):B8 (u8 v):=by
 have:=v.isLt
 unfold B8 u8
 omega
theorem odV_in (T:List Int) (k:Nat):∀ b∈odV T k,B8 b:=by
 intro b hb
 unfold odV at hb
 obtain ⟨i,-,rfl⟩:=List.mem_map.1 hb
 exact sv.mkO_in _
theorem app_in {l m:List Int} (h1:∀ b∈l,B8 b) (h2:∀ b∈m,B8 b):∀ b∈l++m,B8 b:=fun b hb=>(List.mem_append.1 hb).elim (h1 b) (h2 b)
theorem pkB_in {mg row:Int} {ds:List Int} (h:∀ b∈ds,B8 b):∀ b∈pkB mg row ds,B8 b:=List.forall_mem_cons.2 ⟨put_in _,List.forall_mem_cons.2 ⟨put_in _,h⟩⟩
theorem hbV_in (h:pge.Hx) {xs:List Int} (hx:∀ b∈xs,B8 b):∀ b∈hbV h xs,B8 b:=by
 refine pkB_in (app_in (app_in ?_ ?_) hx)
 ·unfold pl6
  repeat (refine List.forall_mem_cons.2 ⟨put_in _,?_⟩)
  intro b hb; cases hb
 ·unfold t8
  repeat (refine List.forall_mem_cons.2 ⟨put_in _,?_⟩)
  intro b hb; cases hb
theorem tw_in (r:List Sc):∀ b∈tr.tw r,B8 b:=by
 unfold tr.tw
 repeat (refine List.forall_mem_cons.2 ⟨u8_in _,?_⟩)
 intro b hb; cases hb
theorem trB_in (mg row cd:Int) (rows:List (List Sc)):∀ b∈trB mg row cd rows,B8 b:=by
 refine List.forall_mem_cons.2 ⟨put_in _,List.forall_mem_cons.2 ⟨put_in _,?_⟩⟩
 unfold ts.LTg tr.LT
 refine List.forall_mem_cons.2 ⟨put_in _,?_⟩
 iterate 12 (refine app_in (tw_in _) ?_)
 exact tw_in _
end df
namespace bh
open sto (sT sF)
open pge (Hx)
open df (B8 put_in u8_in odV_in app_in pkB_in hbV_in trB_in)
open Go Go.Nx pk ln hd lb sv bm
noncomputable def byW (d:Dv):List Int:=
 bif d.k==1 then hbV (hxOf d) (odV d.T 32) else bif d.k==2 then pkB (d.mag % 3+1) (d.n % 25) (odV d.T 40)
 else bif d.k==3 then rwB (d.mag % 3+1) d.n d.L else bif d.k==4 then lkB d.mag d.n d.L
 else bif d.k==5 then trB (d.mag % 3+1) 28 (cdO d.pg) (trO d.n d.sb) else bif d.k==6 then trB (d.mag % 3+1) 29 (cdO d.pg) (trO d.n d.sb)
 else bif d.k==7 then svB d.mag d.pg d.sb d.n else d.W
theorem okTB_16 {mg row cd:Int} (hm:1≤mg∧mg≤8) (hc:0≤cd∧cd≤15) (hr:row=28∨row=29∨row=26):ts.okTB mg row cd=true:=by
 unfold ts.okTB
 rw [decide_eq_true (show 1≤mg∧mg≤8∧0≤cd∧cd≤15 from ⟨hm.1,hm.2,hc.1,hc.2⟩)]
 rcases hr with rfl | rfl | rfl <;> rfl
theorem rB (a b c:Int):ls.rightB (a % 3+1) (plP b) (plS c)=true:=by
 have h:=pl_right a b c
 unfold ls.rightB
 rw [decide_eq_true (show a % 3+1 ≥ 1 from h.1.1),decide_eq_true (show a % 3+1≤8 from h.1.2),decide_eq_true (show plP b ≥ 0 from h.2.1.1),decide_eq_true (show plP b≤255 from h.2.1.2),decide_eq_true (show plS c ≥ 0 from h.2.2.1),h.2.2.2]
 rfl
theorem cd9_in (n:Int):0≤cd9 n∧cd9 n≤3:=by
 have key:∀ m<9,0≤IntKind.i64.wrap ((Int.ofNat m).tdiv 8)∧IntKind.i64.wrap ((Int.ofNat m).tdiv 8)≤3:=by decide +kernel
 have h:=key (n % 9).toNat (by omega)
 have e:Int.ofNat (n % 9).toNat=n % 9:=by show (((n % 9).toNat:Nat):Int)=n % 9; omega
 rw [e] at h
 exact h
theorem lkO_t (mag n:Int) (L:List Int):lkO mag n L=true:=by
 have h:=cd9_in n
 unfold lkO ly ls.okR
 rw [rB,rB,rB,rB,rB,rB,decide_eq_true (show 1≤mag % 3+1∧mag % 3+1≤8∧0≤cd9 n∧cd9 n≤3∧(0:Int)≤0∧(0:Int)≤15 from ⟨by omega,by omega,h.1,h.2,by decide,by decide⟩)]
 rfl
theorem fstE:fst zE 20 0=none:=by kernel_rfl
theorem nd {p:Prop} [Decidable p] (h:¬ p):(!decide p)=true:=by rw [decide_eq_false h]; rfl
theorem svO_t (mag pg sb n:Int):svO mag pg sb n=true:=by
 unfold svO okIb
 rw [rB,fstE,nd (show ¬ n % 65536<0 by omega),nd (show ¬ n % 65536 > 65535 by omega),nd (show ¬ n % 90000<0 by omega),nd (show ¬ n % 90000 > 99999 by omega),nd (show ¬ sb % 24<0 by omega),nd (show ¬ sb % 24 > 23 by omega)]
 rfl
theorem wr28:IntKind.i64.wrap (23+5)=28:=by decide +kernel
theorem wr29:IntKind.i64.wrap (23+6)=29:=by decide +kernel
theorem selBq {k:Int} {j:Int} {A B:Prop} (hA:k=j→A) (hB:k≠j→B):sel (k==j) A B:=by
 by_cases h:k=j
 ·exact sT (beq_iff_eq.2 h) (hA h)
 ·exact sF (beq_eq_false_iff_ne.2 h) (hB h)
theorem nil_in:∀ b∈([]:List Int),B8 b:=fun b hb=>by cases hb
theorem z_in:B8 0:=⟨by decide,by decide⟩
theorem plN_in (a b c:Int):∀ x∈ls.plN a b c,B8 x:=by
 unfold ls.plN
 iterate 6 (refine List.forall_mem_cons.2 ⟨put_in _,?_⟩)
 exact nil_in
theorem lkB_in (mag n:Int) (L:List Int):∀ b∈lkB mag n L,B8 b:=by
 unfold lkB ly ls.rlN
 iterate 3 (refine List.forall_mem_cons.2 ⟨put_in _,?_⟩)
 iterate 6 (refine app_in (plN_in _ _ _) ?_)
 exact List.forall_mem_cons.2 ⟨put_in _,List.forall_mem_cons.2 ⟨z_in,List.forall_mem_cons.2 ⟨z_in,nil_in⟩⟩⟩
end bh
namespace mac
open Go Go.Nx pk ac sto pge dec
noncomputable def t_pmg:Con:=fun args regs=>nfun Tryz.prog GL (fun _=>Option.none) [] Tryz.f90 args regs
theorem k_pmg:Known Tryz.prog GL 90 t_pmg:=known_inl Tryz.func90 rfl (by kernel_rfl) mixed con_none (by kernel_rfl)
noncomputable abbrev f_nx:=Tryz.f70
noncomputable def rgNx:Code:=theRange f_nx 0
noncomputable def frN:List NS:=frame 77 [(3,.v (.c (.p 4 0 0))),(4,.v (.c (.p 5 0 0))),(6,.v (.c (.p 6 0 0))),(7,.v (.c (.p 7 0 0))),(14,.v (.c (.cl 137 [(8,0,0)])))]
noncomputable def YN:Yh:=bodyY XFe (psOf rgNx) (asOf rgNx) (bdOf rgNx) frN
inductive Jn where
 | z
 | a (p:Pg)
 | s (p:Pg)
 | d (p q:Pg)
def Jn.ca:Jn→Nat→NC
 | .z,_=>.pn
 | _,n=>.p n 0 0
def Jn.cb:Jn→Nat→NC
 | .z,_=>.pn
 | .a _,_=>.pn
 | .s _,n=>.p n 0 0
 | .d _ _,n=>.p (n+1) 0 0
noncomputable def Jn.ex:Jn→List (Option Reg)
 | .z=>[]
 | .a p=>[some (pgReg p (.lr K3 p.ex))]
 | .s p=>[some (pgReg p (.lr K3 p.ex))]
 | .d p q=>[some (pgReg p (.lr K3 p.ex)),some (pgReg q (.lr K3 q.ex))]
noncomputable def rgJ (M:Mc) (k:Ky) (J:Jn) (n:Nat):List (Option Reg):=[some (mcG 1 M.v M.inf),some (stM M.st.sto (.hz 3 M.st.sto.l.length)),some (mpReg M.st.sto.m),some (ordReg (kyRows M.st.sto.l)),some (plReg k),some (pgReg pgZ .sn),some ⟨1,210,.cells [J.ca n]⟩,some ⟨1,210,.cells [J.cb n]⟩,some ⟨1,95,.cells [.p 1 0 0]⟩]
noncomputable def rndN (s:St):Tr ROI:=roundI XIt YN KI [] 0 [0,1,8,9,10] [] itC s Option.none
def Jn.cnt:Jn→Nat
 | .z=>9
 | .a _=>10
 | .s _=>10
 | .d _ _=>11
noncomputable def SN (M:Mc) (k:Ky) (J:Jn) (i:Int):St:={fr:=frame 32 [(0,.v (.c (.e 1000))),(1,.v (.c (.p 8 0 0))),(8,.v (.c (.hz J.cnt M.st.L.length))),(9,.v (.c (.i .i64 M.st.L.length))),(10,.v (.c (.i .i64 i)))],rg:=rgJ M k J 9++J.ex++[some (ordReg (kyRows (M.st.L.map kyP)))]}
noncomputable def DN (M:Mc) (k:Ky) (J:Jn):St:={fr:=frame 32 [],rg:=rgJ M k J 9++J.ex}
noncomputable def nxN (M:Mc) (k:Ky) (i:Int) (R:ROI→Prop) (J:Jn):Prop:=R (.next (SN M k J (IntKind.i64.wrap (i+1))) Option.none)
def pgN_at (M:Mc) (i:Int):Pg:=ofRow (mpGet plSch (kyFC (rkF M i)) M.st.sto.m)
def hitN (k:Ky) (b:Int) (x:Pg) (N:Jn→Prop):Jn→Prop
 | .z=>sel (decide (b > k.2.2)) (N (.s x)) (N (.a x))
 | .a p=>sel (decide (b<p.sb)) (sel (decide (b > k.2.2)) (N (.s x)) (N (.a x))) (sel (decide (b > k.2.2)) (N (.d p x)) (N (.a p)))
 | .s p=>sel (decide (b<p.sb)) (sel (decide (b > k.2.2)) (sel (decide (b<p.sb)) (N (.s x)) (N (.d x p))) (N (.d x p))) (sel (decide (b > k.2.2)) (sel (decide (b<p.sb)) (N (.d p x)) (N (.s p))) (N (.s p)))
 | .d p q=>sel (decide (b<p.sb)) (sel (decide (b > k.2.2)) (sel (decide (b<q.sb)) (N (.s x)) (N (.d x q))) (N (.d x q))) (sel (decide (b > k.2.2)) (sel (decide (b<q.sb)) (N (.d p x)) (N (.d p q))) (N (.d p q)))
noncomputable def inN (M:Mc) (k:Ky) (J:Jn) (i:Int) (R:ROI→Prop):Prop:=
 sel (decide (i<(M.st.L.length:Int))) (sel (decide (0≤i)) (sel (decide (i<(M.st.L.length:Int))) (sel (decide (i.toNat<(kyRows (M.st.L.map kyP)).length)) (sel (mpHas plSch (kyFC (rkF M i)) M.st.sto.m)
  (true=true∧sel ((rkF M i).1 !=k.1) (nxN M k i R J) (sel ((rkF M i).2.1 !=k.2.1) (nxN M k i R J) (hitN k (rkF M i).2.2 (pgN_at M i) (nxN M k i R) J)))
  (nxN M k i R J)) False) False) False) (R (.done .normal (DN M k J) Option.none))
theorem round_Nz (M:Mc) (k:Ky) (i:Int) (R:ROI→Prop):(rndN (SN M k .z i)).run R=inN M k .z i R:=by kernel_rfl
theorem round_Na (M:Mc) (k:Ky) (p:Pg) (i:Int) (R:ROI→Prop):(rndN (SN M k (.a p) i)).run R=inN M k (.a p) i R:=by kernel_rfl
theorem round_Ns (M:Mc) (k:Ky) (p:Pg) (i:Int) (R:ROI→Prop):(rndN (SN M k (.s p) i)).run R=inN M k (.s p) i R:=by kernel_rfl
theorem round_Nd (M:Mc) (k:Ky) (p q:Pg) (i:Int) (R:ROI→Prop):(rndN (SN M k (.d p q) i)).run R=inN M k (.d p q) i R:=by kernel_rfl
theorem round_N (M:Mc) (k:Ky) (i:Int) (R:ROI→Prop):∀ J:Jn,(rndN (SN M k J i)).run R=inN M k J i R
 | .z=>round_Nz M k i R
 | .a p=>round_Na M k p i R
 | .s p=>round_Ns M k p i R
 | .d p q=>round_Nd M k p q i R
def Jn.hit (k:Ky) (x:Pg):Jn→Jn
 | .z=>bif decide (x.sb > k.2.2) then .s x else .a x
 | .a p=>bif decide (x.sb<p.sb) then (bif decide (x.sb > k.2.2) then .s x else .a x) else (bif decide (x.sb > k.2.2) then .d p x else .a p)
 | .s p=>bif decide (x.sb<p.sb) then (bif decide (x.sb > k.2.2) then .s x else .d x p) else .s p
 | .d p q=>bif decide (x.sb<p.sb) then (bif decide (x.sb > k.2.2)&&decide (x.sb<q.sb) then .s x else .d x q) else (bif decide (x.sb > k.2.2)&&decide (x.sb<q.sb) then .d p x else .d p q)
def Jn.step (k:Ky) (J:Jn) (x:Pg):Jn:=bif hitF k x then J.hit k x else J
def Mc.nxJ (M:Mc) (k:Ky):Jn:=M.st.L.foldl (Jn.step k) .z
theorem hitN_in (k:Ky) (x:Pg) (N:Jn→Prop) (J:Jn) (h:N (J.hit k x)):hitN k x.sb x N J:=by
 revert h
 cases J with
 | z=>
   dsimp only [hitN,Jn.hit]
   cases decide (x.sb > k.2.2) <;> exact fun h=>h
 | a p=>
   dsimp only [hitN,Jn.hit]
   cases decide (x.sb > k.2.2) <;> cases decide (x.sb<p.sb) <;> exact fun h=>h
 | s p=>
   dsimp only [hitN,Jn.hit]
   cases decide (x.sb > k.2.2) <;> cases decide (x.sb<p.sb) <;> exact fun h=>h
 | d p q=>
   dsimp only [hitN,Jn.hit]
   cases decide (x.sb > k.2.2) <;> cases decide (x.sb<p.sb) <;> cases decide (x.sb<q.sb) <;> exact fun h=>h
structure AN where
 J:Jn
 i:Int
def Jn.isZ:Jn→Bool
 | .z=>true
 | _=>false
def Jn.isA:Jn→Bool
 | .a _=>true
 | _=>false
def Jn.isS:Jn→Bool
 | .s _=>true
 | _=>false
def Jn.p:Jn→Pg
 | .z=>pgZ
 | .a p=>p
 | .s p=>p
 | .d p _=>p
def Jn.q:Jn→Pg
 | .d _ q=>q
 | _=>pgZ
noncomputable def endN (M:Mc) (k:Ky) (J:Jn):Tr (NExit × St × Option NExit):=.br J.isZ (.ret (.normal,DN M k .z,Option.none)) (.br J.isA (.ret (.normal,DN M k (.a J.p),Option.none)) (.br J.isS (.ret (.normal,DN M k (.s J.p),Option.none)) (.ret (.normal,DN M k (.d J.p J.q),Option.none))))
noncomputable def preN (M:Mc) (k:Ky) (a:AN) (R:NExit × St × Option NExit→Prop):Prop:=(0≤a.i∧a.i≤(M.st.L.length:Int))∧M.good∧(endN M k ((M.st.L.drop a.i.toNat).foldl (Jn.step k) a.J)).run R
noncomputable def hN (M:Mc) (k:Ky) (a:AN):St × Option NExit:=(SN M k a.J a.i,Option.none)
noncomputable def nxtN (M:Mc) (k:Ky) (a:AN) (R:NExit × St × Option NExit→Prop) (o:ROI):Prop:=match o with
 | .next s p=>∃ y,(s,p)=hN M k y∧((M.st.L.length:Int) - y.i).toNat<((M.st.L.length:Int) - a.i).toNat∧preN M k y R
 | .done e s p=>R (e,s,p)
theorem bne_t {a b:Int} (h:(a==b)=false):(a !=b)=true:=by unfold bne; rw [h]; rfl
theorem bne_f {a b:Int} (h:(a==b)=true):(a !=b)=false:=by unfold bne; rw [h]; rfl
theorem inN_in (M:Mc) (k:Ky) (a:AN) (R:NExit × St × Option NExit→Prop) (h:preN M k a R):inN M k a.J a.i (nxtN M k a R):=by
 obtain ⟨J,i⟩:=a
 obtain ⟨⟨h0,hle⟩,hg,hR⟩:=h
 simp only at h0 hle hR
 unfold inN
 by_cases hlt:i<(M.st.L.length:Int)
 ·have hj:i.toNat<M.st.L.length:=by omega
  have hl8:=hg.lt
  have hw:IntKind.i64.wrap (i+1)=i+1:=by rw [IntKind.wrap_i64]; omega
  have ht:(i+1).toNat=i.toNat+1:=by omega
  have nx:∀ J',(endN M k ((M.st.L.drop (i.toNat+1)).foldl (Jn.step k) J')).run R→nxN M k i (nxtN M k ⟨J,i⟩ R) J':=fun J' h'=>by
   unfold nxN
   rw [hw]
   exact ⟨⟨J',i+1⟩,rfl,by simp only; omega,⟨by simp only; omega,by simp only; omega⟩,hg,by simp only; rw [ht]; exact h'⟩
  rw [List.drop_eq_getElem_cons hj,List.foldl_cons] at hR
  have hm:=mp_nth hj hg.nd
  have hp:pgN_at M i=M.st.L[i.toNat]:=by
   unfold pgN_at
   rw [rk_eq hj]
   exact hm.2
  rw [hp,rk_eq hj]
  refine sT (decide_eq_true hlt) (sT (decide_eq_true h0) (sT (decide_eq_true hlt) (sT (decide_eq_true (by rw [kyRows_length,List.length_map]; exact hj)) ?_)))
  refine sT hm.1 ⟨rfl,?_⟩
  generalize M.st.L[i.toNat]=p at hR ⊢
  show sel (p.mg !=k.1) _ (sel (p.pn !=k.2.1) _ _)
  cases h1:p.mg==k.1 with
  | false=>
    rw [bne_t h1]
    refine nx J ?_
    unfold Jn.step hitF at hR
    rw [h1] at hR
    exact hR
  | true=>
    rw [bne_f h1]
    show sel (p.pn !=k.2.1) _ _
    cases h2:p.pn==k.2.1 with
    | false=>
      rw [bne_t h2]
      refine nx J ?_
      unfold Jn.step hitF at hR
      rw [h1,h2] at hR
      exact hR
    | true=>
      rw [bne_f h2]
      refine hitN_in k p _ J (nx (J.hit k p) ?_)
      unfold Jn.step hitF at hR
      rw [h1,h2] at hR
      exact hR
 ·refine sF (decide_eq_false hlt) ?_
  rw [List.drop_eq_nil_iff.2 (by omega)] at hR
  cases J <;> exact hR
theorem loop_N (M:Mc) (k:Ky):LOkI Tryz.prog GL 9 KI YN 0 itC (fun s=>.must (s=(SN M k .z 0,Option.none)∧M.good) (endN M k (M.nxJ k))):=by
 refine loopI_ok (X:=XIt) (ls:=[]) kcIt (by kernel_rfl) (LAllI.none (by kernel_rfl)) [0,1,8,9,10] [] (hN M k) (fun a=>((M.st.L.length:Int) - a.i).toNat) (preN M k) ?_ ?_
 ·rintro s R ⟨⟨hs,hg⟩,hR⟩
  exact ⟨⟨.z,0⟩,hs,⟨by simp only; omega,by simp only; omega⟩,hg,hR⟩
 ·intro a R h
  have:=(Box.of_eq (round_N M k a.i (nxtN M k a R) a.J) (inN_in M k a R h)).out
  exact Tr.run_mono _ (fun o ho=>ho) this
noncomputable def LN (M:Mc) (k:Ky) (m:Nat) (fr:List NS) (s:St × Option NExit):Tr (NExit × St × Option NExit):=.must ((m=9∧fr=frN)∧s=(SN M k .z 0,Option.none)∧M.good) (endN M k (M.nxJ k))
theorem loop_N' (M:Mc) (k:Ky) (m:Nat) (fr:List NS):LOkI Tryz.prog GL m KI (bodyY XFe (psOf rgNx) (asOf rgNx) (bdOf rgNx) fr) 0 itC (LN M k m fr):=by
 intro l rc N Γ0 w0 h0 hN h0k h0r hY s p Γ a w R Q hI hE hW hL hK
 unfold LN at hL
 obtain ⟨⟨⟨rfl,hfr⟩,h2⟩,h4⟩:=hL
 rw [hfr] at hY
 exact loop_N M k l rc N Γ0 w0 h0 hN h0k h0r hY s p Γ a w R Q hI hE hW ⟨h2,h4⟩ hK
noncomputable def lsN (M:Mc) (k:Ky) (m:Nat) (fr:List NS):LI:=[(0,[0,1,8,9,10],LN M k m fr)]
noncomputable def RN (M:Mc) (k:Ky):St→Tr (NExit × St):=rangeT XFe KI cIt (lsN M k) 0 [4,6,7] 137 f_it rgNx
theorem rgNx_eq:rgNx=.rangeFunc (.tmp 14) (psOf rgNx) (asOf rgNx) (bdOf rgNx):=by kernel_rfl
theorem rN_ok (M:Mc) (k:Ky):RgOk Tryz.prog GL 4 0 rgNx (RN M k):=by
 have h:=rangeT_ok (X:=XFe) con_e (K:=KI) kcIt (ls:=lsN M k) (id:=0) (out:=[4,6,7]) (g:=.tmp 14) (ps:=psOf rgNx) (assign:=asOf rgNx) (body:=bdOf rgNx) Tryz.func137 it_body (by kernel_rfl) (by kernel_rfl) (by kernel_rfl) (by kernel_rfl) (by kernel_rfl)
  (fun m fr=>LAllI.one (id:=0) (body:=itC) (live:=[0,1,8,9,10]) (L:=LN M k m fr) it_loops rfl (loop_N' M k m fr))
 rw [← rgNx_eq] at h
 exact h
noncomputable def lpN (M:Mc) (k:Ky):List (Nat × List Nat × (St→Tr (NExit × St))):=[(0,[3,4,6,7,14],RN M k)]
noncomputable def t_nx (M:Mc) (k:Ky):Con:=fun args regs=>if regs.length=4 then nfun Tryz.prog GL c_fd2 (lpN M k) f_nx args regs else .fail
theorem nx_loops:loopsIn (f_nx.body.getD .skip)=[]:=by kernel_rfl
theorem nx_ranges:rangesIn (f_nx.body.getD .skip)=[(0,rgNx)]:=by kernel_rfl
theorem k_nx (M:Mc) (k:Ky):Known Tryz.prog GL 70 (t_nx M k):=by
 refine known_loops (c:=f_nx.body.getD .skip) 4 Tryz.func70 (by kernel_rfl) (by kernel_rfl) mixed kc_fd2 ⟨fun i b hb x hf=>?_,fun i b hb x hf=>?_⟩
 ·rw [nx_loops] at hb
  cases hb
 ·rw [nx_ranges,List.mem_singleton] at hb
  cases hb
  have:x=(0,[3,4,6,7,14],RN M k):=by simpa [lpN] using hf.symm
  subst this
  exact rN_ok M k
noncomputable def t_nxC (M:Mc) (k:Ky):Con:=softT [] [] [(0,5,0,.lr K3 [])] [] 4 (t_nx M k)
theorem k_nxC (M:Mc) (k:Ky):Known Tryz.prog GL 70 (t_nxC M k):=(k_nx M k).soft [] [] [(0,5,0,.lr K3 [])] [] 4
noncomputable def oNx (M:Mc) (x:Pg × Bool):Out:=⟨.tu [pgV x.1,.c (.b x.2)],(inM M).map some⟩
noncomputable def owN (M:Mc) (p:Pg) (R:Out→Prop):Prop:=([pgV p]=[pgV p]∧fits p)∧R (oNx M (p,true))
noncomputable def nxT (M:Mc) (k:Ky) (R:Out→Prop):Prop:=
 (inP M.st=inP (mpP M.st)∧(mpP M.st).ok)∧((9=9∧frN=frN)∧(SN {M with st:=mpP M.st} k .z 0,Option.none)=(SN M k .z 0,(Option.none:Option NExit))∧M.good)∧
   sel (M.nxJ k).isZ (R (oNx M (pgZ,false))) (sel (M.nxJ k).isA (owN M (M.nxJ k).p R) (sel (M.nxJ k).isS (owN M (M.nxJ k).p R) (owN M (M.nxJ k).q R)))
theorem nx_tree (M:Mc) (a b c:Int) (R:Out→Prop):(t_nxC M (a,b,c) [.c (.p 0 0 0),.ag (kyNC (a,b,c))] (inM M)).run R=nxT M (a,b,c) R:=by kernel_rfl
def Jn.res:Jn→Pg × Bool
 | .z=>(pgZ,false)
 | .a p=>(p,true)
 | .s p=>(p,true)
 | .d _ q=>(q,true)
def Mc.next (M:Mc) (k:Ky):Pg × Bool:=(M.nxJ k).res
def Jn.mem (L:List Pg):Jn→Prop
 | .z=>True
 | .a p=>p∈L
 | .s p=>p∈L
 | .d p q=>p∈L∧q∈L
theorem Jn.mem_hit {L:List Pg} {k:Ky} {x:Pg} {J:Jn} (hx:x∈L) (h:J.mem L):(J.hit k x).mem L:=by
 cases J with
 | z=>dsimp only [Jn.hit]; cases decide (x.sb > k.2.2) <;> exact hx
 | a p=>dsimp only [Jn.hit]; cases decide (x.sb > k.2.2) <;> cases decide (x.sb<p.sb) <;> first | exact hx | exact h | exact ⟨h,hx⟩
 | s p=>dsimp only [Jn.hit]; cases decide (x.sb > k.2.2) <;> cases decide (x.sb<p.sb) <;> first | exact hx | exact h | exact ⟨hx,h⟩
 | d p q=>dsimp only [Jn.hit]; cases decide (x.sb > k.2.2) <;> cases decide (x.sb<p.sb) <;> cases decide (x.sb<q.sb) <;> first | exact hx | exact h | exact ⟨hx,h.2⟩ | exact ⟨h.1,hx⟩
theorem Jn.mem_fold {L:List Pg} (k:Ky):∀ (l:List Pg) (J:Jn),(∀ x∈l,x∈L)→J.mem L→(l.foldl (Jn.step k) J).mem L
 | [],_,_,h=>h
 | x::l,J,hl,h=>by
   refine Jn.mem_fold k l (J.step k x) (fun y hy=>hl y (List.mem_cons_of_mem _ hy)) ?_
   unfold Jn.step
   cases hitF k x with
   | true=>exact Jn.mem_hit (hl x (List.mem_cons_self ..)) h
   | false=>exact h
theorem nxJ_mem (M:Mc) (k:Ky):(M.nxJ k).mem M.st.L:=Jn.mem_fold k _ _ (fun _ h=>h) trivial
theorem nx_in {M:Mc} {k:Ky} {R:Out→Prop} (hM:M.good) (h:R (oNx M (M.next k))):nxT M k R:=by
 unfold nxT
 rw [mpP_eq]
 refine ⟨⟨rfl,hM.ok.2⟩,⟨⟨rfl,rfl⟩,rfl,hM⟩,?_⟩
 have hm:=nxJ_mem M k
 unfold Mc.next at h
 generalize M.nxJ k=J at h hm ⊢
 cases J with
 | z=>exact h
 | a p=>exact ⟨⟨rfl,hM.fit p hm⟩,h⟩
 | s p=>exact ⟨⟨rfl,hM.fit p hm⟩,h⟩
 | d p q=>exact ⟨⟨rfl,hM.fit q hm.2⟩,h⟩
noncomputable def tNx:Con:=fun args regs=>match args with
 | [.c (.p 0 0 0),.ag [.i _ a,.i _ b,.i _ c]]=>onM regs fun M=>.must (args=[.c (.p 0 0 0),.ag (kyNC (a,b,c))]∧M.good) (.ret (oNx M (M.next (a,b,c))))
 | _=>.fail
attribute [local irreducible] t_nxC in
theorem kNx:Known Tryz.prog GL 70 tNx:=by
 refine Known_any (ι:=Mc × Ky) (T:=fun x=>t_nxC x.1 x.2) (mcZ,ky0) (fun x=>k_nxC x.1 x.2) fun args regs R h=>?_
 unfold tNx at h
 split at h
 case h_2=>exact h.elim
 rename_i _ a _ b _ c
 obtain ⟨M,rfl,hM,⟨h1,hg⟩,h⟩:=onM_elim h
 rw [h1]
 exact ⟨(M,a,b,c),(Box.of_eq (nx_tree M a b c R) (nx_in hg h)).out⟩
end mac
namespace rv
open Go Go.Nx pk ac sto pge dec mac
structure Rm where
 mg:Int
 pn:Int
 sb:Int
 ds:List Int
 su:List Int
 sub:Bool
 hd:Bool
 rv:Bool
 mx:Bool
def Rm.nc (s:Rm):List NC:=[.i .i64 s.mg,.i .i64 s.pn,.i .i64 s.sb,.l .i64 s.ds,.l .i64 s.su,.b s.sub,.b s.hd,.b s.rv,.b s.mx]
def Rm.ky (s:Rm):Ky:=(s.mg,s.pn,s.sb)
def rmZ:Rm:=⟨1,0,16255,[],[],false,false,false,false⟩
structure Rv where
 m:Mc
 s:Rm
 p:Pg
 fd:Bool
 tk:Int
noncomputable def rcReg (r:Nat) (rm:List NC) (p:Pg) (x:NC) (fd:Bool) (tk:Int):Reg:=⟨1073,91,.sg (pgSegs p x (.p r 0 0::rm) fun q=>[.cells (q++[.b fd,.i .i64 tk])])⟩
noncomputable def rcG (V:Rv):Reg:=rcReg 1 V.s.nc V.p (.lr K3 V.p.ex) V.fd V.tk
noncomputable def stN (n:Nat) (s:Sto):Reg:=stReg s.most n (.hz (n+1) s.l.length) s.pin.1 s.pin.2.1 s.pin.2.2 s.pd
noncomputable def inV (V:Rv):List Reg:=[rcG V,mcG 2 V.m.v V.m.inf,stN 3 V.m.st.sto,ac.mpReg V.m.st.sto.m,ordReg (kyRows V.m.st.sto.l)]
def rdRv:List Reg→Option Rv
 | ⟨_,_,.sg [.cells [.p _ _ _,.i _ a,.i _ b,.i _ c,.l _ ds,.l _ su,.b sub,.b hd,.b rv,.b mx,.i _ mg,.i _ pn,.i _ sb],.recs _ _ cc,.cells [.i _ op],.ints _ _ rows,.recs _ _ th,.cells [.lr _ ex],.recs _ _ lk,.cells [.b ld,.i _ df,.b fd,.i _ tk]]⟩::rest=>(match rdMc rest with
   | some M=>some ⟨M,⟨a,b,c,ds,su,sub,hd,rv,mx⟩,⟨mg,pn,sb,cc,op,rows,th,ex,lk,ld,df⟩,fd,tk⟩
   | none=>none)
 | _=>none
def Rv.bk (V:Rv):Rv:={V with m:=mac.bk V.m}
theorem Rv.bk_eq (V:Rv) (h:V.m.far):V.bk=V:=by unfold Rv.bk; rw [mac.bk_eq _ h]
def onV (regs:List Reg) (f:Rv→Tr Out):Tr Out:=
 match rdRv regs with
 | some V=>.must (regs=inV V∧V.m.ok) (f V)
 | none=>.fail
theorem onV_elim {regs:List Reg} {f:Rv→Tr Out} {R:Out→Prop} (h:(onV regs f).run R):∃ V,regs=inV V∧V.m.ok∧(f V).run R:=by
 unfold onV at h
 split at h
 ·exact ⟨_,h.1.1,h.1.2,h.2⟩
 ·exact h.elim
noncomputable def c_mpin:FuncId→Option Con:=conOf [(135,tPin)]
theorem kc_mpin:∀ f T,c_mpin f=some T→Known Tryz.prog GL f T:=(Knowns.cons kPin .nil).get
noncomputable def t_mpin:Con:=fun args regs=>nfun Tryz.prog GL c_mpin [] Tryz.f78 args regs
theorem k_mpin:Known Tryz.prog GL 78 t_mpin:=known_inl Tryz.func78 rfl (by kernel_rfl) mixed kc_mpin (by kernel_rfl)
noncomputable def c_mfree:FuncId→Option Con:=conOf [(101,tFree)]
theorem kc_mfree:∀ f T,c_mfree f=some T→Known Tryz.prog GL f T:=(Knowns.cons kFree .nil).get
noncomputable def t_mfree:Con:=fun args regs=>nfun Tryz.prog GL c_mfree [] Tryz.f52 args regs
theorem k_mfree:Known Tryz.prog GL 52 t_mfree:=known_inl Tryz.func52 rfl (by kernel_rfl) mixed kc_mfree (by kernel_rfl)
def Mc.pinned (M:Mc) (k:Ky):Mc:={M with st:={M.st with pin:=k,pd:=true}}
def Mc.freed (M:Mc):Mc:={M with st:={M.st with pd:=false}}
noncomputable def oMc (M:Mc):Out:=⟨.tu [],(inM M).map some⟩
theorem mpin_tree (M:Mc) (k:Ky) (R:Out→Prop):(t_mpin [.c (.p 0 0 0),.ag (kyNC k)] (inM M)).run R=((sto.inP M.st=sto.inP (mpP M.st)∧(mpP M.st).ok)∧R (oMc (Mc.pinned {M with st:=mpP M.st} k))):=by kernel_rfl
theorem mfree_tree (M:Mc) (R:Out→Prop):(t_mfree [.c (.p 0 0 0)] (inM M)).run R=((sto.inP M.st=sto.inP (mpP M.st)∧(mpP M.st).ok)∧R (oMc (Mc.freed {M with st:=mpP M.st}))):=by kernel_rfl
noncomputable def tMpin:Con:=fun args regs=>match args with
 | [.c (.p 0 0 0),.ag [.i _ a,.i _ b,.i _ c]]=>onM regs fun M=>.must (args=[.c (.p 0 0 0),.ag (kyNC (a,b,c))]) (.ret (oMc (Mc.pinned M (a,b,c))))
 | _=>.fail
noncomputable def tMfree:Con:=fun args regs=>match args with
 | [.c (.p 0 0 0)]=>onM regs fun M=>.ret (oMc (Mc.freed M))
 | _=>.fail
theorem mp_self (M:Mc):({M with st:=mpP M.st}:Mc)=M:=by rw [mpP_eq]
attribute [local irreducible] t_mpin in
theorem kMpin:Known Tryz.prog GL 78 tMpin:=by
 refine k_mpin.less fun args regs R h=>?_
 unfold tMpin at h
 split at h
 case h_2=>exact h.elim
 rename_i _ a _ b _ c
 obtain ⟨M,rfl,hM,h1,h⟩:=onM_elim h
 rw [h1]
 refine (Box.of_eq (mpin_tree M (a,b,c) R) ⟨⟨by rw [mpP_eq],by rw [mpP_eq]; exact hM.2⟩,?_⟩).out
 rw [mp_self]
 exact h
attribute [local irreducible] t_mfree in
theorem kMfree:Known Tryz.prog GL 52 tMfree:=by
 refine k_mfree.less fun args regs R h=>?_
 unfold tMfree at h
 split at h
 case h_2=>exact h.elim
 obtain ⟨M,rfl,hM,h⟩:=onM_elim h
 refine (Box.of_eq (mfree_tree M R) ⟨⟨by rw [mpP_eq],by rw [mpP_eq]; exact hM.2⟩,?_⟩).out
 rw [mp_self]
 exact h
noncomputable def c_show:FuncId→Option Con:=conOf [(78,tMpin)]
theorem kc_show:∀ f T,c_show f=some T→Known Tryz.prog GL f T:=(Knowns.cons kMpin .nil).get
noncomputable def t_show:Con:=fun args regs=>nfun Tryz.prog GL c_show [] Tryz.f35 args regs
theorem k_show:Known Tryz.prog GL 35 t_show:=known_inl Tryz.func35 rfl (by kernel_rfl) mixed kc_show (by kernel_rfl)
def Rv.shown (V:Rv) (x:Pg × Bool):Rv:=match x.2 with
 | true=>{V with m:=Mc.pinned V.m (kyP x.1),p:=x.1,fd:=true}
 | false=>V
noncomputable def oRv (V:Rv):Out:=⟨.tu [],(inV V).map some⟩
noncomputable def showT (V:Rv) (q:Pg) (is:Bool) (R:Out→Prop):Prop:=sel is ((inM V.m=inM (mac.bk V.m)∧(mac.bk V.m).ok)∧[NV.c (.p 0 0 0),.ag (kyNC (kyP q))]=[.c (.p 0 0 0),.ag (kyNC (kyP q))]∧R (oRv (V.bk.shown (q,true)))) (R (oRv V))
theorem show_tree (V:Rv) (q:Pg) (is:Bool) (R:Out→Prop):(t_show [.c (.p 0 0 0),pgV q,.c (.b is)] (inV V)).run R=showT V q is R:=by kernel_rfl
noncomputable def tShow:Con:=fun args regs=>match args with
 | [.c (.p 0 0 0),v,.c (.b is)]=>(match sto.rdPg v with
   | some q=>onV regs fun V=>.must (args=[.c (.p 0 0 0),pgV q,.c (.b is)]) (.ret (oRv (V.shown (q,is))))
   | none=>.fail)
 | _=>.fail
attribute [local irreducible] t_show in
theorem kShow:Known Tryz.prog GL 35 tShow:=by
 refine k_show.less fun args regs R h=>?_
 unfold tShow at h
 split at h
 case h_2=>exact h.elim
 rename_i v is
 split at h
 case h_2=>exact h.elim
 rename_i q _
 obtain ⟨V,rfl,hV,h1,h⟩:=onV_elim h
 rw [h1]
 refine (Box.of_eq (show_tree V q is R) ?_).out
 unfold showT
 rw [V.bk_eq hV.1,mac.bk_eq _ hV.1]
 cases is with
 | true=>exact sT rfl ⟨⟨rfl,hV⟩,rfl,h⟩
 | false=>exact sF rfl h
noncomputable def t_rstart:Con:=fun args regs=>nfun Tryz.prog GL (fun _=>Option.none) [] Tryz.f29 args regs
theorem k_rstart:Known Tryz.prog GL 29 t_rstart:=known_inl Tryz.func29 rfl (by kernel_rfl) mixed con_none (by kernel_rfl)
noncomputable def c_tnew0:FuncId→Option Con:=conOf [(28,tNewM),(29,t_rstart)]
theorem kc_tnew0:∀ f T,c_tnew0 f=some T→Known Tryz.prog GL f T:=(Knowns.cons kNewM (.cons k_rstart .nil)).get
noncomputable def t_tnew0:Con:=fun args regs=>nfun Tryz.prog GL c_tnew0 [] Tryz.f8 args regs
theorem k_tnew0:Known Tryz.prog GL 8 t_tnew0:=known_inl Tryz.func8 rfl (by kernel_rfl) mixed kc_tnew0 (by kernel_rfl)
def nilsV:List (Nat × Nat × Nat × NC):=[(0,0,4,.l .i64 []),(0,0,5,.l .i64 []),(0,5,0,.lr K3 [])]
noncomputable def t_tnewC:Con:=softT [] [] [] nilsV 5 t_tnew0
theorem k_tnewC:Known Tryz.prog GL 8 t_tnewC:=k_tnew0.soft [] [] [] nilsV 5
def rvN (n:Int):Rv:=⟨mcN n,rmZ,pgZ,false,0⟩
noncomputable def oNv (n:Int):Out:=⟨.tu [.c (.p 0 0 0),.c .en],(inV (rvN n)).map some⟩
theorem tnew_tree (n:Int) (R:Out→Prop):(t_tnewC [.c (.i .i64 n)] []).run R=([NV.c (.i .i64 n)]=[NV.c (.i .i64 n)]∧sel (decide (n<1)) (R oNo) (sel (decide (n > 800)) (R oNo) (R (oNv n)))):=by kernel_rfl
noncomputable def tNewV:Con:=fun args regs=>match args,regs with
 | [.c (.i _ n)],[]=>.must (args=[.c (.i .i64 n)]) (.br (decide (n<1)) (.ret oNo) (.br (decide (n > 800)) (.ret oNo) (.ret (oNv n))))
 | _,_=>.fail
attribute [local irreducible] t_tnewC in
theorem kNewV:Known Tryz.prog GL 8 tNewV:=by
 refine k_tnewC.less fun args regs R h=>?_
 unfold tNewV at h
 split at h
 case h_2=>exact h.elim
 rename_i n
 rw [h.1]
 exact (Box.of_eq (tnew_tree n R) ⟨rfl,h.2⟩).out
noncomputable def t_tmach:Con:=fun args regs=>nfun Tryz.prog GL (fun _=>Option.none) [] Tryz.f12 args regs
theorem k_tmach:Known Tryz.prog GL 12 t_tmach:=known_inl Tryz.func12 rfl (by kernel_rfl) mixed con_none (by kernel_rfl)
noncomputable def c_rpk:FuncId→Option Con:=conOf [(34,tPk),(36,tFd),(35,tShow)]
theorem kc_rpk:∀ f T,c_rpk f=some T→Known Tryz.prog GL f T:=(Knowns.cons kPk (.cons kFd (.cons kShow .nil))).get
noncomputable def t_rpk:Con:=fun args regs=>nfun Tryz.prog GL c_rpk [] Tryz.f15 args regs
theorem k_rpk:Known Tryz.prog GL 15 t_rpk:=known_inl Tryz.func15 rfl (by kernel_rfl) mixed kc_rpk (by kernel_rfl)
noncomputable def stO (n k:Nat) (s:Sto):Reg:=stReg s.most n (.hz k s.l.length) s.pin.1 s.pin.2.1 s.pin.2.2 s.pd
noncomputable def outV (V:Rv):List (Option Reg):=[some (rcG V),some (mcG 2 V.m.v V.m.inf),some (stO 3 5 V.m.st.sto),some (ac.mpReg V.m.st.sto.m),none,some (ordReg (kyRows V.m.st.sto.l))]
noncomputable def oRe (V:Rv) (e:NC):Out:=⟨.v (.c e),outV V⟩
def Rv.look (V:Rv):Rv:=match V.s.hd with
 | true=>V
 | false=>V.shown (V.m.find V.s.ky)
noncomputable def Rv.packet (V:Rv) (bs:List Int):Rv × Option Nat:=match (V.m.step bs).2 with
 | none=>(Rv.look {V with m:=(V.m.step bs).1},none)
 | some k=>({V with m:=(V.m.step bs).1},some k)
def Rv.withM (V:Rv) (M:Mc):Rv:={V with m:=M}
noncomputable def findT (V:Rv) (R:Rv→Prop):Prop:=(inM V.m=inM (mac.bk V.m)∧(mac.bk V.m).ok)∧(([NV.c (.p 0 0 0),.ag (kyNC V.s.ky)]=[.c (.p 0 0 0),.ag (kyNC V.s.ky)]∧(mac.bk V.m).good)∧
 ((inV V.bk=inV V.bk.bk∧V.bk.bk.m.ok)∧([NV.c (.p 0 0 0),pgV ((mac.bk V.m).find V.s.ky).1,.c (.b ((mac.bk V.m).find V.s.ky).2)]=[.c (.p 0 0 0),pgV ((mac.bk V.m).find V.s.ky).1,.c (.b ((mac.bk V.m).find V.s.ky).2)]∧R (V.bk.bk.shown ((mac.bk V.m).find V.s.ky)))))
noncomputable def rpkT (V:Rv) (bs:List Int) (R:Out→Prop):Prop:=
 (inM V.m=inM (mac.bk V.m)∧(mac.bk V.m).ok)∧(([NV.c (.p 0 0 0),.c (.l .u8 bs)]=[.c (.p 0 0 0),.c (.l .u8 bs)]∧(mac.bk V.m).good∧∀ b∈bs,0≤b∧b<256)∧
   sel (((mac.bk V.m).step bs).2==none) (sel (!V.s.hd) (findT (V.withM ((mac.bk V.m).step bs).1) fun V=>R (oRe V .en)) (R (oRe (V.withM ((mac.bk V.m).step bs).1) .en)))
    (sel (((mac.bk V.m).step bs).2==some eLen) (R (oRe (V.withM ((mac.bk V.m).step bs).1) (.e eLen))) (sel (((mac.bk V.m).step bs).2==some eBit) (R (oRe (V.withM ((mac.bk V.m).step bs).1) (.e eBit))) (sel (((mac.bk V.m).step bs).2==some eKnd) (R (oRe (V.withM ((mac.bk V.m).step bs).1) (.e eKnd))) (R (oRe (V.withM ((mac.bk V.m).step bs).1) (.e eRng)))))))
theorem rpk_tree (V:Rv) (bs:List Int) (R:Out→Prop):(t_rpk [.c (.p 0 0 0),.c (.l .u8 bs)] (inV V)).run R=rpkT V bs R:=by kernel_rfl
theorem find_in {V:Rv} {R:Rv→Prop} (hV:V.m.good) (h:R (V.shown (V.m.find V.s.ky))):findT V R:=by
 unfold findT
 rw [V.bk_eq hV.far,V.bk_eq hV.far,hV.bk]
 exact ⟨⟨rfl,hV.ok⟩,⟨rfl,hV⟩,⟨rfl,hV.ok⟩,rfl,h⟩
noncomputable def errV (e:Option Nat) (V:Rv):Tr Out:=
 .br (e==none) (.ret (oRe V .en)) (.br (e==some eLen) (.ret (oRe V (.e eLen))) (.br (e==some eBit) (.ret (oRe V (.e eBit))) (.br (e==some eKnd) (.ret (oRe V (.e eKnd))) (.ret (oRe V (.e eRng))))))
theorem errV_run {e:Option Nat} {V:Rv} {R:Out→Prop} (he:e=none∨e=some eLen∨e=some eBit∨e=some eKnd∨e=some eRng) (h:(errV e V).run R):R (oRe V (ncE e)):=by
 rcases he with rfl | rfl | rfl | rfl | rfl
 all_goals exact h
noncomputable def tRpk:Con:=fun args regs=>match args with
 | [.c (.p 0 0 0),.c (.l _ bs)]=>onV regs fun V=>.must (args=[.c (.p 0 0 0),.c (.l .u8 bs)]∧V.m.good∧∀ b∈bs,0≤b∧b<256) (errV (V.packet bs).2 (V.packet bs).1)
 | _=>.fail
theorem packet_err (V:Rv) (bs:List Int):(V.packet bs).2=(V.m.step bs).2:=by
 unfold Rv.packet
 split <;> simp [*]
theorem rpk_in {V:Rv} {bs:List Int} {R:Out→Prop} (hV:V.m.good) (hb:∀ b∈bs,0≤b∧b<256) (h:R (oRe (V.packet bs).1 (ncE (V.packet bs).2))):rpkT V bs R:=by
 have hg:=step_good hV hb
 unfold rpkT
 rw [hV.bk]
 refine ⟨⟨rfl,hV.ok⟩,⟨rfl,hV,hb⟩,?_⟩
 unfold Rv.packet at h
 rcases step_err V.m bs with he | he | he | he | he
 ·rw [he] at h ⊢
  refine sT rfl ?_
  unfold Rv.look at h
  cases hh:V.s.hd with
  | true=>simp only [hh] at h; exact sF rfl h
  | false=>
    simp only [hh] at h
    exact sT rfl (find_in (V:=V.withM (V.m.step bs).1) hg h)
 all_goals rw [he] at h ⊢; exact h
attribute [local irreducible] t_rpk in
theorem kRpk:Known Tryz.prog GL 15 tRpk:=by
 refine k_rpk.less fun args regs R h=>?_
 unfold tRpk at h
 split at h
 case h_2=>exact h.elim
 rename_i _ bs
 obtain ⟨V,rfl,hV,⟨h1,hg,hb⟩,h⟩:=onV_elim h
 rw [h1]
 refine (Box.of_eq (rpk_tree V bs R) (rpk_in hg hb (errV_run ?_ h))).out
 rw [packet_err]
 exact step_err V.m bs
noncomputable def c_tick:FuncId→Option Con:=conOf [(70,tNx),(35,tShow)]
theorem kc_tick:∀ f T,c_tick f=some T→Known Tryz.prog GL f T:=(Knowns.cons kNx (.cons kShow .nil)).get
noncomputable def t_tick:Con:=fun args regs=>nfun Tryz.prog GL c_tick [] Tryz.f30 args regs
theorem k_tick:Known Tryz.prog GL 30 t_tick:=known_inl Tryz.func30 rfl (by kernel_rfl) mixed kc_tick (by kernel_rfl)
def Rv.ticked (V:Rv):Rv:={V with tk:=IntKind.i64.wrap (V.tk+1)}
noncomputable def nextT (V:Rv) (R:Rv→Prop):Prop:=(inM V.m=inM (mac.bk V.m)∧(mac.bk V.m).ok)∧(([NV.c (.p 0 0 0),.ag (kyNC (kyP V.p))]=[.c (.p 0 0 0),.ag (kyNC (kyP V.p))]∧(mac.bk V.m).good)∧
 ((inV V.bk=inV V.bk.bk∧V.bk.bk.m.ok)∧([NV.c (.p 0 0 0),pgV ((mac.bk V.m).next (kyP V.p)).1,.c (.b ((mac.bk V.m).next (kyP V.p)).2)]=[.c (.p 0 0 0),pgV ((mac.bk V.m).next (kyP V.p)).1,.c (.b ((mac.bk V.m).next (kyP V.p)).2)]∧R (V.bk.bk.shown ((mac.bk V.m).next (kyP V.p))))))
noncomputable def tickT (V:Rv) (R:Rv→Prop):Prop:=sel (V.ticked.tk.tmod 4==0) (sel (!V.s.hd) (sel (V.s.sb==16255) (sel V.fd (nextT V.ticked R) (R V.ticked)) (R V.ticked)) (R V.ticked)) (R V.ticked)
theorem tick_tree (V:Rv) (R:Out→Prop):(t_tick [.c (.p 0 0 0)] (inV V)).run R=tickT V fun V=>R (oRv V):=by kernel_rfl
def Rv.tick (V:Rv):Rv:=match (V.ticked.tk.tmod 4==0)&&(!V.s.hd&&((V.s.sb==16255)&&V.fd)) with
 | true=>V.ticked.shown (V.m.next (kyP V.p))
 | false=>V.ticked
theorem next_in {V:Rv} {R:Rv→Prop} (hV:V.m.good) (h:R (V.shown (V.m.next (kyP V.p)))):nextT V R:=by
 unfold nextT
 rw [V.bk_eq hV.far,V.bk_eq hV.far,hV.bk]
 exact ⟨⟨rfl,hV.ok⟩,⟨rfl,hV⟩,⟨rfl,hV.ok⟩,rfl,h⟩
theorem tick_in {V:Rv} {R:Rv→Prop} (hV:V.m.good) (h:R V.tick):tickT V R:=by
 unfold tickT
 unfold Rv.tick at h
 cases h1:(V.ticked.tk.tmod 4==0) with
 | false=>rw [h1] at h; exact sF rfl h
 | true=>
   cases h2:V.s.hd with
   | true=>rw [h1,h2] at h; exact sT rfl (sF rfl h)
   | false=>
     cases h3:(V.s.sb==16255) with
     | false=>rw [h1,h2,h3] at h; exact sT rfl (sT rfl (sF rfl h))
     | true=>
       cases h4:V.fd with
       | false=>rw [h1,h2,h3,h4] at h; exact sT rfl (sT rfl (sT rfl (sF rfl h)))
       | true=>
         rw [h1,h2,h3,h4] at h
         exact sT rfl (sT rfl (sT rfl (sT rfl (next_in (V:=V.ticked) hV h))))
noncomputable def tTick:Con:=fun args regs=>match args with
 | [.c (.p 0 0 0)]=>onV regs fun V=>.must V.m.good (.ret (oRv V.tick))
 | _=>.fail
attribute [local irreducible] t_tick in
theorem kTick:Known Tryz.prog GL 30 tTick:=by
 refine k_tick.less fun args regs R h=>?_
 unfold tTick at h
 split at h
 case h_2=>exact h.elim
 obtain ⟨V,rfl,hV,hg,h⟩:=onV_elim h
 exact (Box.of_eq (tick_tree V R) (tick_in hg h)).out
theorem k_clI0:KnownF Tryz.prog GL 97 (fun args regs=>nfun Tryz.prog GL (fun _=>Option.none) [] Tryz.f97 args regs):=known_inlF Tryz.func97 rfl (by kernel_rfl) mixed con_none (by kernel_rfl)
noncomputable def t_clI:Con:=softT [] [0] [(0,0,0,.l .i64 [])] [] 0 (fun args regs=>nfun Tryz.prog GL (fun _=>Option.none) [] Tryz.f97 args regs)
theorem kt_clI:Known Tryz.prog GL 97 t_clI:=k_clI0.soft [] [0] [(0,0,0,.l .i64 [])] [] 0
theorem clI_tree (xs:List Int) (R:Out→Prop):(t_clI [.c (.l .i64 xs)] []).run R =
 sel xs.isEmpty (∀ y:Bool,True→sel y (R ⟨.v (.c (.l .i64 [])),[]⟩) (sel (decide ((0+xs.length) * bytesT Tryz.prog 3≤140737488355328)) (sel (decide (0+xs.length≤9223372036854775807)) (0+xs.length=xs.length∧R ⟨.v (.c (.l .i64 xs)),[]⟩) False) False))
  (sel (decide ((0+xs.length) * bytesT Tryz.prog 3≤140737488355328)) (sel (decide (0+xs.length≤9223372036854775807)) (0+xs.length=xs.length∧R ⟨.v (.c (.l .i64 xs)),[]⟩) False) False):=by kernel_rfl
theorem bytesI:bytesT Tryz.prog 3=8:=by kernel_rfl
noncomputable def tclIV:Con:=fun args regs=>match args,regs with
 | [.c (.l _ xs)],[]=>.must (args=[.c (.l .i64 xs)]∧xs.length≤1000000) (.ret ⟨.v (.c (.l .i64 xs)),[]⟩)
 | _,_=>.fail
theorem kclIV:Known Tryz.prog GL 97 tclIV:=by
 refine kt_clI.less fun args regs R h=>Box.out ?_
 unfold tclIV at h
 split at h
 case h_2=>exact h.elim
 rename_i xs
 obtain ⟨⟨h1,hl⟩,h⟩:=h
 rw [h1]
 refine Box.of_eq (clI_tree xs R) ?_
 have hb:=bytesI
 have key:sel (decide ((0+xs.length) * bytesT Tryz.prog _≤140737488355328)) (sel (decide (0+xs.length≤9223372036854775807)) (0+xs.length=xs.length∧R ⟨.v (.c (.l .i64 xs)),[]⟩) False) False:=sT (decide_eq_true (by rw [hb]; omega)) (sT (decide_eq_true (by omega)) ⟨by omega,h⟩)
 cases hx:xs.isEmpty with
 | false=>exact sF rfl key
 | true=>
   refine sT rfl fun y _=>?_
   have e:xs=[]:=List.isEmpty_iff.1 hx
   subst e
   cases y with
   | true=>exact sT rfl h
   | false=>exact sF rfl key
noncomputable def arI (xs:List Int):Reg:=⟨1,3,.ints .i64 xs⟩
noncomputable def t_clH:Con:=canonT 1 [] (some (arI [])) (fun args regs=>nfun Tryz.prog GL (fun _=>Option.none) [] Tryz.f97 args regs)
theorem kt_clH:KnownF Tryz.prog GL 97 t_clH:=k_clI0.canon 1 [] (some (arI []))
noncomputable def oClH (xs:List Int):Out:=⟨.v (.c (.hz 1 xs.length)),[none,some (arI xs)]⟩
theorem clH_tree (xs:List Int) (R:Out→Prop):(t_clH [.c (.l .i64 xs)] []).run R =
 sel xs.isEmpty (∀ y:Bool,True→sel y (R (oClH [])) (sel (decide ((0+xs.length) * bytesT Tryz.prog 3≤140737488355328)) (sel (decide (0+xs.length≤9223372036854775807)) (R ⟨.v (.c (.hz 1 (0+xs.length))),[none,some (arI xs)]⟩) False) False))
  (sel (decide ((0+xs.length) * bytesT Tryz.prog 3≤140737488355328)) (sel (decide (0+xs.length≤9223372036854775807)) (R ⟨.v (.c (.hz 1 (0+xs.length))),[none,some (arI xs)]⟩) False) False):=by kernel_rfl
noncomputable def tclH:Con:=fun args regs=>match args,regs with
 | [.c (.l _ xs)],[]=>.must (args=[.c (.l .i64 xs)]∧xs.length≤1000000) (.ret (oClH xs))
 | _,_=>.fail
theorem kclH:KnownF Tryz.prog GL 97 tclH:=by
 refine kt_clH.less fun args regs R h=>Box.out ?_
 unfold tclH at h
 split at h
 case h_2=>exact h.elim
 rename_i xs
 obtain ⟨⟨h1,hl⟩,h⟩:=h
 rw [h1]
 refine Box.of_eq (clH_tree xs R) ?_
 have hb:=bytesI
 have h' : R ⟨.v (.c (.hz 1 (0+xs.length))),[none,some (arI xs)]⟩:=by rw [Nat.zero_add]; exact h
 have key:sel (decide ((0+xs.length) * bytesT Tryz.prog _≤140737488355328)) (sel (decide (0+xs.length≤9223372036854775807)) (R ⟨.v (.c (.hz 1 (0+xs.length))),[none,some (arI xs)]⟩) False) False:=sT (decide_eq_true (by rw [hb]; omega)) (sT (decide_eq_true (by omega)) h')
 cases hx:xs.isEmpty with
 | false=>exact sF rfl key
 | true=>
   refine sT rfl fun y _=>?_
   have e:xs=[]:=List.isEmpty_iff.1 hx
   subst e
   cases y with
   | true=>exact sT rfl h
   | false=>exact sF rfl key
noncomputable def c_hnum:FuncId→Option Con:=conOf [(90,t_pmg)]
theorem kc_hnum:∀ f T,c_hnum f=some T→Known Tryz.prog GL f T:=(Knowns.cons k_pmg .nil).get
noncomputable def t_hnum:Con:=fun args regs=>nfun Tryz.prog GL c_hnum [] Tryz.f186 args regs
theorem k_hnum:Known Tryz.prog GL 186 t_hnum:=known_inl Tryz.func186 rfl (by kernel_rfl) mixed kc_hnum (by kernel_rfl)
noncomputable def t_hpl:Con:=fun args regs=>nfun Tryz.prog GL (fun _=>Option.none) [] Tryz.f150 args regs
theorem k_hpl:Known Tryz.prog GL 150 t_hpl:=known_inl Tryz.func150 rfl (by kernel_rfl) mixed con_none (by kernel_rfl)
noncomputable def plc (n:Int):Ky:=match decide (n<100)||decide (n > 899) with
 | true=>(0,0,0)
 | false=>(IntKind.i64.wrap (n.tdiv 100),bits .or .i64 (shlv .i64 ((IntKind.i64.wrap (n.tdiv 10)).tmod 10) 4) (n.tmod 10),16255)
def plcB (n:Int):Bool:=!(decide (n<100)||decide (n > 899))
noncomputable def oPlc (x:Ky × Bool):Out:=⟨.tu [.ag (kyNC x.1),.c (.b x.2)],[]⟩
theorem hpl_tree (n:Int) (R:Out→Prop):(t_hpl [.c (.i .i64 n)] []).run R=sel (decide (n<100)) (R (oPlc ((0,0,0),false))) (sel (decide (n > 899)) (R (oPlc ((0,0,0),false))) (R (oPlc ((IntKind.i64.wrap (n.tdiv 100),bits .or .i64 (shlv .i64 ((IntKind.i64.wrap (n.tdiv 10)).tmod 10) 4) (n.tmod 10),16255),true)))):=by kernel_rfl
noncomputable def tHpl:Con:=fun args regs=>match args,regs with
 | [.c (.i _ n)],[]=>.must (args=[.c (.i .i64 n)]) (.ret (oPlc (plc n,plcB n)))
 | _,_=>.fail
theorem kHpl:Known Tryz.prog GL 150 tHpl:=by
 refine k_hpl.less fun args regs R h=>?_
 unfold tHpl at h
 split at h
 case h_2=>exact h.elim
 rename_i n
 obtain ⟨h1,h⟩:=h
 rw [h1]
 refine (Box.of_eq (hpl_tree n R) ?_).out
 have h:R (oPlc (plc n,plcB n)):=h
 unfold plc plcB at h
 cases h2:decide (n<100) with
 | true=>rw [h2] at h; exact sT rfl h
 | false=>
   cases h3:decide (n > 899) with
   | true=>rw [h2,h3] at h; exact sF rfl (sT rfl h)
   | false=>rw [h2,h3] at h; exact sF rfl (sF rfl h)
noncomputable def t_goes:Con:=fun args regs=>nfun Tryz.prog GL (fun _=>Option.none) [] Tryz.f151 args regs
theorem k_goes:Known Tryz.prog GL 151 t_goes:=known_inl Tryz.func151 rfl (by kernel_rfl) mixed con_none (by kernel_rfl)
noncomputable def c_rnum:FuncId→Option Con:=conOf [(186,t_hnum)]
theorem kc_rnum:∀ f T,c_rnum f=some T→Known Tryz.prog GL f T:=(Knowns.cons k_hnum .nil).get
noncomputable def t_rnum:Con:=fun args regs=>nfun Tryz.prog GL c_rnum [] Tryz.f153 args regs
theorem k_rnum:Known Tryz.prog GL 153 t_rnum:=known_inl Tryz.func153 rfl (by kernel_rfl) mixed kc_rnum (by kernel_rfl)
noncomputable def c_lsome:FuncId→Option Con:=conOf [(90,t_pmg)]
theorem kc_lsome:∀ f T,c_lsome f=some T→Known Tryz.prog GL f T:=(Knowns.cons k_pmg .nil).get
noncomputable def t_lsome:Con:=fun args regs=>nfun Tryz.prog GL c_lsome [] Tryz.f152 args regs
theorem k_lsome:Known Tryz.prog GL 152 t_lsome:=known_inl Tryz.func152 rfl (by kernel_rfl) mixed kc_lsome (by kernel_rfl)
noncomputable def c_foll:FuncId→Option Con:=conOf [(152,t_lsome),(151,t_goes)]
theorem kc_foll:∀ f T,c_foll f=some T→Known Tryz.prog GL f T:=(Knowns.cons k_lsome (.cons k_goes .nil)).get
noncomputable def t_foll:Con:=fun args regs=>nfun Tryz.prog GL c_foll [] Tryz.f99 args regs
theorem k_foll:Known Tryz.prog GL 99 t_foll:=known_inl Tryz.func99 rfl (by kernel_rfl) mixed kc_foll (by kernel_rfl)
noncomputable def c_subd:FuncId→Option Con:=conOf [(97,tclH)]
theorem kc_subd:∀ f T,c_subd f=some T→Known Tryz.prog GL f T:=(Knowns.cons kclH.known .nil).get
noncomputable def X_subd:Cx:={P:=Tryz.prog,con:=c_subd,glob:=GL,m:=0,loops:=[]}
noncomputable def t_subd:Con:=fun args regs=>if regs.length=0 then nfun Tryz.prog GL c_subd [(0,[2,4,6,23,24,25],unroll X_subd 0 [2,4,6,23,24,25] [2,4,6] (bodyLoop Tryz.f149 0) 5)] Tryz.f149 args regs else .fail
theorem k_subd:Known Tryz.prog GL 149 t_subd:=known_loops 0 Tryz.func149 rfl (by kernel_rfl) mixed kc_subd (LAll.one (id:=0) (body:=bodyLoop Tryz.f149 0) (by kernel_rfl) rfl (unroll_ok (X:=X_subd) kc_subd mixed (LAll.none (by kernel_rfl)) [2,4,6,23,24,25] [2,4,6] 5))
def rdRm:List NC→Option Rm
 | [.i _ a,.i _ b,.i _ c,.l _ ds,.l _ su,.b sub,.b hd,.b rv,.b mx]=>some ⟨a,b,c,ds,su,sub,hd,rv,mx⟩
 | _=>none
def nilsR:List (Nat × Nat × Nat × NC):=[(0,0,3,.l .i64 []),(0,0,4,.l .i64 [])]
noncomputable def t_subdC:Con:=softT [] [0] nilsR [] 0 t_subd
theorem k_subdC:Known Tryz.prog GL 149 t_subdC:=k_subd.soft [] [0] nilsR [] 0
noncomputable def oRm (x:Rm × Bool):Out:=⟨.tu [.ag x.1.nc,.c (.b x.2)],[]⟩
noncomputable def sub4 (xs:List Int):Int:=bits .and .i64 (IntKind.i64.wrap (shlv .i64 (IntKind.i64.wrap (shlv .i64 (IntKind.i64.wrap (shlv .i64 (IntKind.i64.wrap (0+xs.getD 0 0)) 4+xs.getD 1 0)) 4+xs.getD 2 0)) 4+xs.getD 3 0)) 16255
def snoc (xs:List Int) (d:Int):List Int:=List.take xs.length xs++List.take 1 (List.drop 0 [d])
theorem snoc_eq (xs:List Int) (d:Int):snoc xs d=xs++[d]:=by unfold snoc; rw [List.take_length]; rfl
noncomputable def apT (xs:List Int) (N:Prop):Prop:=sel (decide (xs.length≤xs.length)) (sel (decide ((xs.length+1) * bytesT Tryz.prog 3≤140737488355328)) (sel (decide (xs.length+1≤9223372036854775807)) N False) False) False
theorem apT_in {xs:List Int} {N:Prop} (h:xs.length≤1000) (hN:N):apT xs N:=by
 unfold apT
 rw [bytesI]
 exact sT (decide_eq_true (Nat.le_refl _)) (sT (decide_eq_true (by omega)) (sT (decide_eq_true (by omega)) hN))
noncomputable def subdT (s:Rm) (d:Int) (R:Out→Prop):Prop:=([NV.c (.l .i64 s.su)]=[.c (.l .i64 s.su)]∧s.su.length≤1000000)∧apT s.su
 (sel (decide (((s.su.length+1:Nat):Int)<4)) (s.su.length+1=(snoc s.su d).length∧R (oRm ({s with su:=snoc s.su d},false)))
   (sel (decide ((4:Int)≤((s.su.length+1:Nat):Int))) (sel (decide (0<(snoc s.su d).length)) (sel (decide (1<(snoc s.su d).length)) (sel (decide (2<(snoc s.su d).length)) (sel (decide (3<(snoc s.su d).length)) (R (oRm ({s with sb:=sub4 (snoc s.su d),su:=[],sub:=false},true))) False) False) False) False) False))
theorem subd_tree (s:Rm) (d:Int) (R:Out→Prop):(t_subdC [.ag s.nc,.c (.i .i64 d)] []).run R=subdT s d R:=by kernel_rfl
noncomputable def Rm.subd (s:Rm) (d:Int):Rm × Bool:=match decide (s.su.length<3) with
 | true=>({s with su:=s.su++[d]},false)
 | false=>({s with sb:=sub4 (s.su++[d]),su:=[],sub:=false},true)
noncomputable def tSubd:Con:=fun args regs=>match args,regs with
 | [.ag xs,.c (.i _ d)],[]=>(match rdRm xs with
   | some s=>.must (args=[.ag s.nc,.c (.i .i64 d)]∧s.su.length≤3) (.ret (oRm (s.subd d)))
   | none=>.fail)
 | _,_=>.fail
attribute [local irreducible] t_subdC in
theorem kSubd:Known Tryz.prog GL 149 tSubd:=by
 refine k_subdC.less fun args regs R h=>?_
 unfold tSubd at h
 split at h
 case h_2=>exact h.elim
 split at h
 case h_2=>exact h.elim
 rename_i s _
 obtain ⟨⟨h1,hl⟩,h⟩:=h
 rw [h1]
 refine (Box.of_eq (subd_tree s _ R) ⟨⟨rfl,by omega⟩,apT_in (by omega) ?_⟩).out
 rw [snoc_eq,List.length_append]
 unfold Rm.subd at h
 by_cases hc:s.su.length<3
 ·rw [decide_eq_true hc] at h
  exact sT (decide_eq_true (by omega)) ⟨rfl,h⟩
 ·rw [decide_eq_false hc] at h
  have e:([‹Int›]:List Int).length=1:=rfl
  exact sF (decide_eq_false (by omega)) (sT (decide_eq_true (by omega)) (sT (decide_eq_true (by omega)) (sT (decide_eq_true (by omega)) (sT (decide_eq_true (by omega)) (sT (decide_eq_true (by omega)) h)))))
noncomputable def c_dig:FuncId→Option Con:=conOf [(97,tclH),(149,tSubd),(150,tHpl),(151,t_goes)]
theorem kc_dig:∀ f T,c_dig f=some T→Known Tryz.prog GL f T:=(Knowns.cons kclH.known (.cons kSubd (.cons kHpl (.cons k_goes .nil)))).get
noncomputable def X_dig:Cx:={P:=Tryz.prog,con:=c_dig,glob:=GL,m:=0,loops:=[]}
noncomputable def t_dig:Con:=fun args regs=>if regs.length=0 then nfun Tryz.prog GL c_dig [(1,[2,4,6,47,48,49],unroll X_dig 1 [2,4,6,47,48,49] [2,4,6] (bodyLoop Tryz.f98 1) 4)] Tryz.f98 args regs else .fail
theorem k_dig:Known Tryz.prog GL 98 t_dig:=known_loops 0 Tryz.func98 rfl (by kernel_rfl) mixed kc_dig (LAll.one (id:=1) (body:=bodyLoop Tryz.f98 1) (by kernel_rfl) rfl (unroll_ok (X:=X_dig) kc_dig mixed (LAll.none (by kernel_rfl)) [2,4,6,47,48,49] [2,4,6] 4))
noncomputable def num3 (xs:List Int):Int:=IntKind.i64.wrap (IntKind.i64.wrap (10 * IntKind.i64.wrap (IntKind.i64.wrap (10 * IntKind.i64.wrap (IntKind.i64.wrap (10 * 0)+xs.getD 0 0))+xs.getD 1 0))+xs.getD 2 0)
def Rm.gone (s:Rm) (k:Ky):Rm:={s with mg:=k.1,pn:=k.2.1,sb:=k.2.2,ds:=[],hd:=false,rv:=false}
noncomputable def t_digC:Con:=softT [] [0] nilsR [] 0 t_dig
theorem k_digC:Known Tryz.prog GL 98 t_digC:=k_dig.soft [] [0] nilsR [] 0
noncomputable def dgM (s:Rm) (d:Int) (R:Out→Prop):Prop:=([NV.c (.l .i64 s.ds)]=[.c (.l .i64 s.ds)]∧s.ds.length≤1000000)∧apT s.ds
 (sel (decide (((s.ds.length+1:Nat):Int)<3)) (s.ds.length+1=(snoc s.ds d).length∧R (oRm ({s with ds:=snoc s.ds d},false)))
   (sel (decide ((3:Int)≤((s.ds.length+1:Nat):Int))) (sel (decide (0<(snoc s.ds d).length)) (sel (decide (1<(snoc s.ds d).length)) (sel (decide (2<(snoc s.ds d).length))
     ([NV.c (.i .i64 (num3 (snoc s.ds d)))]=[.c (.i .i64 (num3 (snoc s.ds d)))]∧sel (decide (s.ds.length+1≤(snoc s.ds d).length)) (R (oRm (s.gone (plc (num3 (snoc s.ds d))),true))) False) False) False) False) False))
noncomputable def digT (s:Rm) (d:Int) (R:Out→Prop):Prop:=sel s.sub (([NV.ag s.nc,.c (.i .i64 d)]=[.ag s.nc,.c (.i .i64 d)]∧s.su.length≤3)∧R (oRm (s.subd d)))
 (sel ((s.ds.length:Int)==0) (sel (decide (d<1)) (R (oRm (s,false))) (sel (decide (d > 8)) (R (oRm (s,false))) (dgM s d R))) (dgM s d R))
theorem dig_tree (s:Rm) (d:Int) (R:Out→Prop):(t_digC [.ag s.nc,.c (.i .i64 d)] []).run R=digT s d R:=by kernel_rfl
noncomputable def Rm.dig2 (s:Rm) (d:Int):Rm × Bool:=match s.ds.isEmpty&&(decide (d<1)||decide (d > 8)) with
 | true=>(s,false)
 | false=>match decide (s.ds.length<2) with
   | true=>({s with ds:=s.ds++[d]},false)
   | false=>(s.gone (plc (num3 (s.ds++[d]))),true)
noncomputable def Rm.dig (s:Rm) (d:Int):Rm × Bool:=match s.sub with
 | true=>s.subd d
 | false=>s.dig2 d
noncomputable def tDig:Con:=fun args regs=>match args,regs with
 | [.ag xs,.c (.i _ d)],[]=>(match rdRm xs with
   | some s=>.must (args=[.ag s.nc,.c (.i .i64 d)]∧s.su.length≤3∧s.ds.length≤2) (.ret (oRm (s.dig d)))
   | none=>.fail)
 | _,_=>.fail
theorem dgM_in {s:Rm} {d:Int} {R:Out→Prop} (hl:s.ds.length≤2) (h:R (oRm (match decide (s.ds.length<2) with | true=>({s with ds:=s.ds++[d]},false) | false=>(s.gone (plc (num3 (s.ds++[d]))),true)))):dgM s d R:=by
 refine ⟨⟨rfl,by omega⟩,apT_in (by omega) ?_⟩
 have e:(s.ds++[d]).length=s.ds.length+1:=by rw [List.length_append]; rfl
 rw [snoc_eq,e]
 by_cases hc:s.ds.length<2
 ·rw [decide_eq_true hc] at h
  exact sT (decide_eq_true (by omega)) ⟨rfl,h⟩
 ·rw [decide_eq_false hc] at h
  exact sF (decide_eq_false (by omega)) (sT (decide_eq_true (by omega)) (sT (decide_eq_true (by omega)) (sT (decide_eq_true (by omega)) (sT (decide_eq_true (by omega)) ⟨rfl,sT (decide_eq_true (Nat.le_refl _)) h⟩))))
attribute [local irreducible] t_digC in
theorem kDig:Known Tryz.prog GL 98 tDig:=by
 refine k_digC.less fun args regs R h=>?_
 unfold tDig at h
 split at h
 case h_2=>exact h.elim
 split at h
 case h_2=>exact h.elim
 rename_i d _ s _
 obtain ⟨⟨h1,hs,hl⟩,h⟩:=h
 rw [h1]
 refine (Box.of_eq (dig_tree s d R) ?_).out
 unfold digT
 have h:R (oRm (s.dig d)):=h
 unfold Rm.dig at h
 cases h2:s.sub with
 | true=>rw [h2] at h; exact sT rfl ⟨⟨rfl,hs⟩,h⟩
 | false=>
   rw [h2] at h
   have h:R (oRm (s.dig2 d)):=h
   unfold Rm.dig2 at h
   refine sF rfl ?_
   have e:((s.ds.length:Int)==0)=s.ds.isEmpty:=by
    cases s.ds with
    | nil=>rfl
    | cons x l=>rw [beq_eq_false_iff_ne.2 (by rw [List.length_cons]; omega)]; rfl
   rw [e]
   cases h3:s.ds.isEmpty with
   | false=>rw [h3] at h; exact sF rfl (dgM_in hl h)
   | true=>
     rw [h3] at h
     refine sT rfl ?_
     cases h4:decide (d<1) with
     | true=>rw [h4] at h; exact sT rfl h
     | false=>
       cases h5:decide (d > 8) with
       | true=>rw [h4,h5] at h; exact sF rfl (sT rfl h)
       | false=>rw [h4,h5] at h; exact sF rfl (sF rfl (dgM_in hl h))
def nine (n:Int):Int:=bif decide (9<n) then 9 else n
noncomputable def nmQ (a b:Int):Int:=bits .or .i64 (shlv .i64 (nine a) 4) (nine b)
noncomputable def nmH (pn:Int):Int:=nmQ (bits .and .i64 (shrv .i64 pn 4) 15) (bits .and .i64 pn 15)
noncomputable def nmV (mg q:Int):Int:=IntKind.i64.wrap (IntKind.i64.wrap (IntKind.i64.wrap (100 * mg)+IntKind.i64.wrap (10 * shrv .i64 q 4))+bits .and .i64 q 15)
noncomputable def oN (n:Int):Out:=⟨.v (.c (.i .i64 n)),[]⟩
noncomputable def rnumT (mg q:Int) (R:Out→Prop):Prop:=sel (decide (mg ≥ 1)) (sel (!decide (mg≤8)) (R (oN 0)) (sel (decide (q<0)) (R (oN 0)) (sel (decide (shrv .i64 q 4 ≥ 10)) (R (oN 0)) (sel (decide (bits .and .i64 q 15 ≥ 10)) (R (oN 0)) (R (oN (nmV mg q))))))) (R (oN 0))
theorem rnum_tree (mg pn sb:Int) (R:Out→Prop):(t_rnum [.ag (kyNC (mg,pn,sb))] []).run R=rnumT mg (nmH pn) R:=by kernel_rfl
def numW (mg pn:Int):Int:=match decide (1≤mg∧mg≤8) with
 | true=>100 * mg+10 * nine (pn / 16 % 16)+nine (pn % 16)
 | false=>0
theorem nm_all:∀ m<9,∀ a<16,∀ b<16,0≤nmQ (Int.ofNat a) (Int.ofNat b)∧shrv .i64 (nmQ (Int.ofNat a) (Int.ofNat b)) 4<10∧bits .and .i64 (nmQ (Int.ofNat a) (Int.ofNat b)) 15<10∧nmV (Int.ofNat m) (nmQ (Int.ofNat a) (Int.ofNat b))=100 * Int.ofNat m+10 * nine (Int.ofNat a)+nine (Int.ofNat b):=by decide +kernel
theorem nat_of {n:Int} {k:Nat} (h:0≤n∧n<(k:Int)):∃ m<k,n=Int.ofNat m:=⟨n.toNat,by omega,by show n=((n.toNat:Nat):Int); omega⟩
theorem nmH_eq (pn:Int):nmH pn=nmQ (pn / 16 % 16) (pn % 16):=by
 have e1:bits .and .i64 (shrv .i64 pn 4) 15=(shrv .i64 pn 4) % 16:=and_mask64 _ 4 (by decide)
 have e2:bits .and .i64 pn 15=pn % 16:=and_mask64 _ 4 (by decide)
 have e3:shrv .i64 pn 4=pn / 16:=shrv64 pn 4 (by decide)
 unfold nmH
 rw [e1,e2,e3]
noncomputable def tRnum:Con:=fun args regs=>match args,regs with
 | [.ag [.i _ mg,.i _ pn,.i _ sb]],[]=>.must (args=[.ag (kyNC (mg,pn,sb))]) (.ret (oN (numW mg pn)))
 | _,_=>.fail
attribute [local irreducible] t_rnum in
theorem kRnum:Known Tryz.prog GL 153 tRnum:=by
 refine k_rnum.less fun args regs R h=>?_
 unfold tRnum at h
 split at h
 case h_2=>exact h.elim
 rename_i _ mg _ pn _ sb
 obtain ⟨h1,h⟩:=h
 rw [h1]
 refine (Box.of_eq (rnum_tree mg pn sb R) ?_).out
 have h:R (oN (numW mg pn)):=h
 unfold rnumT
 unfold numW at h
 by_cases hm:1≤mg∧mg≤8
 ·rw [decide_eq_true hm] at h
  obtain ⟨m,hm9,rfl⟩:=nat_of (n:=mg) (k:=9) ⟨by omega,by omega⟩
  obtain ⟨x,hx,ex⟩:=nat_of (n:=pn / 16 % 16) (k:=16) ⟨by omega,by omega⟩
  obtain ⟨y,hy,ey⟩:=nat_of (n:=pn % 16) (k:=16) ⟨by omega,by omega⟩
  rw [nmH_eq,ex,ey]
  rw [ex,ey] at h
  obtain ⟨k1,k2,k3,k4⟩:=nm_all m hm9 x hx y hy
  refine sT (decide_eq_true hm.1) (sF (by rw [decide_eq_true hm.2]; rfl) (sF (decide_eq_false (by omega)) (sF (decide_eq_false (by omega)) (sF (decide_eq_false (by omega)) ?_))))
  rw [k4]
  exact h
 ·rw [decide_eq_false hm] at h
  by_cases h1:mg ≥ 1
  ·exact sT (decide_eq_true h1) (sT (by rw [decide_eq_false (show ¬ mg≤8 by omega)]; rfl) h)
  ·exact sF (decide_eq_false h1) h
noncomputable def c_turns:FuncId→Option Con:=conOf [(153,tRnum),(150,tHpl),(151,t_goes)]
theorem kc_turns:∀ f T,c_turns f=some T→Known Tryz.prog GL f T:=(Knowns.cons kRnum (.cons kHpl (.cons k_goes .nil))).get
noncomputable def t_turns:Con:=fun args regs=>nfun Tryz.prog GL c_turns [] Tryz.f100 args regs
theorem k_turns:Known Tryz.prog GL 100 t_turns:=known_inl Tryz.func100 rfl (by kernel_rfl) mixed kc_turns (by kernel_rfl)
noncomputable def t_turnC:Con:=softT [] [0] nilsR [] 0 t_turns
theorem k_turnC:Known Tryz.prog GL 100 t_turnC:=k_turns.soft [] [0] nilsR [] 0
noncomputable def goT (s:Rm) (n:Int) (R:Out→Prop):Prop:=[NV.c (.i .i64 n)]=[.c (.i .i64 n)]∧R (oRm (s.gone (plc n),true))
noncomputable def goN (s:Rm) (n:Int) (R:Out→Prop):Prop:=sel (decide (n > 899)) (goT s 100 R) (sel (decide (n<100)) (goT s 899 R) (goT s n R))
noncomputable def turnT (s:Rm) (by' : Int) (R:Out→Prop):Prop:=[NV.ag (kyNC s.ky)]=[.ag (kyNC s.ky)]∧sel (numW s.mg s.pn==0) (goN s (IntKind.i64.wrap (100+by')) R) (goN s (IntKind.i64.wrap (numW s.mg s.pn+by')) R)
theorem turn_tree (s:Rm) (n:Int) (R:Out→Prop):(t_turnC [.ag s.nc,.c (.i .i64 n)] []).run R=turnT s n R:=by kernel_rfl
noncomputable def turnN (mg pn by' : Int):Int:=
 match decide ((bif numW mg pn==0 then 100 else numW mg pn)+by' > 899) with
 | true=>100
 | false=>match decide ((bif numW mg pn==0 then 100 else numW mg pn)+by'<100) with
   | true=>899
   | false=>(bif numW mg pn==0 then 100 else numW mg pn)+by'
noncomputable def Rm.turn (s:Rm) (by' : Int):Rm × Bool:=(s.gone (plc (turnN s.mg s.pn by')),true)
theorem goN_in {s:Rm} {n:Int} {R:Out→Prop} (h:R (oRm (s.gone (plc (match decide (n > 899) with | true=>100 | false=>match decide (n<100) with | true=>899 | false=>n)),true))):goN s n R:=by
 unfold goN
 cases h1:decide (n > 899) with
 | true=>rw [h1] at h; exact sT rfl ⟨rfl,h⟩
 | false=>
   rw [h1] at h
   cases h2:decide (n<100) with
   | true=>rw [h2] at h; exact sF rfl (sT rfl ⟨rfl,h⟩)
   | false=>rw [h2] at h; exact sF rfl (sF rfl ⟨rfl,h⟩)
theorem nine_le {n:Int} (h:0≤n):0≤nine n∧nine n≤9:=by
 unfold nine
 by_cases h1:9<n
 ·rw [decide_eq_true h1]; show (0:Int)≤9∧(9:Int)≤9; omega
 ·rw [decide_eq_false h1]; show 0≤n∧n≤9; omega
theorem numW_le (mg pn:Int):0≤numW mg pn∧numW mg pn≤899:=by
 unfold numW
 by_cases hm:1≤mg∧mg≤8
 ·rw [decide_eq_true hm]
  have h1:=nine_le (n:=pn / 16 % 16) (by omega)
  have h2:=nine_le (n:=pn % 16) (by omega)
  show 0≤100 * mg+10 * nine (pn / 16 % 16)+nine (pn % 16)∧100 * mg+10 * nine (pn / 16 % 16)+nine (pn % 16)≤899
  omega
 ·rw [decide_eq_false hm]
  show (0:Int)≤0∧(0:Int)≤899
  omega
noncomputable def tTurn:Con:=fun args regs=>match args,regs with
 | [.ag xs,.c (.i _ n)],[]=>(match rdRm xs with
   | some s=>.must (args=[.ag s.nc,.c (.i .i64 n)]∧(n=1∨n=-1)) (.ret (oRm (s.turn n)))
   | none=>.fail)
 | _,_=>.fail
attribute [local irreducible] t_turnC in
theorem kTurn:Known Tryz.prog GL 100 tTurn:=by
 refine k_turnC.less fun args regs R h=>?_
 unfold tTurn at h
 split at h
 case h_2=>exact h.elim
 split at h
 case h_2=>exact h.elim
 rename_i n _ s _
 obtain ⟨⟨h1,hn⟩,h⟩:=h
 rw [h1]
 refine (Box.of_eq (turn_tree s n R) ⟨rfl,?_⟩).out
 have h:R (oRm (s.turn n)):=h
 unfold Rm.turn turnN at h
 have hb:=numW_le s.mg s.pn
 cases hz:numW s.mg s.pn==0 with
 | true=>
   rw [hz] at h
   have hw:IntKind.i64.wrap (100+n)=100+n:=by rw [IntKind.wrap_i64]; omega
   rw [hw]
   exact sT rfl (goN_in h)
 | false=>
   rw [hz] at h
   have hw:IntKind.i64.wrap (numW s.mg s.pn+n)=numW s.mg s.pn+n:=by rw [IntKind.wrap_i64]; omega
   rw [hw]
   exact sF rfl (goN_in h)
noncomputable def t_follC:Con:=softT [] [0] nilsR [] 0 t_foll
theorem k_follC:Known Tryz.prog GL 99 t_follC:=k_foll.soft [] [0] nilsR [] 0
noncomputable def follT (s:Rm) (k:Ky) (ln:Bool) (R:Out→Prop):Prop:=sel (!ln) (R (oRm (s,false))) (sel (decide (k.1 ≥ 1)) (sel (decide (k.1≤8)) (sel (!(k.2.1 !=255)) (R (oRm (s,false))) (R (oRm (s.gone k,true)))) (R (oRm (s,false)))) (R (oRm (s,false))))
def lkNC (l:List (List Sc)):NV:=.ag (rowsNC K3 l)
section
variable (s:Rm) (r0 r1 r2 r3 r4 r5:List Sc) (ln:Bool) (R:Out→Prop)
theorem foll_0:(t_follC [.ag s.nc,.c (.i .i64 0),lkNC [r0,r1,r2,r3,r4,r5],.c (.b ln)] []).run R=follT s (toKy r0) ln R:=by kernel_rfl
theorem foll_1:(t_follC [.ag s.nc,.c (.i .i64 1),lkNC [r0,r1,r2,r3,r4,r5],.c (.b ln)] []).run R=follT s (toKy r1) ln R:=by kernel_rfl
theorem foll_2:(t_follC [.ag s.nc,.c (.i .i64 2),lkNC [r0,r1,r2,r3,r4,r5],.c (.b ln)] []).run R=follT s (toKy r2) ln R:=by kernel_rfl
theorem foll_3:(t_follC [.ag s.nc,.c (.i .i64 3),lkNC [r0,r1,r2,r3,r4,r5],.c (.b ln)] []).run R=follT s (toKy r3) ln R:=by kernel_rfl
theorem foll_4:(t_follC [.ag s.nc,.c (.i .i64 4),lkNC [r0,r1,r2,r3,r4,r5],.c (.b ln)] []).run R=follT s (toKy r4) ln R:=by kernel_rfl
theorem foll_5:(t_follC [.ag s.nc,.c (.i .i64 5),lkNC [r0,r1,r2,r3,r4,r5],.c (.b ln)] []).run R=follT s (toKy r5) ln R:=by kernel_rfl
end
def Rm.foll (s:Rm) (k:Ky) (ln:Bool):Rm × Bool:=match ln&&(decide (1≤k.1∧k.1≤8)&&(k.2.1 !=255)) with
 | true=>(s.gone k,true)
 | false=>(s,false)
theorem foll_in {s:Rm} {k:Ky} {ln:Bool} {R:Out→Prop} (h:R (oRm (s.foll k ln))):follT s k ln R:=by
 unfold Rm.foll at h
 unfold follT
 cases ln with
 | false=>exact h
 | true=>
   refine sF rfl ?_
   by_cases h1:k.1 ≥ 1
   ·refine sT (decide_eq_true h1) ?_
    by_cases h2:k.1≤8
    ·refine sT (decide_eq_true h2) ?_
     rw [decide_eq_true (show 1≤k.1∧k.1≤8 from ⟨h1,h2⟩)] at h
     cases h3:(k.2.1 !=255) with
     | true=>rw [h3] at h; exact h
     | false=>rw [h3] at h; exact h
    ·rw [decide_eq_false (fun hh:1≤k.1∧k.1≤8=>h2 hh.2)] at h
     exact sF (decide_eq_false h2) h
   ·rw [decide_eq_false (fun hh:1≤k.1∧k.1≤8=>h1 hh.1)] at h
    exact sF (decide_eq_false h1) h
noncomputable def tFoll (lk:List (List Sc)):Con:=fun args regs=>match args,regs with
 | [.ag xs,.c (.i _ k),v,.c (.b ln)],[]=>(match rdRm xs with
   | some s=>.must (args=[.ag s.nc,.c (.i .i64 k),lkNC lk,.c (.b ln)]∧lk.length=6∧0≤k∧k≤5) (.ret (oRm (s.foll (toKy (lk.getD k.toNat [])) ln)))
   | none=>.fail)
 | _,_=>.fail
theorem list6 {α:Type} {l:List α} (h:l.length=6):∃ a b c d e f,l=[a,b,c,d,e,f]:=by
 match l,h with
 | [a,b,c,d,e,f],_=>exact ⟨a,b,c,d,e,f,rfl⟩
attribute [local irreducible] t_follC in
theorem kFoll (lk:List (List Sc)):Known Tryz.prog GL 99 (tFoll lk):=by
 refine k_follC.less fun args regs R h=>?_
 unfold tFoll at h
 split at h
 case h_2=>exact h.elim
 split at h
 case h_2=>exact h.elim
 rename_i k v ln _ s _
 obtain ⟨⟨h1,hl,h0,h5⟩,h⟩:=h
 rw [h1]
 obtain ⟨r0,r1,r2,r3,r4,r5,rfl⟩:=list6 hl
 have hk:k=0∨k=1∨k=2∨k=3∨k=4∨k=5:=by omega
 rcases hk with rfl | rfl | rfl | rfl | rfl | rfl
 ·exact (Box.of_eq (foll_0 s r0 r1 r2 r3 r4 r5 ln R) (foll_in h)).out
 ·exact (Box.of_eq (foll_1 s r0 r1 r2 r3 r4 r5 ln R) (foll_in h)).out
 ·exact (Box.of_eq (foll_2 s r0 r1 r2 r3 r4 r5 ln R) (foll_in h)).out
 ·exact (Box.of_eq (foll_3 s r0 r1 r2 r3 r4 r5 ln R) (foll_in h)).out
 ·exact (Box.of_eq (foll_4 s r0 r1 r2 r3 r4 r5 ln R) (foll_in h)).out
 ·exact (Box.of_eq (foll_5 s r0 r1 r2 r3 r4 r5 ln R) (foll_in h)).out
noncomputable def c_key (lk:List (List Sc)):FuncId→Option Con:=conOf [(97,tclIV),(98,tDig),(99,tFoll lk),(100,tTurn)]
theorem kc_key (lk:List (List Sc)):∀ f T,c_key lk f=some T→Known Tryz.prog GL f T:=(Knowns.cons kclIV (.cons kDig (.cons (kFoll lk) (.cons kTurn .nil)))).get
noncomputable def t_key (lk:List (List Sc)):Con:=fun args regs=>nfun Tryz.prog GL (c_key lk) [] Tryz.f51 args regs
theorem k_key (lk:List (List Sc)):Known Tryz.prog GL 51 (t_key lk):=known_inl Tryz.func51 rfl (by kernel_rfl) mixed (kc_key lk) (by kernel_rfl)
noncomputable def t_keyC (lk:List (List Sc)):Con:=softT [] [0,1] nilsR [] 0 (t_key lk)
theorem k_keyC (lk:List (List Sc)):Known Tryz.prog GL 51 (t_keyC lk):=(k_key lk).soft [] [0,1] nilsR [] 0
def K2 (s:Rm) (N:Prop):Prop:=([NV.c (.l .i64 s.ds)]=[.c (.l .i64 s.ds)]∧s.ds.length≤1000000)∧(([NV.c (.l .i64 s.su)]=[.c (.l .i64 s.su)]∧s.su.length≤1000000)∧N)
section
variable (s:Rm) (r0 r1 r2 r3 r4 r5:List Sc) (ln:Bool) (k:Int) (R:Out→Prop)
noncomputable abbrev KT (s:Rm) (r0 r1 r2 r3 r4 r5:List Sc) (ln:Bool) (k:Int):Tr Out:=t_keyC [r0,r1,r2,r3,r4,r5] [.ag s.nc,.c (.i .i64 k),lkNC [r0,r1,r2,r3,r4,r5],.c (.b ln)] []
def digA (s:Rm) (k:Int) (N:Prop):Prop:=([NV.ag s.nc,.c (.i .i64 k)]=[.ag s.nc,.c (.i .i64 k)]∧s.su.length≤3∧s.ds.length≤2)∧N
def folA (s:Rm) (l:List (List Sc)) (ln:Bool) (k:Int) (N:Prop):Prop:=([NV.ag s.nc,.c (.i .i64 k),lkNC l,.c (.b ln)]=[.ag s.nc,.c (.i .i64 k),lkNC l,.c (.b ln)]∧l.length=6∧0≤k∧k≤5)∧N
def trnA (s:Rm) (n:Int) (N:Prop):Prop:=([NV.ag s.nc,.c (.i .i64 n)]=[.ag s.nc,.c (.i .i64 n)]∧(n=1∨n=-1))∧N
theorem key_0:(KT s r0 r1 r2 r3 r4 r5 ln 0).run R=K2 s (digA s 0 (R (oRm (s.dig 0)))):=by kernel_rfl
theorem key_1:(KT s r0 r1 r2 r3 r4 r5 ln 1).run R=K2 s (digA s 1 (R (oRm (s.dig 1)))):=by kernel_rfl
theorem key_2:(KT s r0 r1 r2 r3 r4 r5 ln 2).run R=K2 s (digA s 2 (R (oRm (s.dig 2)))):=by kernel_rfl
theorem key_3:(KT s r0 r1 r2 r3 r4 r5 ln 3).run R=K2 s (digA s 3 (R (oRm (s.dig 3)))):=by kernel_rfl
theorem key_4:(KT s r0 r1 r2 r3 r4 r5 ln 4).run R=K2 s (digA s 4 (R (oRm (s.dig 4)))):=by kernel_rfl
theorem key_5:(KT s r0 r1 r2 r3 r4 r5 ln 5).run R=K2 s (digA s 5 (R (oRm (s.dig 5)))):=by kernel_rfl
theorem key_6:(KT s r0 r1 r2 r3 r4 r5 ln 6).run R=K2 s (digA s 6 (R (oRm (s.dig 6)))):=by kernel_rfl
theorem key_7:(KT s r0 r1 r2 r3 r4 r5 ln 7).run R=K2 s (digA s 7 (R (oRm (s.dig 7)))):=by kernel_rfl
theorem key_8:(KT s r0 r1 r2 r3 r4 r5 ln 8).run R=K2 s (digA s 8 (R (oRm (s.dig 8)))):=by kernel_rfl
theorem key_9:(KT s r0 r1 r2 r3 r4 r5 ln 9).run R=K2 s (digA s 9 (R (oRm (s.dig 9)))):=by kernel_rfl
theorem key_10:(KT s r0 r1 r2 r3 r4 r5 ln 10).run R=K2 s (R (oRm ({s with hd:=!s.hd},!!s.hd))):=by kernel_rfl
theorem key_11:(KT s r0 r1 r2 r3 r4 r5 ln 11).run R=K2 s (R (oRm ({s with rv:=!s.rv},false))):=by kernel_rfl
theorem key_12:(KT s r0 r1 r2 r3 r4 r5 ln 12).run R=K2 s (R (oRm ({s with mx:=!s.mx},false))):=by kernel_rfl
theorem key_13:(KT s r0 r1 r2 r3 r4 r5 ln 13).run R=K2 s (trnA s 1 (R (oRm (s.turn 1)))):=by kernel_rfl
theorem key_14:(KT s r0 r1 r2 r3 r4 r5 ln 14).run R=K2 s (trnA s (-1) (R (oRm (s.turn (-1))))):=by kernel_rfl
theorem key_15:(KT s r0 r1 r2 r3 r4 r5 ln 15).run R=K2 s (folA s [r0,r1,r2,r3,r4,r5] ln 0 (R (oRm (s.foll (toKy r0) ln)))):=by kernel_rfl
theorem key_16:(KT s r0 r1 r2 r3 r4 r5 ln 16).run R=K2 s (folA s [r0,r1,r2,r3,r4,r5] ln 1 (R (oRm (s.foll (toKy r1) ln)))):=by kernel_rfl
theorem key_17:(KT s r0 r1 r2 r3 r4 r5 ln 17).run R=K2 s (folA s [r0,r1,r2,r3,r4,r5] ln 2 (R (oRm (s.foll (toKy r2) ln)))):=by kernel_rfl
theorem key_18:(KT s r0 r1 r2 r3 r4 r5 ln 18).run R=K2 s (folA s [r0,r1,r2,r3,r4,r5] ln 3 (R (oRm (s.foll (toKy r3) ln)))):=by kernel_rfl
theorem key_19:(KT s r0 r1 r2 r3 r4 r5 ln 19).run R=K2 s (folA s [r0,r1,r2,r3,r4,r5] ln 5 (R (oRm (s.foll (toKy r5) ln)))):=by kernel_rfl
theorem key_20:(KT s r0 r1 r2 r3 r4 r5 ln 20).run R=K2 s (R (oRm ({s with sub:=true,su:=[],ds:=[]},false))):=by kernel_rfl
theorem key_21:(KT s r0 r1 r2 r3 r4 r5 ln 21).run R=K2 s (R (oRm ({s with sub:=false,mx:=false,su:=[],ds:=[]},false))):=by kernel_rfl
def w_lo (s:Rm) (k:Int):List RC:=[.m ([NV.c (.l .i64 s.ds)]=[.c (.l .i64 s.ds)]∧s.ds.length≤1000000),.m ([NV.c (.l .i64 s.su)]=[.c (.l .i64 s.su)]∧s.su.length≤1000000),.f (decide (k ≥ 0)),.F 3,.f (decide (k ≥ 15)),.F 3,.f (k==10),.f (k==11),.f (k==12),.f (k==13),.f (k==14),.f (k==19),.f (k==20),.f (k==21)]
def w_hi (s:Rm) (k:Int):List RC:=[.m ([NV.c (.l .i64 s.ds)]=[.c (.l .i64 s.ds)]∧s.ds.length≤1000000),.m ([NV.c (.l .i64 s.su)]=[.c (.l .i64 s.su)]∧s.su.length≤1000000),.t (decide (k ≥ 0)),.T 2,.f (decide (k≤9)),.t (decide (k ≥ 15)),.T 2,.f (decide (k≤18)),.f (k==10),.f (k==11),.f (k==12),.f (k==13),.f (k==14),.f (k==19),.f (k==20),.f (k==21)]
theorem key_lo:((KT s r0 r1 r2 r3 r4 r5 ln k).fol (scr (w_lo s k))).run R=road (w_lo s k) (R (oRm (s,false))):=by kernel_rfl
theorem key_hi:((KT s r0 r1 r2 r3 r4 r5 ln k).fol (scr (w_hi s k))).run R=road (w_hi s k) (R (oRm (s,false))):=by kernel_rfl
end
noncomputable def Rm.keyN (s:Rm) (lk:List (List Sc)) (ln:Bool):Nat→Rm × Bool
 | 10=>({s with hd:=!s.hd},!!s.hd)
 | 11=>({s with rv:=!s.rv},false)
 | 12=>({s with mx:=!s.mx},false)
 | 13=>s.turn 1
 | 14=>s.turn (-1)
 | 15=>s.foll (toKy (lk.getD 0 [])) ln
 | 16=>s.foll (toKy (lk.getD 1 [])) ln
 | 17=>s.foll (toKy (lk.getD 2 [])) ln
 | 18=>s.foll (toKy (lk.getD 3 [])) ln
 | 19=>s.foll (toKy (lk.getD 5 [])) ln
 | 20=>({s with sub:=true,su:=[],ds:=[]},false)
 | 21=>({s with sub:=false,mx:=false,su:=[],ds:=[]},false)
 | n=>match decide (n<10) with
   | true=>s.dig (n:Int)
   | false=>(s,false)
noncomputable def Rm.key (s:Rm) (k:Int) (lk:List (List Sc)) (ln:Bool):Rm × Bool:=match decide (0≤k) with
 | true=>s.keyN lk ln k.toNat
 | false=>(s,false)
structure Rm.ok (s:Rm):Prop where
 ds:s.ds.length≤2
 su:s.su.length≤3
noncomputable def tKey (lk:List (List Sc)):Con:=fun args regs=>match args,regs with
 | [.ag xs,.c (.i _ k),v,.c (.b ln)],[]=>(match rdRm xs with
   | some s=>.must (args=[.ag s.nc,.c (.i .i64 k),lkNC lk,.c (.b ln)]∧lk.length=6∧s.ok) (.ret (oRm (s.key k lk ln)))
   | none=>.fail)
 | _,_=>.fail
theorem K2_in {s:Rm} {N:Prop} (h:s.ok) (hN:N):K2 s N:=⟨⟨rfl,by have:=h.ds; omega⟩,⟨rfl,by have:=h.su; omega⟩,hN⟩
attribute [local irreducible] t_keyC in
theorem key_in (s:Rm) (r0 r1 r2 r3 r4 r5:List Sc) (ln:Bool) (k:Int) (R:Out→Prop) (hs:s.ok) (h:R (oRm (s.key k [r0,r1,r2,r3,r4,r5] ln))):Box ((KT s r0 r1 r2 r3 r4 r5 ln k).run R):=by
 by_cases h0:k<0
 ·have e:s.key k [r0,r1,r2,r3,r4,r5] ln=(s,false):=by unfold Rm.key; rw [decide_eq_false (show ¬ 0≤k by omega)]
  rw [e] at h
  refine ⟨by_road (key_lo s r0 r1 r2 r3 r4 r5 ln k R) ?_ h⟩
  refine ⟨⟨rfl,by have:=hs.ds; omega⟩,⟨rfl,by have:=hs.su; omega⟩,decide_eq_false (by omega),decide_eq_false (by omega),?_⟩
  refine ⟨?_,?_,?_,?_,?_,?_,?_,?_,trivial⟩ <;> exact beq_eq_false_iff_ne.2 (by omega)
 ·by_cases h1:22≤k
  ·have e:s.key k [r0,r1,r2,r3,r4,r5] ln=(s,false):=by
    unfold Rm.key
    rw [decide_eq_true (show 0≤k by omega)]
    show s.keyN [r0,r1,r2,r3,r4,r5] ln k.toNat=(s,false)
    obtain ⟨n,hn⟩:∃ n,k.toNat=n+22:=⟨k.toNat - 22,by omega⟩
    rw [hn]
    rfl
   rw [e] at h
   refine ⟨by_road (key_hi s r0 r1 r2 r3 r4 r5 ln k R) ?_ h⟩
   refine ⟨⟨rfl,by have:=hs.ds; omega⟩,⟨rfl,by have:=hs.su; omega⟩,decide_eq_true (by omega),decide_eq_false (by omega),decide_eq_true (by omega),decide_eq_false (by omega),?_⟩
   refine ⟨?_,?_,?_,?_,?_,?_,?_,?_,trivial⟩ <;> exact beq_eq_false_iff_ne.2 (by omega)
  ·have hk:k=0∨k=1∨k=2∨k=3∨k=4∨k=5∨k=6∨k=7∨k=8∨k=9∨k=10∨k=11∨k=12∨k=13∨k=14∨k=15∨k=16∨k=17∨k=18∨k=19∨k=20∨k=21:=by omega
   clear h0 h1
   have dg:∀ n:Int,digA s n (R (oRm (s.dig n)))↔R (oRm (s.dig n)):=fun n=>⟨fun x=>x.2,fun x=>⟨⟨rfl,hs.su,hs.ds⟩,x⟩⟩
   rcases hk with rfl | rfl | rfl | rfl | rfl | rfl | rfl | rfl | rfl | rfl | rfl | rfl | rfl | rfl | rfl | rfl | rfl | rfl | rfl | rfl | rfl | rfl
   ·exact Box.of_eq (key_0 s r0 r1 r2 r3 r4 r5 ln R) (K2_in hs ((dg 0).2 h))
   ·exact Box.of_eq (key_1 s r0 r1 r2 r3 r4 r5 ln R) (K2_in hs ((dg 1).2 h))
   ·exact Box.of_eq (key_2 s r0 r1 r2 r3 r4 r5 ln R) (K2_in hs ((dg 2).2 h))
   ·exact Box.of_eq (key_3 s r0 r1 r2 r3 r4 r5 ln R) (K2_in hs ((dg 3).2 h))
   ·exact Box.of_eq (key_4 s r0 r1 r2 r3 r4 r5 ln R) (K2_in hs ((dg 4).2 h))
   ·exact Box.of_eq (key_5 s r0 r1 r2 r3 r4 r5 ln R) (K2_in hs ((dg 5).2 h))
   ·exact Box.of_eq (key_6 s r0 r1 r2 r3 r4 r5 ln R) (K2_in hs ((dg 6).2 h))
   ·exact Box.of_eq (key_7 s r0 r1 r2 r3 r4 r5 ln R) (K2_in hs ((dg 7).2 h))
   ·exact Box.of_eq (key_8 s r0 r1 r2 r3 r4 r5 ln R) (K2_in hs ((dg 8).2 h))
   ·exact Box.of_eq (key_9 s r0 r1 r2 r3 r4 r5 ln R) (K2_in hs ((dg 9).2 h))
   ·exact Box.of_eq (key_10 s r0 r1 r2 r3 r4 r5 ln R) (K2_in hs h)
   ·exact Box.of_eq (key_11 s r0 r1 r2 r3 r4 r5 ln R) (K2_in hs h)
   ·exact Box.of_eq (key_12 s r0 r1 r2 r3 r4 r5 ln R) (K2_in hs h)
   ·exact Box.of_eq (key_13 s r0 r1 r2 r3 r4 r5 ln R) (K2_in hs ⟨⟨rfl,.inl rfl⟩,h⟩)
   ·exact Box.of_eq (key_14 s r0 r1 r2 r3 r4 r5 ln R) (K2_in hs ⟨⟨rfl,.inr rfl⟩,h⟩)
   ·exact Box.of_eq (key_15 s r0 r1 r2 r3 r4 r5 ln R) (K2_in hs ⟨⟨rfl,rfl,by decide,by decide⟩,h⟩)
   ·exact Box.of_eq (key_16 s r0 r1 r2 r3 r4 r5 ln R) (K2_in hs ⟨⟨rfl,rfl,by decide,by decide⟩,h⟩)
   ·exact Box.of_eq (key_17 s r0 r1 r2 r3 r4 r5 ln R) (K2_in hs ⟨⟨rfl,rfl,by decide,by decide⟩,h⟩)
   ·exact Box.of_eq (key_18 s r0 r1 r2 r3 r4 r5 ln R) (K2_in hs ⟨⟨rfl,rfl,by decide,by decide⟩,h⟩)
   ·exact Box.of_eq (key_19 s r0 r1 r2 r3 r4 r5 ln R) (K2_in hs ⟨⟨rfl,rfl,by decide,by decide⟩,h⟩)
   ·exact Box.of_eq (key_20 s r0 r1 r2 r3 r4 r5 ln R) (K2_in hs h)
   ·exact Box.of_eq (key_21 s r0 r1 r2 r3 r4 r5 ln R) (K2_in hs h)
attribute [local irreducible] t_keyC in
theorem kKey (lk:List (List Sc)):Known Tryz.prog GL 51 (tKey lk):=by
 refine (k_keyC lk).less fun args regs R h=>?_
 unfold tKey at h
 split at h
 case h_2=>exact h.elim
 split at h
 case h_2=>exact h.elim
 rename_i k v ln _ s _
 obtain ⟨⟨h1,hl,hs⟩,h⟩:=h
 rw [h1]
 obtain ⟨r0,r1,r2,r3,r4,r5,rfl⟩:=list6 hl
 exact (key_in s r0 r1 r2 r3 r4 r5 ln k R hs h).out
noncomputable def rcN (V:Rv):Reg:=rcReg 1 V.s.nc pgZ .sn V.fd V.tk
noncomputable def inVn (V:Rv):List Reg:=[rcN V,mcG 2 V.m.v V.m.inf,stN 3 V.m.st.sto,ac.mpReg V.m.st.sto.m,ordReg (kyRows V.m.st.sto.l)]
def rdRn:List Reg→Option Rv
 | ⟨_,_,.sg [.cells [.p _ _ _,.i _ a,.i _ b,.i _ c,.l _ ds,.l _ su,.b sub,.b hd,.b rv,.b mx,.i _ _,.i _ _,.i _ _],.recs _ _ _,.cells [.i _ _],.ints _ _ _,.recs _ _ _,.cells [.sn],.recs _ _ _,.cells [.b _,.i _ _,.b fd,.i _ tk]]⟩::rest=>(match rdMc rest with
   | some M=>some ⟨M,⟨a,b,c,ds,su,sub,hd,rv,mx⟩,pgZ,fd,tk⟩
   | none=>none)
 | _=>none
noncomputable def showN (V:Rv) (q:Pg) (is:Bool) (R:Out→Prop):Prop:=sel is ((inM V.m=inM (mac.bk V.m)∧(mac.bk V.m).ok)∧[NV.c (.p 0 0 0),.ag (kyNC (kyP q))]=[.c (.p 0 0 0),.ag (kyNC (kyP q))]∧R (oRv (V.bk.shown (q,true)))) (R ⟨.tu [],(inVn V).map some⟩)
theorem show_treeN (V:Rv) (q:Pg) (is:Bool) (R:Out→Prop):(t_show [.c (.p 0 0 0),pgV q,.c (.b is)] (inVn V)).run R=showN V q is R:=by kernel_rfl
noncomputable def tShowN:Con:=fun args regs=>match args with
 | [.c (.p 0 0 0),v,.c (.b is)]=>(match sto.rdPg v,rdRn regs with
   | some q,some V=>.must (args=[.c (.p 0 0 0),pgV q,.c (.b is)]∧regs=inVn V∧V.m.ok) (.br is (.ret (oRv (V.shown (q,true)))) (.ret ⟨.tu [],(inVn V).map some⟩))
   | _,_=>.fail)
 | _=>.fail
attribute [local irreducible] t_show in
theorem kShowN:Known Tryz.prog GL 35 tShowN:=by
 refine k_show.less fun args regs R h=>?_
 unfold tShowN at h
 split at h
 case h_2=>exact h.elim
 rename_i v is
 split at h
 case h_2=>exact h.elim
 rename_i q V _ _
 obtain ⟨⟨h1,h2,hV⟩,h⟩:=h
 rw [h1,h2]
 refine (Box.of_eq (show_treeN V q is R) ?_).out
 unfold showN
 rw [V.bk_eq hV.1,mac.bk_eq _ hV.1]
 have h:sel is (R (oRv (V.shown (q,true)))) (R ⟨.tu [],(inVn V).map some⟩):=h
 cases is with
 | true=>exact sT rfl ⟨⟨rfl,hV⟩,rfl,h⟩
 | false=>exact sF rfl h
noncomputable def shAny:Bool→Con
 | true=>tShow
 | false=>tShowN
noncomputable def tShowA:Con:=fun args regs=>match rdRv regs with
 | some _=>tShow args regs
 | none=>tShowN args regs
theorem kShowA:Known Tryz.prog GL 35 tShowA:=by
 refine Known_any (T:=shAny) true (fun b=>by cases b; exact kShowN; exact kShow) fun args regs R h=>?_
 unfold tShowA at h
 split at h
 ·exact ⟨true,h⟩
 ·exact ⟨false,h⟩
noncomputable def c_rkey (lk:List (List Sc)):FuncId→Option Con:=conOf [(51,tKey lk),(52,tMfree),(36,tFd),(35,tShowA)]
theorem kc_rkey (lk:List (List Sc)):∀ f T,c_rkey lk f=some T→Known Tryz.prog GL f T:=(Knowns.cons (kKey lk) (.cons kMfree (.cons kFd (.cons kShowA .nil)))).get
noncomputable def t_rkey (lk:List (List Sc)):Con:=fun args regs=>nfun Tryz.prog GL (c_rkey lk) [] Tryz.f18 args regs
theorem k_rkey (lk:List (List Sc)):Known Tryz.prog GL 18 (t_rkey lk):=known_inl Tryz.func18 rfl (by kernel_rfl) mixed (kc_rkey lk) (by kernel_rfl)
noncomputable def t_rkeyC (lk:List (List Sc)):Con:=softT [] [] [] [(0,5,0,.lr K3 [])] 5 (t_rkey lk)
theorem k_rkeyC (lk:List (List Sc)):Known Tryz.prog GL 18 (t_rkeyC lk):=(k_rkey lk).soft [] [] [] [(0,5,0,.lr K3 [])] 5
def Rv.with (V:Rv) (s:Rm):Rv:={V with s:=s}
def Rv.fresh (V:Rv) (s:Rm):Rv:={V with s:=s,p:=pgZ,fd:=false,m:=Mc.freed V.m}
noncomputable def Rv.key (V:Rv) (k:Int):Rv:=match (V.s.key k V.p.lk (V.fd&&V.p.ld)).2 with
 | true=>(V.fresh (V.s.key k V.p.lk (V.fd&&V.p.ld)).1).shown ((Mc.freed V.m).find (V.s.key k V.p.lk (V.fd&&V.p.ld)).1.ky)
 | false=>V.with (V.s.key k V.p.lk (V.fd&&V.p.ld)).1
noncomputable def askT (V:Rv) (M:Mc) (s:Rm) (R:Out→Prop):Prop:=(inM M=inM (mac.bk M)∧(mac.bk M).ok)∧(([NV.c (.p 0 0 0),.ag (kyNC s.ky)]=[.c (.p 0 0 0),.ag (kyNC s.ky)]∧(mac.bk M).good)∧
 (([NV.c (.p 0 0 0),pgV ((mac.bk M).find s.ky).1,.c (.b ((mac.bk M).find s.ky).2)]=[.c (.p 0 0 0),pgV ((mac.bk M).find s.ky).1,.c (.b ((mac.bk M).find s.ky).2)]∧inVn ⟨mac.bk M,s,pgZ,false,V.tk⟩=inVn (Rv.bk ⟨mac.bk M,s,pgZ,false,V.tk⟩)∧(Rv.bk ⟨mac.bk M,s,pgZ,false,V.tk⟩).m.ok)∧
   sel ((mac.bk M).find s.ky).2 (R (oRv ((Rv.bk ⟨mac.bk M,s,pgZ,false,V.tk⟩).shown (((mac.bk M).find s.ky).1,true)))) (R (oRv (Rv.bk ⟨mac.bk M,s,pgZ,false,V.tk⟩)))))
noncomputable def keyP (V:Rv) (lk:List (List Sc)) (k:Int) (ln:Bool) (R:Out→Prop):Prop:=([NV.ag V.s.nc,.c (.i .i64 k),lkNC lk,.c (.b ln)]=[.ag V.s.nc,.c (.i .i64 k),lkNC lk,.c (.b ln)]∧lk.length=6∧V.s.ok)∧
 sel (V.s.key k lk ln).2 ((inM V.m=inM (mac.bk V.m)∧(mac.bk V.m).ok)∧askT V (Mc.freed (mac.bk V.m)) (V.s.key k lk ln).1 R) (R (oRv (V.with (V.s.key k lk ln).1)))
def Rv.lks (V:Rv) (l:List (List Sc)):Rv:={V with p:={V.p with lk:=l}}
noncomputable def rkeyT (V:Rv) (lk:List (List Sc)) (k:Int) (R:Out→Prop):Prop:=sel V.fd (keyP V lk k V.p.ld R) (keyP V lk k false R)
theorem rkey_tree (V:Rv) (r0 r1 r2 r3 r4 r5:List Sc) (k:Int) (R:Out→Prop):(t_rkeyC [r0,r1,r2,r3,r4,r5] [.c (.p 0 0 0),.c (.i .i64 k)] (inV (V.lks [r0,r1,r2,r3,r4,r5]))).run R=rkeyT (V.lks [r0,r1,r2,r3,r4,r5]) [r0,r1,r2,r3,r4,r5] k R:=by kernel_rfl
theorem freed_good {M:Mc} (h:M.good):(Mc.freed M).good:=⟨h.far,h.nd,h.m1,h.m8,h.len,h.fit,h.vfit,h.txt⟩
theorem pinned_good {M:Mc} (h:M.good) (k:Ky):(Mc.pinned M k).good:=⟨h.far,h.nd,h.m1,h.m8,h.len,h.fit,h.vfit,h.txt⟩
theorem askT_in {V:Rv} {M:Mc} {s:Rm} {R:Out→Prop} (hM:M.good) (h:R (oRv (Rv.shown ⟨M,s,pgZ,false,V.tk⟩ (M.find s.ky)))):askT V M s R:=by
 unfold askT
 have e:Rv.bk ⟨M,s,pgZ,false,V.tk⟩=⟨M,s,pgZ,false,V.tk⟩:=Rv.bk_eq _ hM.far
 rw [hM.bk,e]
 refine ⟨⟨rfl,hM.ok⟩,⟨rfl,hM⟩,⟨rfl,rfl,hM.ok⟩,?_⟩
 unfold Rv.shown at h
 cases hf:(M.find s.ky).2 with
 | true=>rw [hf] at h; exact sT rfl h
 | false=>rw [hf] at h; exact sF rfl h
theorem keyP_in {V:Rv} {k:Int} {ln:Bool} {R:Out→Prop} (hl:V.p.lk.length=6) (hs:V.s.ok) (hM:V.m.good)
  (h:R (oRv (match (V.s.key k V.p.lk ln).2 with
    | true=>(V.fresh (V.s.key k V.p.lk ln).1).shown ((Mc.freed V.m).find (V.s.key k V.p.lk ln).1.ky)
    | false=>V.with (V.s.key k V.p.lk ln).1))):keyP V V.p.lk k ln R:=by
 refine ⟨⟨rfl,hl,hs⟩,?_⟩
 rw [hM.bk]
 cases hk:(V.s.key k V.p.lk ln).2 with
 | true=>rw [hk] at h; exact sT rfl ⟨⟨rfl,hM.ok⟩,askT_in (freed_good hM) h⟩
 | false=>rw [hk] at h; exact sF rfl h
theorem rkey_in {V:Rv} {k:Int} {R:Out→Prop} (hl:V.p.lk.length=6) (hs:V.s.ok) (hM:V.m.good) (h:R (oRv (V.key k))):rkeyT V V.p.lk k R:=by
 unfold rkeyT
 unfold Rv.key at h
 cases hf:V.fd with
 | true=>rw [hf] at h; exact sT rfl (keyP_in hl hs hM h)
 | false=>rw [hf] at h; exact sF rfl (keyP_in hl hs hM h)
noncomputable def tRkey:Con:=fun args regs=>match args with
 | [.c (.p 0 0 0),.c (.i _ k)]=>onV regs fun V=>.must (args=[.c (.p 0 0 0),.c (.i .i64 k)]∧V.p.lk.length=6∧V.s.ok∧V.m.good) (.ret (oRv (V.key k)))
 | _=>.fail
attribute [local irreducible] t_rkeyC in
theorem kRkey:Known Tryz.prog GL 18 tRkey:=by
 refine Known_any (T:=t_rkeyC) [] k_rkeyC fun args regs R h=>?_
 unfold tRkey at h
 split at h
 case h_2=>exact h.elim
 rename_i _ k
 obtain ⟨V,rfl,hV,⟨h1,hl,hs,hg⟩,h⟩:=onV_elim h
 rw [h1]
 refine ⟨V.p.lk,?_⟩
 obtain ⟨r0,r1,r2,r3,r4,r5,hr⟩:=list6 hl
 have e:V=V.lks [r0,r1,r2,r3,r4,r5]:=by unfold Rv.lks; rw [← hr]
 have hh:=rkey_in (R:=R) hl hs hg h
 rw [hr] at hh ⊢
 have t:=rkey_tree V r0 r1 r2 r3 r4 r5 k R
 rw [← e] at t
 exact (Box.of_eq t hh).out
def hexD:ByteArray:=⟨#[48,49,50,51,52,53,54,55,56,57,97,98,99,100,101,102]⟩
def qd (a:Int):Int:=(IntKind.i64.wrap (a.tmod 10+10)).tmod 10
noncomputable def nib4 (p:Int):Int:=bits .and .i64 (shrv .i64 p 4) 15
noncomputable def nib0 (p:Int):Int:=bits .and .i64 p 15
noncomputable def line0 (m p:Int):ByteArray:=⟨#[80]⟩++strOfNums [byteAt hexD (qd m).toNat,byteAt hexD (nib4 p).toNat,byteAt hexD (nib0 p).toNat]++⟨#[32,32,32,32]⟩
noncomputable def oS (s:ByteArray):Out:=⟨.v (.c (.s s)),[]⟩
noncomputable def rlT (m p:Int) (R:Out→Prop):Prop:=sel (decide (0≤qd m)) (sel (decide (qd m<16)) (sel (decide (0≤nib4 p)) (sel (decide (nib4 p<16)) (sel (decide (0≤nib0 p)) (sel (decide (nib0 p<16)) (R (oS (line0 m p))) False) False) False) False) False) False
theorem qd_in (m:Int):0≤qd m∧qd m<16:=by
 have hk:∀ k<19,0≤((Int.ofNat k+1).tmod 10)∧((Int.ofNat k+1).tmod 10)<16:=by decide
 have h1:=Int.tmod_lt_of_pos m (show (0:Int)<10 by decide)
 have h2 : -10<m.tmod 10:=by
  have:=Int.lt_tmod_of_pos m (show (0:Int)<10 by decide)
  omega
 unfold qd
 have hw:IntKind.i64.wrap (m.tmod 10+10)=m.tmod 10+10:=by rw [IntKind.wrap_i64]; omega
 rw [hw]
 have:=hk (m.tmod 10+9).toNat (by omega)
 have e:Int.ofNat (m.tmod 10+9).toNat+1=m.tmod 10+10:=by show (((m.tmod 10+9).toNat:Nat):Int)+1=_; omega
 rw [e] at this
 exact this
theorem nib_in (n:Int):0≤bits .and .i64 n 15∧bits .and .i64 n 15<16:=by
 have e:bits .and .i64 n 15=n % 16:=and_mask64 _ 4 (by decide)
 rw [e]
 omega
noncomputable def stNC (V:Rv) (l:ByteArray):List NC:=[.i .i64 V.s.mg,.i .i64 V.s.pn,.i .i64 V.s.sb,.b V.fd,.i .i64 V.p.mg,.i .i64 V.p.pn,.i .i64 V.p.sb,.s l,.i .i64 (kyRows (V.m.st.L.map kyP)).length,.i .i64 V.tk]
noncomputable def oSv (V:Rv) (l:ByteArray):Out:=⟨.v (.ag [.i .i64 V.s.mg,.i .i64 V.s.pn,.i .i64 V.s.sb,.b V.fd,.i .i64 V.p.mg,.i .i64 V.p.pn,.i .i64 V.p.sb,.s l,.i .i64 V.m.st.L.length,.i .i64 V.tk]),(inV V).map some⟩
end rv
namespace rv
open sto (sT sF Ky Sp kyP kyNC)
open ac (Pg pgZ)
open Go Go.Nx pk mac bm rv
theorem shown_good {V:Rv} (h:V.m.good) (x:Pg × Bool):(V.shown x).m.good:=by
 unfold Rv.shown
 split
 ·exact pinned_good h _
 ·exact h
end rv
namespace ke
open sto (sT sF Ky Sp kyP kyNC kyRows ordReg)
open ac (Pg pgZ)
open Go Go.Nx pk mac bm rv
noncomputable abbrev f_li:=Tryz.f26
noncomputable def X_li:Cx:={P:=Tryz.prog,con:=fun _=>Option.none,glob:=GL,m:=0,loops:=[]}
noncomputable def sLi (l:List Dv) (i:Int):St:={fr:=frame 50 [(0,.v (.c (.lt dvSch (l.map Dv.fc)))),(5,.v (.c (.i .i64 i)))],rg:=[]}
noncomputable def eLi:St:={fr:=frame 50 [(4,.v (.c (.b false)))],rg:=[]}
noncomputable def dLi:St:={fr:=frame 50 [],rg:=[]}
noncomputable def rLi (s:St):Tr RO:=roundT X_li 0 [0,5] [4] (bodyLoop f_li 0) s
def rwK (l:List Dv) (i:Int):Dv:=ofFc ((l.map Dv.fc).getD i.toNat [])
noncomputable def li1 (l:List Dv) (i:Int) (xs:List Int) (R:RO→Prop) (A:Prop):Prop:=ixU i (l.map Dv.fc).length (sel (decide ((xs.length:Int) > 60)) (R (.done .ret eLi)) A)
theorem li_tree (l:List Dv) (i:Int) (R:RO→Prop):(rLi (sLi l i)).run R =
 sel (decide (i<((l.map Dv.fc).length:Int))) (li1 l i (rwK l i).L R (li1 l i (rwK l i).T R (li1 l i (rwK l i).W R (li1 l i (rwK l i).B R (R (.next (sLi l (IntKind.i64.wrap (i+1))))))))) (R (.done .normal dLi)):=by kernel_rfl
def smallD (d:Dv):Bool:=!decide ((d.L.length:Int) > 60)&&(!decide ((d.T.length:Int) > 60)&&(!decide ((d.W.length:Int) > 60)&&!decide ((d.B.length:Int) > 60)))
theorem rwK_eq {l:List Dv} {i:Nat} (h:i<l.length):rwK l (i:Int)=l[i]:=by
 unfold rwK
 have e:((i:Nat):Int).toNat=i:=by simp
 rw [e,List.getD_eq_getElem?_getD,List.getElem?_map,List.getElem?_eq_getElem h]
 exact ofFc_fc _
structure ALi where
 l:List Dv
 i:Nat
noncomputable def hLi (x:ALi):St:=sLi x.l (x.i:Int)
def preLi (x:ALi) (R:NExit × St→Prop):Prop:=(x.i≤x.l.length∧x.l.length≤1000000)∧sel ((x.l.drop x.i).all smallD) (R (.normal,dLi)) (R (.ret,eLi))
def nxtLi (x:ALi) (R:NExit × St→Prop) (q:RO):Prop:=match q with
 | .next s=>∃ y,s=hLi y∧y.l.length - y.i<x.l.length - x.i∧preLi y R
 | .done e s=>R (e,s)
theorem li_step {l:List Dv} {i:Nat} {xs:List Int} {R:RO→Prop} {A E:Prop} {b:Bool} (hi:i<l.length) (h:sel (!decide ((xs.length:Int) > 60)&&b) A (R (.done .ret eLi))) (hA:sel b A (R (.done .ret eLi))→E):li1 l (i:Int) xs R E:=by
 unfold li1
 refine ixU_in ⟨by omega,by rw [List.length_map]; omega⟩ ?_
 cases hd:decide ((xs.length:Int) > 60) with
 | true=>rw [hd] at h; exact sT rfl h
 | false=>rw [hd] at h; exact sF rfl (hA h)
theorem li_in (x:ALi) (R:NExit × St→Prop) (h:preLi x R):Box ((rLi (hLi x)).run (nxtLi x R)):=by
 obtain ⟨l,i⟩:=x
 obtain ⟨⟨h1,h2⟩,hR⟩:=h
 simp only at h1 h2 hR
 have hw:IntKind.i64.wrap ((i:Int)+1)=((i+1:Nat):Int):=by rw [IntKind.wrap_i64]; omega
 refine Box.of_eq (li_tree l (i:Int) _) ?_
 by_cases hk:i<l.length
 ·refine sT (decide_eq_true (by rw [List.length_map]; omega)) ?_
  rw [rwK_eq hk,hw]
  rw [List.drop_eq_getElem_cons hk,List.all_cons] at hR
  have h0:sel (smallD l[i]&&true) (nxtLi ⟨l,i⟩ R (.next (hLi ⟨l,i+1⟩))) (nxtLi ⟨l,i⟩ R (.done .ret eLi)):=by
   rw [Bool.and_true]
   cases hs:smallD l[i] with
   | true=>
     rw [hs,Bool.true_and] at hR
     exact ⟨⟨l,i+1⟩,rfl,by simp only; omega,⟨by simp only; omega,h2⟩,hR⟩
   | false=>
     rw [hs,Bool.false_and] at hR
     exact hR
  rw [Bool.and_true] at h0
  unfold smallD at h0
  refine li_step hk h0 fun h0=>li_step hk h0 fun h0=>li_step hk h0 fun h0=>li_step (b:=true) hk (by rw [Bool.and_true]; exact h0) fun h0=>?_
  exact h0
 ·refine sF (decide_eq_false (by rw [List.length_map]; omega)) ?_
  rw [List.drop_eq_nil_iff.2 (by omega)] at hR
  exact hR
def rdLi (s:St):Option (List Dv):=match s.fr[(0:Nat)]? with
 | some (.v (.c (.lt _ xs)))=>some (xs.map ofFc)
 | _=>none
noncomputable def lLi (s:St):Tr (NExit × St):=match rdLi s with
 | some l=>.must (s=sLi l 0∧l.length≤1000000) (.br (l.all smallD) (.ret (.normal,dLi)) (.ret (.ret,eLi)))
 | none=>.fail
theorem loop_li:LOk Tryz.prog GL 0 0 (bodyLoop f_li 0) lLi:=by
 refine loop_ok (X:=X_li) con_none mixed (LAll.none (by kernel_rfl)) [0,5] [4] hLi (fun x=>x.l.length - x.i) preLi ?_ ?_
 ·intro s R h
  unfold lLi at h
  split at h
  case h_2=>exact h.elim
  rename_i l hx
  obtain ⟨⟨hs,hl⟩,hR⟩:=h
  exact ⟨⟨l,0⟩,hs,⟨Nat.zero_le _,hl⟩,hR⟩
 ·intro x R h
  exact Tr.run_mono _ (fun q hq=>hq) (li_in x R h).out
noncomputable def t_li:Con:=fun args regs=>if regs.length=0 then nfun Tryz.prog GL (fun _=>Option.none) [(0,[0,5],lLi)] f_li args regs else .fail
theorem k_li:Known Tryz.prog GL 26 t_li:=known_loops 0 Tryz.func26 rfl (by kernel_rfl) mixed con_none (LAll.one (id:=0) (body:=bodyLoop f_li 0) (by kernel_rfl) rfl loop_li)
noncomputable def oBl (b:Bool):Out:=⟨.v (.c (.b b)),[]⟩
theorem lt_tree (l:List Dv) (n:Int) (R:Out→Prop):(t_li [.c (.lt dvSch (l.map Dv.fc)),.c (.i .i64 n)] []).run R =
 sel (decide (((l.map Dv.fc).length:Int) > n)) (R (oBl false)) ((sLi l 0=sLi ((l.map Dv.fc).map ofFc) 0∧((l.map Dv.fc).map ofFc).length≤1000000)∧sel (((l.map Dv.fc).map ofFc).all smallD) (R (oBl true)) (R (oBl false))):=by kernel_rfl
theorem ofFc_map (l:List Dv):(l.map Dv.fc).map ofFc=l:=by
 rw [List.map_map]
 exact List.map_id l
def lightV (l:List Dv) (n:Int):Bool:=!decide ((l.length:Int) > n)&&l.all smallD
noncomputable def tLight:Con:=fun args regs=>match args,regs with
 | [.c (.lt _ xs),.c (.i _ n)],[]=>.must (args=[.c (.lt dvSch ((xs.map ofFc).map Dv.fc)),.c (.i .i64 n)]∧n≤1000) (.br (lightV (xs.map ofFc) n) (.ret (oBl true)) (.ret (oBl false)))
 | _,_=>.fail
attribute [local irreducible] t_li in
theorem kLight:Known Tryz.prog GL 26 tLight:=by
 refine k_li.less fun args regs R h=>?_
 unfold tLight at h
 split at h
 case h_2=>exact h.elim
 rename_i _ xs _ n
 obtain ⟨⟨h1,hn⟩,h⟩:=h
 rw [h1]
 generalize xs.map ofFc=l at h
 have h:sel (lightV l n) (R (oBl true)) (R (oBl false)):=h
 refine (Box.of_eq (lt_tree l n R) ?_).out
 rw [ofFc_map,List.length_map]
 unfold lightV at h
 cases hd:decide ((l.length:Int) > n) with
 | true=>rw [hd] at h; exact sT rfl h
 | false=>
   have hd':=of_decide_eq_false hd
   rw [hd] at h
   exact sF rfl ⟨⟨rfl,by omega⟩,h⟩
def five (e:Option Nat) (X:Prop):Prop:=sel (e==none) X (sel (e==some eLen) X (sel (e==some eBit) X (sel (e==some eKnd) X X)))
theorem five_in {e:Option Nat} {X:Prop} (h:X):five e X:=by
 have two:∀ {b:Bool} {A B:Prop},A→B→sel b A B:=fun {b A B} ha hb=>by
  cases b with
  | true=>exact sT rfl ha
  | false=>exact sF rfl hb
 exact two h (two h (two h (two h h)))
def rdyV (V:Rv):Prop:=inV V=inV V.bk∧V.bk.m.ok
def rdyM (M:Mc):Prop:=inM M=inM (mac.bk M)∧(mac.bk M).ok
section
variable {S:Sp→Prop} (hS:∀ x p,S x→S (x.put p))
include hS
theorem endM_st {M:Mc} (h:S M.st) (g:Nat):S (M.endM g).st:=by
 unfold Mc.endM
 split
 ·exact hS _ _ h
 ·exact h
theorem ends_st {c:Bool} {g:Int}:∀ (n i:Nat) (M:Mc),S M.st→S (Mc.ends c g n i M).st
 | 0,_,_,h=>h
 | n+1,i,M,h=>by
   unfold Mc.ends
   refine ends_st n (i+1) _ ?_
   split
   ·exact endM_st hS h i
   ·exact h
theorem hdM_st {M:Mc} (h:S M.st) (g:Nat) (ds:List Int):S (M.hdM g ds).st:=by
 have h1:=ends_st hS (c:=(dec.hdV g ds).c7) (g:=g) 8 1 (M.headed g (dec.hdV g ds) (dec.txV ds)) h
 unfold Mc.hdM Mc.open'
 split
 ·exact h1
 ·exact h1
theorem step_st {M:Mc} (h:S M.st) (bs:List Int):S (M.step bs).1.st:=by
 unfold Mc.step
 split
 ·exact h
 ·unfold Mc.pkM
  split
  ·split
   ·exact hdM_st hS h _ _
   ·exact h
  ·split
   ·split
    ·exact h
    ·exact h
   ·split
    ·split
     ·split
      ·split
       ·exact h
       ·exact h
      ·exact h
     ·exact h
    ·unfold Mc.insM
     split
     ·exact h
     ·exact h
end
theorem mem_drop {x:Sp} {k:Ky} {q:Pg} (h:q∈x.L) (hk:kyP q≠k):q∈(x.drop k).L:=by
 refine List.mem_filter.2 ⟨h,?_⟩
 unfold sto.nk
 rw [Bool.not_eq_true',← Bool.not_eq_true]
 exact fun hc=>hk (sto.kyEq_iff.1 hc)
theorem put_pin (x:Sp) (p:Pg):(x.put p).pin=x.pin:=by
 unfold Sp.put
 split <;> rfl
theorem put_pd (x:Sp) (p:Pg):(x.put p).pd=x.pd:=by
 unfold Sp.put
 split <;> rfl
theorem put_has {x:Sp} {p:Pg} (hl:(x.L.length:Int)≤x.most) (hpd:x.pd=true) (h:x.pin∈x.L.map kyP):x.pin∈(x.put p).L.map kyP:=by
 have h1:∃ q∈((x.drop (kyP p)).push p).L,kyP q=x.pin:=by
  by_cases e:kyP p=x.pin
  ·exact ⟨p,List.mem_append.2 (.inr (List.mem_singleton.2 rfl)),e⟩
  ·obtain ⟨q,hq,he⟩:=List.mem_map.1 h
   exact ⟨q,List.mem_append.2 (.inl (mem_drop hq fun hc=>e (hc ▸ he))),he⟩
 obtain ⟨q,hq,he⟩:=h1
 unfold Sp.put
 cases hc:decide ((((x.drop (kyP p)).push p).L.length:Int)≤x.most) with
 | true=>exact List.mem_map.2 ⟨q,hq,he⟩
 | false=>
   refine List.mem_map.2 ⟨q,mem_drop hq ?_,he⟩
   rw [he]
   intro hv
   unfold Sp.vic sto.vicK at hv
   cases hf:(((x.drop (kyP p)).push p).L.map kyP).find? (sto.goesK ((x.drop (kyP p)).push p).sto (kyP p)) with
   | some z=>
     rw [hf] at hv
     have hz:=List.find?_some hf
     unfold sto.goesK at hz
     rw [Bool.and_eq_true] at hz
     have hz2:=hz.2
     have e1:((x.drop (kyP p)).push p).sto.pd=true:=hpd
     have e2:((x.drop (kyP p)).push p).sto.pin=x.pin:=rfl
     rw [e1,e2,Bool.true_and,Bool.not_eq_true',← Bool.not_eq_true] at hz2
     exact hz2 (sto.kyEq_iff.2 hv.symm)
   | none=>
     rw [hf] at hv
     have hv:x.pin=kyP p:=hv
     have h3:=sto.drop_lt (x:=x) (k:=kyP p) (hv ▸ h)
     have h4:((x.drop (kyP p)).push p).L.length=(x.drop (kyP p)).L.length+1:=by show ((x.drop (kyP p)).L++[p]).length=_; rw [List.length_append]; rfl
     have h5:=of_decide_eq_false hc
     omega
def Stay (n:Int) (k:Ky) (b:Bool) (x:Sp):Prop:=x.most=n∧(x.L.length:Int)≤x.most∧x.pin=k∧x.pd=b∧(b=true→k∈x.L.map kyP)
theorem stay_put (n:Int) (k:Ky) (b:Bool) (x:Sp) (p:Pg) (h:Stay n k b x):Stay n k b (x.put p):=by
 obtain ⟨h1,h2,h3,h4,h5⟩:=h
 refine ⟨(sto.put_most x p).trans h1,?_,(put_pin x p).trans h3,(put_pd x p).trans h4,fun hb=>?_⟩
 ·rw [sto.put_most]
  exact sto.put_len h2
 ·have:=put_has (p:=p) h2 (h4.trans hb) (h3 ▸ h5 hb)
  rwa [h3] at this
end ke
namespace ke
open sto (sT sF Ky Sp kyP kyNC kyRows ordReg)
open ac (Pg pgZ)
open Go Go.Nx pk mac bm rv
open df (B8 put_in u8_in odV_in app_in pkB_in hbV_in trB_in)
theorem rv_in (x:Int):B8 (sv.rv (sv.u8i x)):=by
 have key:∀ n<256,0≤sv.rv (Int.ofNat n)∧sv.rv (Int.ofNat n)<256:=by decide +kernel
 have h:=sv.u8i_in x
 unfold sv.mBy at h
 have hk:=key (sv.u8i x).toNat (by omega)
 have e:Int.ofNat (sv.u8i x).toNat=sv.u8i x:=by show (((sv.u8i x).toNat:Nat):Int)=sv.u8i x; omega
 rw [e] at hk
 exact hk
theorem of_in (b:Bool) (o:Int):B8 (sv.ofB b o):=by
 unfold sv.ofB
 cases b with
 | true=>exact sv.oU_in _ _
 | false=>exact sv.u8i_in _
theorem svB_in (mag pg sb n:Int):∀ b∈bh.svB mag pg sb n,B8 b:=by
 unfold bh.svB sv.LR sv.hdR sv.md9R sv.sgs
 refine List.forall_mem_cons.2 ⟨⟨by decide,by decide⟩,List.forall_mem_cons.2 ⟨⟨by decide,by decide⟩,app_in (List.forall_mem_cons.2 ⟨put_in _,app_in (bh.plN_in _ _ _) ?_⟩) ?_⟩⟩
 ·refine List.forall_mem_cons.2 ⟨rv_in _,List.forall_mem_cons.2 ⟨rv_in _,List.forall_mem_cons.2 ⟨of_in _ _,?_⟩⟩⟩
  iterate 6 (refine List.forall_mem_cons.2 ⟨sv.u8i_in _,?_⟩)
  iterate 4 (refine List.forall_mem_cons.2 ⟨bh.z_in,?_⟩)
  exact bh.nil_in
 ·intro b hb
  obtain ⟨i,-,rfl⟩:=List.mem_map.1 hb
  exact sv.mkO_in _
theorem byW_in (d:Dv) (hW:∀ b∈d.W,B8 b):∀ b∈bh.byW d,B8 b:=by
 unfold bh.byW
 cases d.k==1 with
 | true=>exact hbV_in _ (odV_in _ _)
 | false=>
 cases d.k==2 with
 | true=>exact pkB_in (odV_in _ _)
 | false=>
 cases d.k==3 with
 | true=>exact trB_in _ _ _ _
 | false=>
 cases d.k==4 with
 | true=>exact bh.lkB_in _ _ _
 | false=>
 cases d.k==5 with
 | true=>exact trB_in _ _ _ _
 | false=>
 cases d.k==6 with
 | true=>exact trB_in _ _ _ _
 | false=>
 cases d.k==7 with
 | true=>exact svB_in _ _ _ _
 | false=>exact hW
def fineD (d:Dv):Prop:=d.W.length≤1000000∧∀ b∈d.W,B8 b
end ke
end Go.Proofs.YtbmpbafemefepaaGreatDoor
namespace Go.Nx
end Go.Nx
namespace Go.Proofs.YtbmpbafemefepaaGreatDoor
namespace gr
end gr
section
namespace gr
open Go Go.Nx pk
abbrev w64 (n:Int):Int:=IntKind.i64.wrap n
end gr
end
namespace gr
end gr
namespace mac
open Go Go.Nx pk ac sto pge dec
structure Kept (P:Pg→Prop):Prop where
 z:P pgZ
 nw:∀ (h:Hx) (p:Pg) (t:List Int),P p→P (newQ h p t)
 row:∀ (p:Pg) (r:Int) (ds:List Int),P p→P (rowP p r ds)
 ex:∀ (p:Pg) (c:Int) (l:List (List Sc)),P p→P (extraP p c l)
 lk:∀ (p:Pg) (m:Int) (ds:List Int),P p→P {p with lk:=lkR m ds,ld:=true}
 df:∀ (p:Pg) (n:Int),P p→P {p with df:=n}
structure Mc.allP (P:Pg→Prop) (M:Mc):Prop where
 st:∀ p∈M.st.L,P p
 v:∀ k,P (M.v k).p
theorem put_all {P:Pg→Prop} {x:Sp} {p:Pg} (h:∀ q∈x.L,P q) (hp:P p):∀ q∈(x.put p).L,P q:=by
 have h1:∀ q∈((x.drop (kyP p)).push p).L,P q:=fun q hq=>by
  rcases List.mem_append.1 hq with hq | hq
  ·exact h q (List.mem_filter.1 hq).1
  ·rw [List.mem_singleton] at hq
   exact hq ▸ hp
 unfold Sp.put
 split
 ·exact h1
 ·exact fun q hq=>h1 q (List.mem_filter.1 hq).1
theorem get_all {P:Pg→Prop} {x:Sp} (h:∀ q∈x.L,P q) (hz:P pgZ) (k:Ky):P (x.get k).1:=by
 unfold Sp.get
 cases hf:x.L.find? (fun p=>kyEq k (kyP p)) with
 | none=>exact hz
 | some p=>exact h p (List.mem_of_find?_eq_some hf)
theorem upd_all {P:Pg→Prop} {v:Nat→Mv} {g:Nat} {m:Mv} (h:∀ k,P (v k).p) (hm:P m.p) (k:Nat):P (upd v g m k).p:=by
 by_cases e:k=g
 ·subst e
  rw [upd_same]
  exact hm
 ·rw [upd_other e]
  exact h k
section
variable {P:Pg→Prop} (hP:Kept P)
include hP
theorem endM_all {M:Mc} (h:M.allP P) (g:Nat):(M.endM g).allP P:=by
 unfold Mc.endM
 split
 ·exact ⟨put_all h.st (h.v g),upd_all h.v hP.z⟩
 ·exact h
theorem ends_all {c:Bool} {g:Int}:∀ (n i:Nat) (M:Mc),M.allP P→(Mc.ends c g n i M).allP P
 | 0,_,_,h=>h
 | n+1,i,M,h=>by
   unfold Mc.ends
   refine ends_all n (i+1) _ ?_
   split
   ·exact endM_all hP h i
   ·exact h
theorem opP_all {x:Sp} (h:∀ q∈x.L,P q) (hx:Hx) (t:List Int):P (opP x hx t):=by
 unfold opP newP
 refine hP.nw _ _ _ ?_
 split
 ·exact get_all h hP.z _
 ·exact hP.z
theorem dfP_all {m:Mv} {p:Pg} (h:P p):P (dfP m p):=by
 unfold dfP
 split
 ·exact hP.df _ _ h
 ·exact h
theorem hdM_all {M:Mc} (h:M.allP P) (g:Nat) (ds:List Int):(M.hdM g ds).allP P:=by
 have h0:(M.headed g (hdV g ds) (dec.txV ds)).allP P:=⟨h.st,upd_all h.v (h.v g)⟩
 have h1:=ends_all hP (c:=(hdV g ds).c7) (g:=g) 8 1 _ h0
 unfold Mc.hdM Mc.open'
 split
 ·exact h1
 ·exact ⟨h1.st,upd_all h1.v (dfP_all hP (opP_all hP h1.st _ _))⟩
theorem part_all {m:Mv} (h:P m.p) (p:Px):P (m.part p).p:=by
 unfold Mv.part
 split
 ·exact hP.row _ _ _ h
 ·split
  ·unfold Mv.extra
   split
   ·exact hP.ex _ _ _ h
   ·exact h
  ·split
   ·unfold Mv.linked
    split
    ·exact h
    ·exact hP.lk _ _ _ h
   ·split
    ·exact hP.df _ _ h
    ·exact h
theorem insM_all {M:Mc} (h:M.allP P) (g:Nat) (p:Px):(M.insM g p).allP P:=by
 unfold Mc.insM
 split
 ·exact ⟨h.st,upd_all h.v (part_all hP (h.v g) p)⟩
 ·exact h
theorem pkM_all {M:Mc} (h:M.allP P) (p:Px):(M.pkM p).1.allP P:=by
 unfold Mc.pkM
 split
 ·split
  ·exact hdM_all hP h _ _
  ·exact h
 ·split
  ·split
   ·exact ⟨h.st,upd_all h.v (h.v _)⟩
   ·exact h
  ·split
   ·split
    ·split
     ·split
      ·exact ⟨h.st,h.v⟩
      ·exact h
     ·exact h
    ·exact h
   ·exact insM_all hP h _ _
theorem step_all {M:Mc} (h:M.allP P) (bs:List Int):(M.step bs).1.allP P:=by
 unfold Mc.step
 split
 ·exact h
 ·exact pkM_all hP h _
end
structure Wf (p:Pg):Prop where
 c:p.c.length=11
 rows:p.rows.length=1000
 th:p.th.length=25
 lk:p.lk.length=6
theorem mergeV_len (old ds:List Int) (had:Bool):(mergeV old ds had).length=40:=by
 unfold mergeV
 rw [hd.mapF_length,List.length_replicate]
theorem setR_wf {p:Pg} (h:Wf p) {n:Nat} (hn:n<25) (ds:List Int):Wf (Pg.setR p n ds):=by
 refine ⟨h.c,?_,?_,h.lk⟩
 ·show (spl p.rows (n * 40) 40 (mergeV (r40 p n) ds (thB p n))).length=1000
  have hm:=mergeV_len (r40 p n) ds (thB p n)
  have hr:=h.rows
  generalize mergeV (r40 p n) ds (thB p n)=ys at hm
  unfold spl
  split
  ·simp at hm
  ·rw [List.length_append,List.length_append,List.length_take,List.length_drop,hm,hr]
   omega
 ·show (p.th.set n [.b true]).length=25
  rw [List.length_set,h.th]
theorem wf_kept:Kept Wf where
 z:=⟨rfl,by decide +kernel,rfl,rfl⟩
 nw:=fun h p t hp=>by
  have:=setR_wf hp (n:=0) (by decide) (dat t)
  exact ⟨rfl,this.rows,this.th,this.lk⟩
 row:=fun p r ds hp=>by
  unfold rowP
  by_cases h1:r<1
  ·rw [decide_eq_true h1]; split <;> first | exact hp | simp_all
  ·by_cases h2:r > 24
   ·rw [decide_eq_true h2]; split <;> first | exact hp | simp_all
   ·rw [decide_eq_false h1,decide_eq_false h2]
    exact setR_wf hp (by omega) ds
 ex:=fun p c l hp=>by
  unfold extraP
  split
  ·exact ⟨hp.c,hp.rows,hp.th,hp.lk⟩
  ·exact hp
 lk:=fun p m ds hp=>⟨hp.c,hp.rows,hp.th,rfl⟩
 df:=fun p n hp=>⟨hp.c,hp.rows,hp.th,hp.lk⟩
theorem allP_nw {P:Pg→Prop} (h:P pgZ) (M:Mc) (hv:M.v=fun _=>mvZ) (hL:M.st.L=[]):M.allP P:=
 ⟨fun p hp=>(List.not_mem_nil (hL ▸ hp)).elim,fun k=>by rw [hv]; exact h⟩
end mac
namespace sp
end sp
namespace gr
end gr
section
namespace tw
open sto (sT sF)
open ac (Pg pgZ)
open ke (tLight kLight lightV)
open gr (w64)
open Go Go.Nx pk mac bm rv
structure Tw where
 k:Int
 n:Int
 d:Dv
def Tw.fc (x:Tw):List FC:=.i x.k::.i x.n::x.d.fc
def twSch:List Part:=.i .i64::.i .i64::dvSch
noncomputable abbrev f_lg:=Tryz.f6
noncomputable def nilT (sch:List Part) (T:Con):Con:=fun args regs=>match args with
 | [.c .sn,y]=>T [.c (.lt sch []),y] regs
 | _=>T args regs
theorem Known_nilT {P:Program} {gl:List Nat} {f:FuncId} {T:Con} (h:Known P gl f T) (sch:List Part) (hs:0<schSize sch):Known P gl f (nilT sch T):=
 ⟨h.goes,fun args regs R hr Γ w vs hw hg ha ho=>by
   unfold nilT at hr
   split at hr
   ·cases ha with
    | cons r1 r=>
      obtain ⟨e,-⟩:=r1
      have e:_=Value.slice none 0 0:=e
      subst e
      exact h.sound _ regs R hr Γ w _ hw hg (.cons ⟨⟨none,0,rfl,Nat.le_refl _,hs,fun r hr=>(List.not_mem_nil hr).elim,.inl rfl⟩,rfl⟩ r) ho
   ·exact h.sound _ regs R hr Γ w vs hw hg ha ho⟩
theorem kLightN:Known Tryz.prog GL 26 (nilT dvSch tLight):=Known_nilT kLight dvSch (by decide)
noncomputable def c_lg:FuncId→Option Con:=conOf [(26,nilT dvSch tLight)]
theorem kc_lg:∀ f T,c_lg f=some T→Known Tryz.prog GL f T:=(Knowns.cons kLightN .nil).get
noncomputable def X_lg:Cx:={P:=Tryz.prog,con:=c_lg,glob:=GL,m:=0,loops:=[]}
noncomputable def doR (rows:List (List FC)):Reg:=⟨9,35,.tab dvSch rows⟩
noncomputable def slP:Option (List (List FC) × Nat)→NC × List (Option Reg)
 | none=>(.sn,[])
 | some (xs,q)=>(.h 0 0 q,[some (doR xs)])
noncomputable def sLg (l:List Tw) (m:Int) (S:Option (List (List FC) × Nat)) (i:Int):St:={fr:=frame 24 [(0,.v (.c (.lt twSch (l.map Tw.fc)))),(1,.v (.c (.i .i64 m))),(5,.v (.c (slP S).1)),(6,.v (.c (.i .i64 i)))],rg:=(slP S).2}
noncomputable def dLg (m:Int) (S:Option (List (List FC) × Nat)):St:={fr:=frame 24 [(1,.v (.c (.i .i64 m))),(5,.v (.c (slP S).1))],rg:=(slP S).2}
noncomputable def rLg (s:St):Tr RO:=roundT X_lg 0 [0,1,5,6] [1,5] (bodyLoop f_lg 0) s
def ofTw (r:List FC):Tw:=⟨(r.getD 0 (.i 0)).n,(r.getD 1 (.i 0)).n,⟨(r.getD 2 (.i 0)).n,(r.getD 3 (.i 0)).n,(r.getD 4 (.i 0)).n,(r.getD 5 (.i 0)).n,(r.getD 6 (.i 0)).n,(r.getD 7 (.i 0)).li,(r.getD 8 (.i 0)).li,(r.getD 9 (.i 0)).li,(r.getD 10 (.i 0)).li⟩⟩
theorem ofTw_fc (x:Tw):ofTw x.fc=x:=rfl
def rwT (l:List Tw) (i:Int):Tw:=ofTw ((l.map Tw.fc).getD i.toNat [])
theorem rwT_eq {l:List Tw} {i:Nat} (h:i<l.length):rwT l (i:Int)=l[i]:=by
 unfold rwT
 have e:((i:Nat):Int).toNat=i:=by simp
 rw [e,List.getD_eq_getElem?_getD,List.getElem?_map,List.getElem?_eq_getElem h]
 exact ofTw_fc _
theorem ofTw_map (l:List Tw):(l.map Tw.fc).map ofTw=l:=by
 rw [List.map_map]
 exact List.map_id l
noncomputable def bD:Nat:=bytesT Tryz.prog 35
def apT (q len b:Nat) (A:Prop):Prop:=sel (decide (0+q≤len)) (sel (decide ((q+1) * b≤140737488355328)) (sel (decide (q+1≤9223372036854775807)) A False) False) False
noncomputable def nxLg (l:List Tw) (m i:Int) (R:RO→Prop) (S:Option (List (List FC) × Nat)):Prop:=R (.next (sLg l m S (w64 (i+1))))
theorem lg_none (l:List Tw) (m i:Int) (R:RO→Prop):(rLg (sLg l m none i)).run R=sel (decide (i<((l.map Tw.fc).length:Int))) (ixU i (l.map Tw.fc).length (nxLg l m i R (some ([(rwT l i).d.fc],1)))) (R (.done .normal (dLg m none))):=by kernel_rfl
theorem lg_some (l:List Tw) (m:Int) (xs:List (List FC)) (q:Nat) (i:Int) (R:RO→Prop):(rLg (sLg l m (some (xs,q)) i)).run R=sel (decide (i<((l.map Tw.fc).length:Int))) (ixU i (l.map Tw.fc).length (apT q xs.length bD (nxLg l m i R (some (List.take q xs++[(rwT l i).d.fc],q+1))))) (R (.done .normal (dLg m (some (xs,q))))):=by kernel_rfl
theorem bD_le:bD≤140:=by
 have h:Nat.ble bD 140=true:=by kernel_rfl
 exact Nat.le_of_ble_eq_true h
theorem apT_in {q len:Nat} {A:Prop} (h:q=len∧q+1≤925904528626) (hA:A):apT q len bD A:=by
 have hb:=bD_le
 have hq:(q+1) * bD≤(q+1) * 140:=Nat.mul_le_mul_left _ hb
 exact sT (decide_eq_true (by omega)) (sT (decide_eq_true (by omega)) (sT (decide_eq_true (by omega)) hA))
def rsT (l:List Tw):List (List FC):=l.map fun x=>x.d.fc
def lgO (l:List Tw):Nat→Option (List (List FC) × Nat)
 | 0=>none
 | k+1=>some (rsT (l.take (k+1)),k+1)
structure ALg where
 l:List Tw
 m:Int
 i:Nat
noncomputable def hLg (x:ALg):St:=sLg x.l x.m (lgO x.l x.i) (x.i:Int)
noncomputable def preLg (x:ALg) (R:NExit × St→Prop):Prop:=(x.i≤x.l.length∧x.l.length≤925904528626)∧R (.normal,dLg x.m (lgO x.l x.l.length))
noncomputable def nxtLg (x:ALg) (R:NExit × St→Prop) (q:RO):Prop:=match q with
 | .next s=>∃ y,s=hLg y∧y.l.length - y.i<x.l.length - x.i∧preLg y R
 | .done e s=>R (e,s)
theorem lg_in (x:ALg) (R:NExit × St→Prop) (h:preLg x R):Box ((rLg (hLg x)).run (nxtLg x R)):=by
 obtain ⟨l,m,i⟩:=x
 obtain ⟨⟨h1,h2⟩,hR⟩:=h
 simp only at h1 h2 hR
 have hw:w64 ((i:Int)+1)=((i+1:Nat):Int):=by show IntKind.i64.wrap _=_; rw [IntKind.wrap_i64]; omega
 have lm:(l.map Tw.fc).length=l.length:=List.length_map ..
 by_cases hk:i<l.length
 ·have et:l.take (i+1)=l.take i++[l[i]]:=by rw [List.take_add_one,List.getElem?_eq_getElem hk]; rfl
  have nx:nxLg l m (i:Int) (nxtLg ⟨l,m,i⟩ R) (lgO l (i+1)):=by
   unfold nxLg
   rw [hw]
   exact ⟨⟨l,m,i+1⟩,rfl,by simp only; omega,⟨by simp only; omega,h2⟩,hR⟩
  cases i with
  | zero=>
    refine Box.of_eq (lg_none l m 0 _) (sT (decide_eq_true (by omega)) (ixU_in ⟨by omega,by omega⟩ ?_))
    have e0:=rwT_eq hk
    have e0:rwT l 0=l[0]:=e0
    rw [e0]
    have e1:lgO l (0+1)=some ([l[0].d.fc],1):=by
     show some (rsT (l.take 1),1)=_
     have:l.take 1=[l[0]]:=by rw [et]; rfl
     rw [this]
     rfl
    rw [e1] at nx
    exact nx
  | succ i=>
    have hl:(rsT (l.take (i+1))).length=i+1:=by unfold rsT; rw [List.length_map,List.length_take]; omega
    refine Box.of_eq (lg_some l m (rsT (l.take (i+1))) (i+1) ((i+1:Nat):Int) _) (sT (decide_eq_true (by omega)) (ixU_in ⟨by omega,by omega⟩ ?_))
    have t1:List.take (i+1) (rsT (l.take (i+1)))=rsT (l.take (i+1)):=List.take_of_length_le (by omega)
    rw [rwT_eq hk,hl,t1]
    refine apT_in ⟨rfl,by omega⟩ ?_
    have e1:lgO l (i+1+1)=some (rsT (l.take (i+1))++[l[i+1].d.fc],i+1+1):=by
     show some (rsT (l.take (i+1+1)),i+1+1)=_
     rw [et]
     unfold rsT
     rw [List.map_append]
     rfl
    rw [e1] at nx
    exact nx
 ·have e:i=l.length:=by omega
  subst e
  cases hc:l.length with
  | zero=>
    rw [hc] at hR
    have lm0:(l.map Tw.fc).length=0:=by omega
    have e0:l=[]:=List.eq_nil_of_length_eq_zero hc
    subst e0
    exact Box.of_eq (lg_none [] m ((0:Nat):Int) _) (sF (decide_eq_false (by simp)) hR)
  | succ n=>
    rw [hc] at hR
    exact Box.of_eq (lg_some l m (rsT (l.take (n+1))) (n+1) ((n+1:Nat):Int) _) (sF (decide_eq_false (by omega)) hR)
def rdLg (s:St):Option (List Tw × Int):=match s.fr[(0:Nat)]?,s.fr[(1:Nat)]? with
 | some (.v (.c (.lt _ xs))),some (.v (.c (.i _ m)))=>some (xs.map ofTw,m)
 | _,_=>none
noncomputable def lLg (s:St):Tr (NExit × St):=match rdLg s with
 | some (l,m)=>.must (s=sLg l m none 0∧l.length≤925904528626) (match l.length with
   | 0=>.ret (.normal,dLg m none)
   | k+1=>.ret (.normal,dLg m (some (rsT l,k+1))))
 | none=>.fail
theorem loop_lg:LOk Tryz.prog GL 0 0 (bodyLoop f_lg 0) lLg:=by
 refine loop_ok (X:=X_lg) kc_lg mixed (LAll.none (by kernel_rfl)) [0,1,5,6] [1,5] hLg (fun x=>x.l.length - x.i) preLg ?_ ?_
 ·intro s R h
  unfold lLg at h
  split at h
  case h_2=>exact h.elim
  rename_i l m hx
  obtain ⟨⟨hs,hl⟩,hR⟩:=h
  refine ⟨⟨l,m,0⟩,hs,⟨Nat.zero_le _,hl⟩,?_⟩
  show R (.normal,dLg m (lgO l l.length))
  cases hc:l.length with
  | zero=>rw [hc] at hR; exact hR
  | succ k=>
    rw [hc] at hR
    have e:l.take (k+1)=l:=List.take_of_length_le (by omega)
    show R (.normal,dLg m (some (rsT (l.take (k+1)),k+1)))
    rw [e]
    exact hR
 ·intro x R h
  exact Tr.run_mono _ (fun q hq=>hq) (lg_in x R h).out
noncomputable def t_lg:Con:=fun args regs=>if regs.length=0 then nfun Tryz.prog GL c_lg [(0,[0,1,5,6],lLg)] f_lg args regs else .fail
theorem k_lg:Known Tryz.prog GL 6 t_lg:=known_loops 0 Tryz.func6 rfl (by kernel_rfl) mixed kc_lg (LAll.one (id:=0) (body:=bodyLoop f_lg 0) (by kernel_rfl) rfl loop_lg)
def lgW (l:List Tw):List (List FC):=List.take l.length (List.drop 0 (rsT l))
theorem lgW_eq (l:List Tw):lgW l=(l.map Tw.d).map Dv.fc:=by
 unfold lgW rsT
 rw [List.drop_zero,List.take_of_length_le (by rw [List.length_map]; exact Nat.le_refl _),List.map_map]
 rfl
noncomputable def lgL (W:List (List FC)) (m:Int) (R:Out→Prop):Prop:=([NV.c (.lt dvSch W),.c (.i .i64 m)]=[NV.c (.lt dvSch ((W.map ofFc).map Dv.fc)),.c (.i .i64 m)]∧m≤1000)∧sel (lightV (W.map ofFc) m) (R (ke.oBl true)) (R (ke.oBl false))
theorem lg0_tree (m:Int) (R:Out→Prop):(t_lg [.c (.lt twSch []),.c (.i .i64 m)] []).run R=((sLg [] m none 0=sLg [] m none 0∧([]:List Tw).length≤925904528626)∧lgL [] m R):=by kernel_rfl
noncomputable def lg1 (l l' : List Tw) (m:Int) (R:Out→Prop):Prop:=(sLg l m none 0=sLg l' m none 0∧l'.length≤925904528626)∧sel (decide (0+l'.length≤(rsT l').length)) (lgL (lgW l') m R) False
theorem lg1_tree (x:Tw) (r:List Tw) (m:Int) (R:Out→Prop):(t_lg [.c (.lt twSch ((x::r).map Tw.fc)),.c (.i .i64 m)] []).run R=lg1 (x::r) (((x::r).map Tw.fc).map ofTw) m R:=by kernel_rfl
noncomputable def tLg:Con:=fun args regs=>match args,regs with
 | [.c (.lt _ xs),.c (.i _ m)],[]=>.must (args=[.c (.lt twSch ((xs.map ofTw).map Tw.fc)),.c (.i .i64 m)]∧m≤1000∧(xs.map ofTw).length≤925904528626) (.br (lightV ((xs.map ofTw).map Tw.d) m) (.ret (ke.oBl true)) (.ret (ke.oBl false)))
 | _,_=>.fail
theorem lgL_in {l:List Tw} {m:Int} {R:Out→Prop} (hm:m≤1000) (h:sel (lightV (l.map Tw.d) m) (R (ke.oBl true)) (R (ke.oBl false))):lgL (lgW l) m R:=by
 unfold lgL
 rw [lgW_eq,ke.ofFc_map]
 exact ⟨⟨rfl,hm⟩,h⟩
attribute [local irreducible] t_lg in
theorem kLg:Known Tryz.prog GL 6 tLg:=by
 refine k_lg.less fun args regs R h=>?_
 unfold tLg at h
 split at h
 case h_2=>exact h.elim
 rename_i _ xs _ m
 obtain ⟨⟨h1,hm,hn⟩,h⟩:=h
 rw [h1]
 generalize xs.map ofTw=l at h hn
 have h:sel (lightV (l.map Tw.d) m) (R (ke.oBl true)) (R (ke.oBl false)):=h
 cases l with
 | nil=>exact (Box.of_eq (lg0_tree m R) ⟨⟨rfl,hn⟩,lgL_in hm h⟩).out
 | cons x r=>
   refine (Box.of_eq (lg1_tree x r m R) ?_).out
   unfold lg1
   rw [ofTw_map]
   refine ⟨⟨rfl,hn⟩,sT (decide_eq_true ?_) (lgL_in hm h)⟩
   unfold rsT
   rw [List.length_map]
   omega
end tw
end
namespace tu
open sto (sT sF)
open pge (Hx)
open Go Go.Nx pk ln hd lb sv bm bh
noncomputable def oHn (n:Nat) (ds:List Int):Out:=⟨.tu [.c (.h 0 0 n),.c (.i .i64 0)],[some ⟨1,5,.ints .u8 ds⟩]⟩
noncomputable def oH (ds:List Int):Out:=oHn ds.length ds
noncomputable def hbHI (h:Hx) (all:Int) (xs:List Int) (R:Out→Prop):Prop:=
 m6 h.pn h.sb (bits .and .i64 all 7) (e16 (bits .and .i64 (shrv .i64 all 3) 15)∧(e16 (bits .and .i64 (shrv .i64 all 7) 15)∧zz2 8 xs.length (sel (decide (0+(8+xs.length)≤(hdD h all xs).length)) (
  e16 (adr h.mg 0)∧(e16 0∧zz2 2 (hdT h all xs).length (R (oHn (2+(hdT h all xs).length) (pkB h.mg 0 (hdT h all xs)))))) False)))
noncomputable def hbHT (h:Hx) (xs:List Int) (R:Out→Prop):Prop:=
 sel (decide (h.mg ≥ 1)) (sel (decide (h.mg≤8)) (sel (decide (h.pn ≥ 0)) (sel (decide (h.pn≤255)) (sel (decide (h.sb ≥ 0)) (sel (!(bits .andNot .i64 h.sb 16255==0)) (R (oPr .sn 101)) (sel ((xs.length:Int) !=32) (R (oPr .sn 102))
  (sHB xs h 0 0=sHB xs h 0 0∧hbHI h (alV h 11) xs R))) (R (oPr .sn 101))) (R (oPr .sn 101))) (R (oPr .sn 101))) (R (oPr .sn 101))) (R (oPr .sn 101))
theorem hbh_tree (h:Hx) (xs:List Int) (R:Out→Prop):(t_hb0 [.ag h.nc,.c (.l .u8 xs)] []).run R=hbHT h xs R:=by kernel_rfl
attribute [local irreducible] zz2 in
theorem hbH_in {h:Hx} {all:Int} {xs:List Int} {R:Out→Prop} (hr:right h.mg h.pn h.sb) (hl:xs.length=32) (hR:R (oH (pkB h.mg 0 (hdD h all xs)))):hbHI h all xs R:=by
 have ha:0≤bits .and .i64 all 7∧bits .and .i64 all 7<8:=by
  have e:bits .and .i64 all 7=all % 8:=and_mask64 all 3 (by decide)
  rw [e]
  omega
 have k3:e16 (bits .and .i64 (shrv .i64 all 3) 15):=by
  have e:bits .and .i64 (shrv .i64 all 3) 15=(shrv .i64 all 3) % 16:=and_mask64 _ 4 (by decide)
  rw [e]
  exact ⟨by omega,by omega⟩
 have k7:e16 (bits .and .i64 (shrv .i64 all 7) 15):=by
  have e:bits .and .i64 (shrv .i64 all 7) 15=(shrv .i64 all 7) % 16:=and_mask64 _ 4 (by decide)
  rw [e]
  exact ⟨by omega,by omega⟩
 have hd:=hdD_len h all xs
 have hp:(pkB h.mg 0 (hdD h all xs)).length=2+(hdD h all xs).length:=by unfold pkB; rw [List.length_append]; rfl
 have h40:8+xs.length≤10000:=by omega
 have h41:0+(8+xs.length)≤(hdD h all xs).length:=by omega
 have h42:2+(hdD h all xs).length≤10000:=by omega
 have h43:e16 (adr h.mg 0):=adr_in hr.1 ⟨by decide,by decide⟩
 have h44:e16 0:=⟨by decide,by decide⟩
 unfold hbHI
 rw [hdT_eq]
 refine m6_in hr.2.1 ha (And.intro k3 (And.intro k7 ?_))
 refine zz2_in (n:=8) (m:=xs.length) h40 ?_
 refine sT (decide_eq_true h41) (And.intro h43 (And.intro h44 ?_))
 exact zz2_in (n:=2) (m:=(hdD h all xs).length) h42 (by rw [← hp]; exact hR)
noncomputable def tHBh:Con:=fun args regs=>match args,regs with
 | [.ag [.i _ mg,.i _ pn,.i _ sb,.b c0,.b c1,.b c2,.b c3,.b c4,.b c5,.b c6,.b c7,.b c8,.b c9,.b c10,.i _ op],.c (.l _ xs)],[]=>
   .must (args=[.ag (Hx.nc ⟨mg,pn,sb,c0,c1,c2,c3,c4,c5,c6,c7,c8,c9,c10,op⟩),.c (.l .u8 xs)]∧right mg pn sb∧xs.length=32) (.ret (oHn 42 (hbV ⟨mg,pn,sb,c0,c1,c2,c3,c4,c5,c6,c7,c8,c9,c10,op⟩ xs)))
 | _,_=>.fail
theorem hbV_len (h:Hx) (xs:List Int) (hl:xs.length=32):(hbV h xs).length=42:=by
 have hd:=hdD_len h (alV h 11) xs
 unfold hbV pkB
 rw [List.length_append,hd,hl]
 rfl
attribute [local irreducible] t_hb0 in
theorem kHBh:Known Tryz.prog GL 38 tHBh:=by
 refine k_hb0.less fun args regs R h=>?_
 unfold tHBh at h
 split at h
 case h_2=>exact h.elim
 rename_i _ mg _ pn _ sb c0 c1 c2 c3 c4 c5 c6 c7 c8 c9 c10 _ op _ xs
 obtain ⟨⟨h1,hr,hl⟩,h⟩:=h
 rw [h1]
 refine (Box.of_eq (hbh_tree ⟨mg,pn,sb,c0,c1,c2,c3,c4,c5,c6,c7,c8,c9,c10,op⟩ xs R) ?_).out
 have h:R (oHn 42 (hbV ⟨mg,pn,sb,c0,c1,c2,c3,c4,c5,c6,c7,c8,c9,c10,op⟩ xs)):=h
 have h:R (oH (hbV ⟨mg,pn,sb,c0,c1,c2,c3,c4,c5,c6,c7,c8,c9,c10,op⟩ xs)):=by unfold oH; rw [hbV_len _ _ hl]; exact h
 unfold hbHT
 exact sT (decide_eq_true hr.1.1) (sT (decide_eq_true hr.1.2) (sT (decide_eq_true hr.2.1.1) (sT (decide_eq_true hr.2.1.2) (sT (decide_eq_true hr.2.2.1) (sF (by rw [Bool.not_eq_false',beq_iff_eq]; exact hr.2.2.2) (sF (by rw [bne_eq_false_iff_eq]; omega) ⟨rfl,hbH_in hr hl h⟩))))))
noncomputable def c_byh:FuncId→Option Con:=conOf [(27,num.tNumV),(37,tPl),(39,tOddB),(38,tHBh),(40,t_rpkd),(41,t_tof),(42,ts.tRTBg),(43,ls.tRLB),(44,tRib),(45,tCopy)]
theorem kc_byh:∀ f T,c_byh f=some T→Known Tryz.prog GL f T:=(Knowns.cons (known_gl num.kNumV) (.cons kPl (.cons kOddB (.cons kHBh (.cons k_rpkd (.cons k_tof (.cons ts.kRTBg (.cons ls.kRLB (.cons kRib (.cons (known_gl kCopy) .nil)))))))))).get
noncomputable def X_byh:Cx:={P:=Tryz.prog,con:=c_byh,glob:=GL,m:=0,loops:=[]}
noncomputable def t_byh:Con:=fun args regs=>if regs.length=0 then nfun Tryz.prog GL c_byh [(1,[1,2,3,4,5,6],unroll X_byh 1 [1,2,3,4,5,6] [1,2,3,4,5] (bodyLoop Tryz.f16 1) 12),(3,[1,3,7,8],l3),(5,[1,3,10,11],l5)] Tryz.f16 args regs else .fail
theorem k_byh:Known Tryz.prog GL 16 t_byh:=known_loops 0 Tryz.func16 rfl (by kernel_rfl) mixed kc_byh (LAll.three (i1:=1) (i2:=3) (i3:=5) (b1:=bodyLoop Tryz.f16 1) (b2:=bodyLoop Tryz.f16 3) (b3:=bodyLoop Tryz.f16 5) (by kernel_rfl) rfl (by decide) (unroll_ok (X:=X_byh) kc_byh mixed (LAll.none (by kernel_rfl)) [1,2,3,4,5,6] [1,2,3,4,5] 12) loop_3 loop_5)
noncomputable def oM (n:Nat) (ds:List Int):Out:=⟨.v (.c (.h 0 0 n)),[some ⟨1,5,.ints .u8 ds⟩]⟩
noncomputable def oZ:Out:=⟨.v (.c .sn),[]⟩
noncomputable def bh1 (d:Dv) (R:Out→Prop):Prop:=odA d.T 32∧(([NV.ag (hxOf d).nc,.c (.l .u8 (odV d.T 32))]=[NV.ag (hxOf d).nc,.c (.l .u8 (odV d.T 32))]∧right (d.mag % 3+1) (plP d.pg) (plS d.sb)∧(odV d.T 32).length=32)∧R (oM 42 (hbV (hxOf d) (odV d.T 32))))
noncomputable def bh2 (d:Dv) (R:Out→Prop):Prop:=nmA 25∧(odA d.T 40∧(e16 (adr (d.mag % 3+1) (d.n % 25))∧(e16 (shrv .i64 (d.n % 25) 1)∧R (oM 42 (pkB (d.mag % 3+1) (d.n % 25) (odV d.T 40))))))
noncomputable def bh3 (d:Dv) (R:Out→Prop):Prop:=s3 d (xP d.mag d.pg d.sb) none 0=s3 d (xP d.mag d.pg d.sb) none 0∧(nmA 16∧sel (ts.okTB (d.mag % 3+1) 26 (d.n % 16)) (sel (decide ((List.take 13 (List.drop 0 (tr3 d.L 13))).length=13)) (R (oM (2+(ts.LTg (d.n % 16) (List.take 13 (List.drop 0 (tr3 d.L 13)))).length) (rwB (d.mag % 3+1) d.n d.L))) (R oZ)) (R oZ))
noncomputable def bh4 (d:Dv) (R:Out→Prop):Prop:=s5 d (xP d.mag d.pg d.sb) [zS,zS,zS,zS,zS,zS] 0=s5 d (xP d.mag d.pg d.sb) [zS,zS,zS,zS,zS,zS] 0∧(nmA 9∧sel (lkO d.mag d.n d.L) (R (oM 42 (lkB d.mag d.n d.L))) (R oZ))
noncomputable def bh5 (d:Dv) (r:Int) (R:Out→Prop):Prop:=nmA 16∧(nmA 5∧(nmA 3∧sel (ts.okTB (d.mag % 3+1) r (cdO d.pg)) (R (oM 42 (trB (d.mag % 3+1) r (cdO d.pg) (trO d.n d.sb)))) (R oZ)))
noncomputable def bh7 (d:Dv) (R:Out→Prop):Prop:=nmA 65536∧(nmA 90000∧(nmA 24∧sel (svO d.mag d.pg d.sb d.n) (R (oM 42 (svB d.mag d.pg d.sb d.n))) (R oZ)))
noncomputable def bh8 (d:Dv) (R:Out→Prop):Prop:=d.W.length≤1000000∧R (oM d.W.length d.W)
theorem byh_tree (k mag pg sb n:Int) (L T W B:List Int) (R:Out→Prop):(t_byh [Dv.nv ⟨k,mag,pg,sb,n,L,T,W,B⟩] []).run R=(plA ⟨k,mag,pg,sb,n,L,T,W,B⟩∧sel (k==1) (bh1 ⟨k,mag,pg,sb,n,L,T,W,B⟩ R) (sel (k==2) (bh2 ⟨k,mag,pg,sb,n,L,T,W,B⟩ R) (sel (k==3) (bh3 ⟨k,mag,pg,sb,n,L,T,W,B⟩ R) (sel (k==4) (bh4 ⟨k,mag,pg,sb,n,L,T,W,B⟩ R) (sel (k==5) (bh5 ⟨k,mag,pg,sb,n,L,T,W,B⟩ (IntKind.i64.wrap (23+k)) R) (sel (k==6) (bh5 ⟨k,mag,pg,sb,n,L,T,W,B⟩ (IntKind.i64.wrap (23+k)) R) (sel (k==7) (bh7 ⟨k,mag,pg,sb,n,L,T,W,B⟩ R) (bh8 ⟨k,mag,pg,sb,n,L,T,W,B⟩ R)))))))):=by kernel_rfl
theorem pkB_len (m r:Int) (xs:List Int):(pkB m r xs).length=2+xs.length:=by unfold pkB; rw [List.length_append]; rfl
theorem trB_len (m r c:Int) (rows:List (List Sc)):(trB m r c rows).length=42:=rfl
theorem lkB_len (m n:Int) (L:List Int):(lkB m n L).length=42:=rfl
theorem svB_len (a b c n:Int):(svB a b c n).length=42:=by
 unfold svB LR sgs
 rw [List.length_cons,List.length_cons,List.length_append,List.length_map,List.length_range]
 rfl
noncomputable def tByh:Con:=fun args regs=>match args,regs with
 | [.ag [.i _ k,.i _ mag,.i _ pg,.i _ sb,.i _ n,.l _ L,.l _ T,.l _ W,.l _ B]],[]=>.must (args=[Dv.nv ⟨k,mag,pg,sb,n,L,T,W,B⟩]∧W.length≤1000000) (.ret (oM (byW ⟨k,mag,pg,sb,n,L,T,W,B⟩).length (byW ⟨k,mag,pg,sb,n,L,T,W,B⟩)))
 | _,_=>.fail
theorem len_to {n:Nat} {ds:List Int} {R:Out→Prop} (e:ds.length=n) (h:R (oM ds.length ds)):R (oM n ds):=e ▸ h
attribute [local irreducible] t_byh in
theorem kByh:Known Tryz.prog GL 16 tByh:=by
 refine k_byh.less fun args regs R h=>?_
 unfold tByh at h
 split at h
 case h_2=>exact h.elim
 rename_i _ k _ mag _ pg _ sb _ n _ L _ T _ W _ B
 obtain ⟨⟨h1,hW⟩,h⟩:=h
 rw [h1]
 have h:R (oM (byW ⟨k,mag,pg,sb,n,L,T,W,B⟩).length (byW ⟨k,mag,pg,sb,n,L,T,W,B⟩)):=h
 have hm:1≤mag % 3+1∧mag % 3+1≤8:=⟨by omega,by omega⟩
 refine (Box.of_eq (byh_tree k mag pg sb n L T W B R) ⟨rfl,?_⟩).out
 refine selBq (fun e=>?_) fun n1=>selBq (fun e=>?_) fun n2=>selBq (fun e=>?_) fun n3=>selBq (fun e=>?_) fun n4=>selBq (fun e=>?_) fun n5=>selBq (fun e=>?_) fun n6=>selBq (fun e=>?_) fun n7=>?_
 ·subst e
  exact ⟨⟨rfl,by decide,by decide⟩,⟨rfl,pl_right mag pg sb,odV_len _ _⟩,len_to (hbV_len _ _ (odV_len _ _)) h⟩
 ·subst e
  have e1:e16 (adr (mag % 3+1) (n % 25)):=adr_in hm ⟨by omega,by omega⟩
  have e2:e16 (shrv .i64 (n % 25) 1):=by rw [sh_1]; exact ⟨by omega,by omega⟩
  exact ⟨⟨by decide,by decide⟩,⟨rfl,by decide,by decide⟩,e1,e2,len_to (by rw [pkB_len,odV_len]) h⟩
 ·subst e
  refine ⟨rfl,⟨by decide,by decide⟩,sT (okTB_16 hm (by show 0≤n % 16∧n % 16≤15; omega) (.inr (.inr rfl))) (sT (decide_eq_true ?_) (len_to rfl h))⟩
  rw [List.drop_zero,List.length_take,tr3_len]
  rfl
 ·subst e
  exact ⟨rfl,⟨by decide,by decide⟩,sT (lkO_t _ _ _) (len_to (lkB_len _ _ _) h)⟩
 ·subst e
  rw [wr28]
  exact ⟨⟨by decide,by decide⟩,⟨by decide,by decide⟩,⟨by decide,by decide⟩,sT (okTB_of hm (cdO_in pg) (.inl rfl)) (len_to (trB_len _ _ _ _) h)⟩
 ·subst e
  rw [wr29]
  exact ⟨⟨by decide,by decide⟩,⟨by decide,by decide⟩,⟨by decide,by decide⟩,sT (okTB_of hm (cdO_in pg) (.inr (.inl rfl))) (len_to (trB_len _ _ _ _) h)⟩
 ·subst e
  exact ⟨⟨by decide,by decide⟩,⟨by decide,by decide⟩,⟨by decide,by decide⟩,sT (svO_t _ _ _ _) (len_to (svB_len _ _ _ _) h)⟩
 ·refine ⟨hW,?_⟩
  have e:byW ⟨k,mag,pg,sb,n,L,T,W,B⟩=W:=by
   unfold byW
   simp only
   rw [beq_eq_false_iff_ne.2 n1,beq_eq_false_iff_ne.2 n2,beq_eq_false_iff_ne.2 n3,beq_eq_false_iff_ne.2 n4,beq_eq_false_iff_ne.2 n5,beq_eq_false_iff_ne.2 n6,beq_eq_false_iff_ne.2 n7]
   rfl
  rw [e] at h
  exact h
noncomputable def t_cod:Con:=fun args regs=>nfun Tryz.prog GL (fun _=>Option.none) [] Tryz.f31 args regs
theorem k_cod:Known Tryz.prog GL 31 t_cod:=known_inl Tryz.func31 rfl (by kernel_rfl) mixed con_none (by kernel_rfl)
noncomputable def cd3 (i:Int):Int:=IntKind.i64.wrap (2+bif decide (1<i.tmod 3) then 1 else i.tmod 3)
noncomputable def oI (n:Int):Out:=⟨.v (.c (.i .i64 n)),[]⟩
theorem cod_1 (mag pg sb n i:Int) (L T W B:List Int) (R:Out→Prop):(t_cod [Dv.nv ⟨1,mag,pg,sb,n,L,T,W,B⟩,.c (.i .i64 i)] []).run R=sel (decide (i<2)) (R (oI 1)) (sel (decide (i<10)) (R (oI 1)) (R (oI 0))):=by kernel_rfl
theorem cod_2 (mag pg sb n i:Int) (L T W B:List Int) (R:Out→Prop):(t_cod [Dv.nv ⟨2,mag,pg,sb,n,L,T,W,B⟩,.c (.i .i64 i)] []).run R=sel (decide (i<2)) (R (oI 1)) (R (oI 0)):=by kernel_rfl
theorem cod_3 (mag pg sb n i:Int) (L T W B:List Int) (R:Out→Prop):(t_cod [Dv.nv ⟨3,mag,pg,sb,n,L,T,W,B⟩,.c (.i .i64 i)] []).run R=sel (decide (i<2)) (R (oI 1)) (sel (decide (i<3)) (R (oI 1)) (R (oI (cd3 i)))):=by kernel_rfl
theorem cod_4 (mag pg sb n i:Int) (L T W B:List Int) (R:Out→Prop):(t_cod [Dv.nv ⟨4,mag,pg,sb,n,L,T,W,B⟩,.c (.i .i64 i)] []).run R=sel (decide (i<2)) (R (oI 1)) (sel (decide (i<40)) (R (oI 1)) (R (oI (-1)))):=by kernel_rfl
theorem cod_5 (mag pg sb n i:Int) (L T W B:List Int) (R:Out→Prop):(t_cod [Dv.nv ⟨5,mag,pg,sb,n,L,T,W,B⟩,.c (.i .i64 i)] []).run R=sel (decide (i<2)) (R (oI 1)) (sel (decide (i<3)) (R (oI 1)) (R (oI (cd3 i)))):=by kernel_rfl
theorem cod_6 (mag pg sb n i:Int) (L T W B:List Int) (R:Out→Prop):(t_cod [Dv.nv ⟨6,mag,pg,sb,n,L,T,W,B⟩,.c (.i .i64 i)] []).run R=sel (decide (i<2)) (R (oI 1)) (sel (decide (i<3)) (R (oI 1)) (R (oI (cd3 i)))):=by kernel_rfl
theorem cod_7 (mag pg sb n i:Int) (L T W B:List Int) (R:Out→Prop):(t_cod [Dv.nv ⟨7,mag,pg,sb,n,L,T,W,B⟩,.c (.i .i64 i)] []).run R=sel (decide (i<2)) (R (oI 1)) (sel (decide (i<9)) (R (oI 1)) (R (oI (-1)))):=by kernel_rfl
def codN (k:Int):Int:=bif k==1 then 10 else bif k==2 then 2 else bif k==4 then 40 else bif k==7 then 9 else 3
noncomputable def codR (k i:Int):Int:=bif k==1 then 0 else bif k==2 then 0 else bif k==4 then -1 else bif k==7 then -1 else cd3 i
noncomputable def codV (k i:Int):Int:=bif decide (i<codN k) then 1 else codR k i
noncomputable def tCod:Con:=fun args regs=>match args,regs with
 | [.ag [.i _ k,.i _ mag,.i _ pg,.i _ sb,.i _ n,.l _ L,.l _ T,.l _ W,.l _ B],.c (.i _ i)],[]=>.must (args=[Dv.nv ⟨k,mag,pg,sb,n,L,T,W,B⟩,.c (.i .i64 i)]∧1≤k∧k≤7) (.ret (oI (codV k i)))
 | _,_=>.fail
theorem sel2_in {i a:Int} {X Y:Prop} (ha:2≤a) (h:sel (decide (i<a)) X Y):sel (decide (i<2)) X (sel (decide (i<a)) X Y):=by
 by_cases h2:i<2
 ·refine sT (decide_eq_true h2) ?_
  rw [decide_eq_true (show i<a by omega)] at h
  exact h
 ·exact sF (decide_eq_false h2) h
theorem cod_sel {i a:Int} {x y:Int} {R:Out→Prop} (h:R (oI (bif decide (i<a) then x else y))):sel (decide (i<a)) (R (oI x)) (R (oI y)):=by
 cases hd:decide (i<a) with
 | true=>rw [hd] at h; exact h
 | false=>rw [hd] at h; exact h
attribute [local irreducible] t_cod in
theorem kCod:Known Tryz.prog GL 31 tCod:=by
 refine k_cod.less fun args regs R h=>?_
 unfold tCod at h
 split at h
 case h_2=>exact h.elim
 rename_i _ k _ mag _ pg _ sb _ n _ L _ T _ W _ B _ i
 obtain ⟨⟨h1,hk1,hk7⟩,h⟩:=h
 rw [h1]
 have h:R (oI (codV k i)):=h
 have hk:k=1∨k=2∨k=3∨k=4∨k=5∨k=6∨k=7:=by omega
 rcases hk with rfl | rfl | rfl | rfl | rfl | rfl | rfl
 ·exact (Box.of_eq (cod_1 mag pg sb n i L T W B R) (sel2_in (by decide) (cod_sel (a:=10) h))).out
 ·exact (Box.of_eq (cod_2 mag pg sb n i L T W B R) (cod_sel (a:=2) h)).out
 ·exact (Box.of_eq (cod_3 mag pg sb n i L T W B R) (sel2_in (by decide) (cod_sel (a:=3) h))).out
 ·exact (Box.of_eq (cod_4 mag pg sb n i L T W B R) (sel2_in (by decide) (cod_sel (a:=40) h))).out
 ·exact (Box.of_eq (cod_5 mag pg sb n i L T W B R) (sel2_in (by decide) (cod_sel (a:=3) h))).out
 ·exact (Box.of_eq (cod_6 mag pg sb n i L T W B R) (sel2_in (by decide) (cod_sel (a:=3) h))).out
 ·exact (Box.of_eq (cod_7 mag pg sb n i L T W B R) (sel2_in (by decide) (cod_sel (a:=9) h))).out
noncomputable def arB (ds:List Int):Reg:=⟨1,5,.ints .u8 ds⟩
theorem byW_len {d:Dv} (h:1≤d.k∧d.k≤7):(byW d).length=42:=by
 have hk:d.k=1∨d.k=2∨d.k=3∨d.k=4∨d.k=5∨d.k=6∨d.k=7:=by omega
 obtain ⟨k,mag,pg,sb,n,L,T,W,B⟩:=d
 simp only at hk
 rcases hk with rfl | rfl | rfl | rfl | rfl | rfl | rfl
 ·exact hbV_len _ _ (odV_len _ _)
 ·show (pkB _ _ (odV T 40)).length=42
  rw [pkB_len,odV_len]
 ·exact trB_len _ _ _ _
 ·exact lkB_len _ _ _
 ·exact trB_len _ _ _ _
 ·exact trB_len _ _ _ _
 ·exact svB_len _ _ _ _
end tu
namespace tw
open sto (sT sF)
open tu (tByh kByh tCod kCod codV arB)
open Go Go.Nx pk sv bm bh
noncomputable abbrev f_sp:=Tryz.f10
noncomputable def c_sp:FuncId→Option Con:=conOf [(16,tByh),(31,tCod)]
theorem kc_sp:∀ f T,c_sp f=some T→Known Tryz.prog GL f T:=(Knowns.cons kByh (.cons kCod .nil)).get
noncomputable def X_sp:Cx:={P:=Tryz.prog,con:=c_sp,glob:=GL,m:=0,loops:=[]}
noncomputable def sSp (d:Dv) (bs:List Int) (n:Nat) (i:Int):St:={fr:=frame 59 [(1,.v (.c (.p 0 0 0))),(3,.v (.c (.h 1 0 n))),(4,.v (.c (.i .i64 i)))],rg:=[some (dReg d),some (arB bs)]}
noncomputable def dSp (bs:List Int) (n:Nat):St:={fr:=frame 59 [(3,.v (.c (.h 0 0 n)))],rg:=[some (arB bs)]}
noncomputable def rSp (s:St):Tr RO:=roundT X_sp 0 [1,3,4] [3] (bodyLoop f_sp 0) s
noncomputable def flp (bs:List Int) (j b:Int):List Int:=setI bs (0+j.toNat) (bits .xor .u8 (bs.getD (0+j.toNat) 0) (shlv .u8 1 b)) 0
noncomputable def nxS (d:Dv) (m:Nat) (i:Int) (R:RO→Prop) (bs:List Int):Prop:=R (.next (sSp d bs m (IntKind.i64.wrap (i+1))))
def ixM (j:Int) (m:Nat) (l:Nat) (A:Prop):Prop:=sel (decide (0≤j)) (sel (decide (j<(m:Int))) (sel (decide (0+j.toNat<l)) A False) False) False
noncomputable def tuB (d:Dv) (i:Int):Int:=IntKind.u64.wrap (bits .and .i64 (d.B.getD i.toNat 0) 7)
noncomputable def rowS (d:Dv) (bs:List Int) (m:Nat) (i:Int) (R:RO→Prop):Prop:=
 ([d.nv,NV.c (.i .i64 i)]=[d.nv,NV.c (.i .i64 i)]∧1≤d.k∧d.k≤7)∧sel (codV d.k i==0) (ixU i d.B.length (sel (bits .and .i64 (d.B.getD i.toNat 0) 24==24)
   (ixM i m bs.length (ixU i d.B.length (sel (decide (0≤tuB d i)) (ixM i m bs.length (nxS d m i R (flp bs i (tuB d i)))) False))) (nxS d m i R bs))) (nxS d m i R bs)
theorem sp_tree (d:Dv) (bs:List Int) (m:Nat) (i:Int) (R:RO→Prop):(rSp (sSp d bs m i)).run R =
 sel (decide (i<(m:Int))) (sel (decide (i<(d.B.length:Int))) (rowS d bs m i R) (R (.done .normal (dSp bs m)))) (R (.done .normal (dSp bs m))):=by kernel_rfl
theorem flp_len (bs:List Int) (j b:Int):(flp bs j b).length=bs.length:=by
 unfold flp
 rw [setI_set,List.length_set]
theorem xor_in (a b:Int):0≤bits .xor .u8 a b∧bits .xor .u8 a b<256:=by
 rw [bits_u8 .xor a b]
 exact ham.u8_fits _
theorem flp_in {xs:List Int} {p b:Int} (h:∀ b∈xs,0≤b∧b<256):∀ b'∈flp xs p b,0≤b'∧b'<256:=by
 unfold flp
 rw [setI_set]
 intro b hb
 rcases List.mem_or_eq_of_mem_set hb with hb | rfl
 ·exact h b hb
 ·exact xor_in _ _
noncomputable def stpS (d:Dv) (bs:List Int) (i:Nat):List Int:=bif codV d.k (i:Int)==0 then (bif bits .and .i64 (d.B.getD i 0) 24==24 then flp bs (i:Int) (tuB d (i:Int)) else bs) else bs
noncomputable def spK (d:Dv) (bs:List Int):Nat→List Int
 | 0=>bs
 | i+1=>stpS d (spK d bs i) i
theorem stpS_len (d:Dv) (bs:List Int) (i:Nat):(stpS d bs i).length=bs.length:=by
 unfold stpS
 cases codV d.k (i:Int)==0 with
 | true=>
   cases bits .and .i64 (d.B.getD i 0) 24==24 with
   | true=>exact flp_len ..
   | false=>rfl
 | false=>rfl
theorem spK_len (d:Dv) (bs:List Int):∀ i,(spK d bs i).length=bs.length
 | 0=>rfl
 | i+1=>(stpS_len d _ i).trans (spK_len d bs i)
theorem spK_in {d:Dv} {xs:List Int} (h:∀ b∈xs,0≤b∧b<256):∀ i,∀ b∈spK d xs i,0≤b∧b<256
 | 0=>h
 | i+1=>by
   show ∀ b∈stpS d (spK d xs i) i,_
   unfold stpS
   cases codV d.k (i:Int)==0 with
   | true=>
     cases bits .and .i64 (d.B.getD i 0) 24==24 with
     | true=>exact flp_in (spK_in h i)
     | false=>exact spK_in h i
   | false=>exact spK_in h i
structure ASp where
 d:Dv
 bs:List Int
 i:Nat
noncomputable def hSp (x:ASp):St:=sSp x.d (spK x.d x.bs x.i) 42 (x.i:Int)
noncomputable def preSp (x:ASp) (R:NExit × St→Prop):Prop:=(x.i≤min 42 x.d.B.length∧x.bs.length=42∧1≤x.d.k∧x.d.k≤7)∧R (.normal,dSp (spK x.d x.bs (min 42 x.d.B.length)) 42)
noncomputable def nxtSp (x:ASp) (R:NExit × St→Prop) (q:RO):Prop:=match q with
 | .next s=>∃ y,s=hSp y∧42 - y.i<42 - x.i∧preSp y R
 | .done e s=>R (e,s)
theorem u64_in (x:Int):0≤IntKind.u64.wrap x:=by
 rw [IntKind.wrap_u64]
 omega
theorem sp_in (x:ASp) (R:NExit × St→Prop) (h:preSp x R):Box ((rSp (hSp x)).run (nxtSp x R)):=by
 obtain ⟨d,bs,i⟩:=x
 obtain ⟨⟨h1,hl,hk⟩,hR⟩:=h
 simp only at h1 hl hk hR
 have hw:IntKind.i64.wrap ((i:Int)+1)=((i+1:Nat):Int):=by rw [IntKind.wrap_i64]; omega
 have et:((i:Nat):Int).toNat=i:=by simp
 have hL:(spK d bs i).length=42:=(spK_len d bs i).trans hl
 refine Box.of_eq (sp_tree d (spK d bs i) 42 (i:Int) _) ?_
 by_cases h4:i<42
 ·refine sT (decide_eq_true (show (i:Int)<((42:Nat):Int) by omega)) ?_
  by_cases hB:i<d.B.length
  ·refine sT (decide_eq_true (by omega)) ⟨⟨rfl,hk⟩,?_⟩
   have nx:nxS d 42 (i:Int) (nxtSp ⟨d,bs,i⟩ R) (stpS d (spK d bs i) i):=by
    unfold nxS
    rw [hw]
    exact ⟨⟨d,bs,i+1⟩,rfl,by simp only; omega,⟨by simp only; omega,hl,hk⟩,hR⟩
   have ix:∀ {A:Prop},A→ixU (i:Int) d.B.length A:=fun h=>ixU_in ⟨by omega,by omega⟩ h
   have im:∀ {A:Prop},A→ixM (i:Int) 42 (spK d bs i).length A:=fun h=>sT (decide_eq_true (by omega)) (sT (decide_eq_true (show (i:Int)<((42:Nat):Int) by omega)) (sT (decide_eq_true (by omega)) h))
   unfold stpS at nx
   rw [et]
   cases h0:codV d.k (i:Int)==0 with
   | false=>rw [h0] at nx; exact sF rfl nx
   | true=>
     rw [h0] at nx
     refine sT rfl (ix ?_)
     cases h24:bits .and .i64 (d.B.getD i 0) 24==24 with
     | false=>rw [h24] at nx; exact sF rfl nx
     | true=>rw [h24] at nx; exact sT rfl (im (ix (sT (decide_eq_true (u64_in _)) (im nx))))
  ·refine sF (decide_eq_false (by omega)) ?_
   have e:i=min 42 d.B.length:=by omega
   rw [e]
   exact hR
 ·refine sF (decide_eq_false (show ¬ (i:Int)<((42:Nat):Int) by omega)) ?_
  have e:i=min 42 d.B.length:=by omega
  rw [e]
  exact hR
def rdSp (s:St):Option (Dv × List Int):=match s.rg with
 | some ⟨_,_,.cells [.i _ k,.i _ mag,.i _ pg,.i _ sb,.i _ n,.l _ L,.l _ T,.l _ W,.l _ B]⟩::some ⟨_,_,.ints _ bs⟩::_=>some (⟨k,mag,pg,sb,n,L,T,W,B⟩,bs)
 | _=>none
noncomputable def lSp (s:St):Tr (NExit × St):=match rdSp s with
 | some x=>.must (s=sSp x.1 x.2 42 0∧x.2.length=42∧1≤x.1.k∧x.1.k≤7) (.ret (.normal,dSp (spK x.1 x.2 (min 42 x.1.B.length)) 42))
 | none=>.fail
theorem loop_sp:LOk Tryz.prog GL 0 0 (bodyLoop f_sp 0) lSp:=by
 refine loop_ok (X:=X_sp) kc_sp mixed (LAll.none (by kernel_rfl)) [1,3,4] [3] hSp (fun x=>42 - x.i) preSp ?_ ?_
 ·intro s R h
  unfold lSp at h
  split at h
  case h_2=>exact h.elim
  rename_i x hx
  obtain ⟨⟨hs,hl,hk⟩,hR⟩:=h
  exact ⟨⟨x.1,x.2,0⟩,hs,⟨Nat.zero_le _,hl,hk⟩,hR⟩
 ·intro x R h
  exact Tr.run_mono _ (fun q hq=>hq) (sp_in x R h).out
noncomputable def t_sp:Con:=fun args regs=>if regs.length=0 then nfun Tryz.prog GL c_sp [(0,[1,3,4],lSp)] f_sp args regs else .fail
theorem k_sp:Known Tryz.prog GL 10 t_sp:=known_loops 0 Tryz.func10 rfl (by kernel_rfl) mixed kc_sp (LAll.one (id:=0) (body:=bodyLoop f_sp 0) (by kernel_rfl) rfl loop_sp)
noncomputable def t_spC:Con:=softT [] [0] [(0,0,0,.l .u8 [])] [] 0 t_sp
theorem k_spC:Known Tryz.prog GL 10 t_spC:=k_sp.soft [] [0] [(0,0,0,.l .u8 [])] [] 0
def oLu (bs:List Int):Out:=⟨.v (.c (.l .u8 bs)),[]⟩
noncomputable def spT (d:Dv) (R:Out→Prop):Prop:=([d.nv]=[d.nv]∧d.W.length≤1000000)∧
 sel (decide (d.k<1)) ((byW d).length=(byW d).length∧R (oLu (byW d))) (sel (decide (d.k > 2)) ((byW d).length=(byW d).length∧R (oLu (byW d)))
  ((sSp d (byW d) (byW d).length 0=sSp d (byW d) 42 0∧(byW d).length=42∧1≤d.k∧d.k≤7)∧(42=(spK d (byW d) (min 42 d.B.length)).length∧R (oLu (spK d (byW d) (min 42 d.B.length))))))
theorem spc_tree (k mag pg sb n:Int) (L T W B:List Int) (R:Out→Prop):(t_spC [Dv.nv ⟨k,mag,pg,sb,n,L,T,W,B⟩] []).run R=spT ⟨k,mag,pg,sb,n,L,T,W,B⟩ R:=by kernel_rfl
noncomputable def spW (d:Dv):List Int:=bif decide (1≤d.k)&&decide (d.k≤2) then spK d (byW d) (min 42 d.B.length) else byW d
theorem spW_in {d:Dv} (h:∀ b∈byW d,0≤b∧b<256):∀ b∈spW d,0≤b∧b<256:=by
 unfold spW
 cases (decide (1≤d.k)&&decide (d.k≤2)) with
 | true=>exact spK_in h _
 | false=>exact h
theorem spT_in {d:Dv} {R:Out→Prop} (hW:d.W.length≤1000000) (h:R (oLu (spW d))):spT d R:=by
 refine ⟨⟨rfl,hW⟩,?_⟩
 unfold spW at h
 by_cases h1:1≤d.k
 ·refine sF (decide_eq_false (by omega)) ?_
  by_cases h7:d.k≤2
  ·rw [decide_eq_true h1,decide_eq_true h7] at h
   have hl:=tu.byW_len (d:=d) ⟨h1,by omega⟩
   exact sF (decide_eq_false (by omega)) ⟨⟨by rw [hl],hl,h1,by omega⟩,by rw [spK_len,hl],h⟩
  ·rw [decide_eq_true h1,decide_eq_false h7] at h
   exact sT (decide_eq_true (by omega)) ⟨rfl,h⟩
 ·rw [decide_eq_false h1] at h
  exact sT (decide_eq_true (by omega)) ⟨rfl,h⟩
noncomputable def tSpo:Con:=fun args regs=>match args,regs with
 | [.ag [.i _ k,.i _ mag,.i _ pg,.i _ sb,.i _ n,.l _ L,.l _ T,.l _ W,.l _ B]],[]=>.must (args=[Dv.nv ⟨k,mag,pg,sb,n,L,T,W,B⟩]∧W.length≤1000000) (.ret (oLu (spW ⟨k,mag,pg,sb,n,L,T,W,B⟩)))
 | _,_=>.fail
attribute [local irreducible] t_spC in
theorem kSpo:Known Tryz.prog GL 10 tSpo:=by
 refine k_spC.less fun args regs R h=>?_
 unfold tSpo at h
 split at h
 case h_2=>exact h.elim
 obtain ⟨⟨h1,hW⟩,h⟩:=h
 rw [h1]
 exact (Box.of_eq (spc_tree _ _ _ _ _ _ _ _ _ R) (spT_in hW h)).out
end tw
namespace fi
open sto (sT sF Ky Sp kyP kyNC)
open ac (Pg pgZ)
open Go Go.Nx pk mac bm rv
def txO (m:Mv):Prop:=(∀ y∈m.t,0≤y∧y<256)∧(m.bg=true→8≤m.t.length)
def txM (M:Mc):Prop:=∀ k,txO (M.v k)
theorem tx_upd {M:Mc} (h:txM M) {g:Nat} {m:Mv} (hm:txO m):txM {M with v:=upd M.v g m}:=fun k=>by
 by_cases e:k=g
 ·subst e
  show txO (upd M.v k m k)
  rw [upd_same]; exact hm
 ·show txO (upd M.v g m k)
  rw [upd_other e]; exact h k
theorem tx_end {M:Mc} (h:txM M) (g:Nat):txM (M.endM g):=by
 unfold Mc.endM
 split
 ·exact tx_upd (M:={M with st:=Sp.put (M.v g).p M.st}) h (h g)
 ·exact h
theorem tx_ends {c:Bool} {g:Int}:∀ (n i:Nat) {M:Mc},txM M→txM (Mc.ends c g n i M)
 | 0,_,_,h=>h
 | n+1,i,M,h=>by
   unfold Mc.ends
   refine tx_ends n (i+1) ?_
   split
   ·exact tx_end h i
   ·exact h
theorem tx_hdM {M:Mc} (h:txM M) (g:Nat) {ds:List Int} (hd:∀ b∈ds,0≤b∧b<256):txM (M.hdM g ds):=by
 have h1:txM (Mc.ends (dec.hdV g ds).c7 g 8 1 (M.headed g (dec.hdV g ds) (dec.txV ds))):=
  tx_ends 8 1 (tx_upd h (m:={M.v g with h:=dec.hdV g ds,t:=dec.txV ds,bg:=true}) ⟨txV_by hd,fun _=>by show 8≤(dec.txV ds).length; rw [txV_len]; omega⟩)
 unfold Mc.hdM Mc.open'
 split
 ·exact h1
 ·exact tx_upd h1 (h1 g)
theorem part_bg (m:Mv) (p:dec.Px):(m.part p).bg=m.bg:=by
 unfold Mv.part
 split
 ·rfl
 ·split
  ·unfold Mv.extra
   split <;> rfl
  ·split
   ·unfold Mv.linked
    split <;> rfl
   ·split <;> rfl
theorem tx_part {m:Mv} (h:txO m) (p:dec.Px):txO (m.part p):=by
 unfold txO
 rw [part_txt,part_bg]
 exact h
theorem tx_pkM {M:Mc} (h:txM M) {p:dec.Px} (hd:∀ b∈p.ds,0≤b∧b<256):txM (M.pkM p).1:=by
 unfold Mc.pkM
 split
 ·split
  ·exact tx_hdM h _ hd
  ·exact h
 ·split
  ·split
   ·exact tx_upd h (h _)
   ·exact h
  ·split
   ·split
    ·split
     ·split
      ·exact h
      ·exact h
     ·exact h
    ·exact h
   ·unfold Mc.insM
    split
    ·exact tx_upd h (tx_part (h _) p)
    ·exact h
theorem tx_step {M:Mc} (h:txM M) {bs:List Int} (hb:∀ b∈bs,0≤b∧b<256):txM (M.step bs).1:=by
 unfold Mc.step
 split
 ·exact h
 ·rename_i p hp
  exact tx_pkM h (pkV_fine hb hp).by'
theorem tx_new (n:Int):txM (mcN n):=fun _=>⟨fun y hy=>(List.not_mem_nil hy).elim,fun h=>Bool.noConfusion h⟩
theorem tx_shown {V:Rv} (h:txM V.m) (x:Pg × Bool):txM (V.shown x).m:=by
 unfold Rv.shown
 split
 ·exact h
 ·exact h
end fi
namespace ti
open sto (sT sF Ky Sp kyP kyNC)
open ac (Pg pgZ)
open Go Go.Nx pk mac bm rv
theorem find_all {P:Pg→Prop} {M:Mc} (h:∀ p∈M.st.L,P p) (hz:P pgZ) (k:Ky):P (M.find k).1:=by
 unfold Mc.find
 split
 ·exact get_all h hz k
 ·simp only
  cases hl:lastF k M.st.L with
  | none=>exact hz
  | some p=>
    rcases fold_mem k _ _ hl with h' | h'
    ·cases h'
    ·exact h p h'
theorem next_all {P:Pg→Prop} {M:Mc} (h:∀ p∈M.st.L,P p) (hz:P pgZ) (k:Ky):P (M.next k).1:=by
 have hm:=nxJ_mem M k
 unfold Mc.next
 generalize M.nxJ k=J at hm ⊢
 cases J with
 | z=>exact hz
 | a p=>exact h p hm
 | s p=>exact h p hm
 | d p q=>exact h q hm.2
theorem gone_ok {s:Rm} (h:s.ok) (k:Ky):(s.gone k).ok:=⟨Nat.zero_le _,h.su⟩
theorem subd_ok {s:Rm} (h:s.ok) (d:Int):(s.subd d).1.ok:=by
 unfold Rm.subd
 split
 ·rename_i e
  have e:=of_decide_eq_true e
  exact ⟨h.ds,by show (s.su++[d]).length≤3; rw [List.length_append]; simp at e ⊢; omega⟩
 ·exact ⟨h.ds,Nat.zero_le _⟩
theorem dig_ok {s:Rm} (h:s.ok) (d:Int):(s.dig d).1.ok:=by
 unfold Rm.dig
 split
 ·exact subd_ok h d
 ·unfold Rm.dig2
  split
  ·exact h
  ·split
   ·rename_i e
    have e:=of_decide_eq_true e
    exact ⟨by show (s.ds++[d]).length≤2; rw [List.length_append]; simp at e ⊢; omega,h.su⟩
   ·exact gone_ok h _
theorem foll_ok {s:Rm} (h:s.ok) (k:Ky) (ln:Bool):(s.foll k ln).1.ok:=by
 unfold Rm.foll
 split
 ·exact gone_ok h _
 ·exact h
theorem keyN_ok {s:Rm} (h:s.ok) (lk:List (List Sc)) (ln:Bool) (n:Nat):(s.keyN lk ln n).1.ok:=by
 unfold Rm.keyN
 split
 ·exact ⟨h.ds,h.su⟩
 ·exact ⟨h.ds,h.su⟩
 ·exact ⟨h.ds,h.su⟩
 ·exact gone_ok h _
 ·exact gone_ok h _
 ·exact foll_ok h _ _
 ·exact foll_ok h _ _
 ·exact foll_ok h _ _
 ·exact foll_ok h _ _
 ·exact foll_ok h _ _
 ·exact ⟨Nat.zero_le _,Nat.zero_le _⟩
 ·exact ⟨Nat.zero_le _,Nat.zero_le _⟩
 ·split
  ·exact dig_ok h _
  ·exact h
theorem key_ok {s:Rm} (h:s.ok) (k:Int) (lk:List (List Sc)) (ln:Bool):(s.key k lk ln).1.ok:=by
 unfold Rm.key
 split
 ·exact keyN_ok h _ _ _
 ·exact h
structure Tk (V:Rv):Prop where
 g:V.m.good
 w:V.m.allP Wf
 x:fi.txM V.m
 p:Wf V.p∧fits V.p∨V.p=pgZ∧V.fd=false
 s:V.s.ok
theorem Tk.lk {V:Rv} (h:Tk V):V.p.lk.length=6:=by
 rcases h.p with h | ⟨h,-⟩
 ·exact h.1.lk
 ·rw [h]; exact wf_kept.z.lk
theorem Tk.shown {V:Rv} (h:Tk V) {q:Pg × Bool} (hq:Wf q.1∧fits q.1):Tk (V.shown q):=by
 have hg:=shown_good h.g q
 have hx:=fi.tx_shown h.x q
 unfold Rv.shown at hg hx ⊢
 split
 ·rename_i e
  rw [e] at hg hx
  exact ⟨hg,⟨h.w.st,h.w.v⟩,hx,.inl hq,h.s⟩
 ·exact h
theorem Tk.find {V:Rv} (h:Tk V) (k:Ky):Tk (V.shown (V.m.find k)):=h.shown ⟨find_all h.w.st wf_kept.z k,find_all h.g.fit fits_z k⟩
theorem Tk.packet {V:Rv} (h:Tk V) {bs:List Int} (hb:∀ b∈bs,0≤b∧b<256):Tk (V.packet bs).1:=by
 have h1:Tk {V with m:=(V.m.step bs).1}:=⟨step_good h.g hb,step_all wf_kept h.w bs,fi.tx_step h.x hb,h.p,h.s⟩
 unfold Rv.packet
 split
 ·unfold Rv.look
  split
  ·exact h1
  ·exact h1.find _
 ·exact h1
theorem Tk.tick {V:Rv} (h:Tk V):Tk V.tick:=by
 have h1:Tk V.ticked:=⟨h.g,h.w,h.x,h.p,h.s⟩
 unfold Rv.tick
 split
 ·exact h1.shown ⟨next_all h.w.st wf_kept.z _,next_all h.g.fit fits_z _⟩
 ·exact h1
end ti
namespace ws
open sto (sT sF Ky Sp kyP kyNC)
open ac (Pg pgZ)
open ti (Tk)
open ke (Stay stay_put step_st)
open Go Go.Nx pk mac bm rv
theorem find_mem {M:Mc} {k:Ky} (h:(M.find k).2=true):(M.find k).1∈M.st.L:=by
 unfold Mc.find at h ⊢
 cases hk:k.2.2 !=16255 with
 | true=>
   rw [hk] at h
   simp only at h ⊢
   unfold Sp.get at h ⊢
   cases hf:M.st.L.find? (fun p=>sto.kyEq k (kyP p)) with
   | none=>rw [hf] at h; cases h
   | some p=>exact List.mem_of_find?_eq_some hf
 | false=>
   rw [hk] at h
   simp only at h ⊢
   cases hl:lastF k M.st.L with
   | none=>rw [hl] at h; cases h
   | some p=>
     rcases fold_mem k _ _ hl with h' | h'
     ·cases h'
     ·exact h'
theorem next_mem {M:Mc} {k:Ky} (h:(M.next k).2=true):(M.next k).1∈M.st.L:=by
 have hm:=nxJ_mem M k
 unfold Mc.next at h ⊢
 generalize M.nxJ k=J at h hm ⊢
 cases J with
 | z=>cases h
 | a p=>exact hm
 | s p=>exact hm
 | d p q=>exact hm.2
structure Kw (n:Int) (V:Rv):Prop where
 t:Tk V
 most:V.m.st.most=n
 fd:V.fd=true→V.m.st.pd=true∧V.m.st.pin=kyP V.p∧kyP V.p∈V.m.st.L.map kyP
theorem Kw.shown {n:Int} {V:Rv} (h:Kw n V) {q:Pg × Bool} (ht:Tk (V.shown q)) (hq:q.2=true→q.1∈V.m.st.L):Kw n (V.shown q):=by
 unfold Rv.shown at ht ⊢
 split
 ·rename_i e
  rw [e] at ht
  exact ⟨ht,h.most,fun _=>⟨rfl,rfl,List.mem_map.2 ⟨_,hq e,rfl⟩⟩⟩
 ·exact h
theorem Kw.find {n:Int} {V:Rv} (h:Kw n V) (k:Ky):Kw n (V.shown (V.m.find k)):=h.shown (h.t.find k) find_mem
theorem Kw.packet {n:Int} {V:Rv} (h:Kw n V) {bs:List Int} (hb:∀ b∈bs,0≤b∧b<256):Kw n (V.packet bs).1:=by
 have ht:=h.t.packet hb
 have hs0:Stay n V.m.st.pin V.fd V.m.st∨V.fd=false:=by
  cases hf:V.fd with
  | true=>
    obtain ⟨h1,h2,h3⟩:=h.fd hf
    exact .inl ⟨h.most,h.t.g.len,rfl,h1,fun _=>by rw [h2]; exact h3⟩
  | false=>exact .inr rfl
 have hm:(V.m.step bs).1.st.most=n:=step_st (S:=fun x=>x.most=n) (fun x p hx=>(sto.put_most x p).trans hx) h.most bs
 have hw:(∀ e,Tk {V with m:=(V.m.step bs).1}→e={V with m:=(V.m.step bs).1}→Kw n e):=by
  intro e hte he
  subst he
  refine ⟨hte,hm,fun hf=>?_⟩
  have hf:V.fd=true:=hf
  rcases hs0 with hs | hs
  ·have hst:Stay n V.m.st.pin V.fd (V.m.step bs).1.st:=step_st (stay_put _ _ _) hs bs
   obtain ⟨-,-,h3,h4,h5⟩:=hst
   obtain ⟨-,h2,-⟩:=h.fd hf
   refine ⟨h4.trans hf,h3.trans h2,?_⟩
   rw [← h2]
   exact h5 hf
  ·rw [hs] at hf; cases hf
 have h1:Kw n {V with m:=(V.m.step bs).1}:=hw _ ⟨step_good h.t.g hb,step_all wf_kept h.t.w bs,fi.tx_step h.t.x hb,h.t.p,h.t.s⟩ rfl
 unfold Rv.packet
 split
 ·unfold Rv.look
  split
  ·exact h1
  ·exact h1.find _
 ·exact h1
theorem Kw.tick {n:Int} {V:Rv} (h:Kw n V):Kw n V.tick:=by
 have ht:=h.t.tick
 have h1:Kw n V.ticked:=⟨⟨h.t.g,h.t.w,h.t.x,h.t.p,h.t.s⟩,h.most,h.fd⟩
 unfold Rv.tick at ht ⊢
 split
 ·rename_i e
  rw [e] at ht
  exact h1.shown ht next_mem
 ·exact h1
theorem Kw.key {n:Int} {V:Rv} (h:Kw n V) (k:Int):Kw n (V.key k):=by
 have hs:=ti.key_ok h.t.s k V.p.lk (V.fd&&V.p.ld)
 unfold Rv.key
 split
 ·have h1:Kw n (V.fresh (V.s.key k V.p.lk (V.fd&&V.p.ld)).1):=⟨⟨freed_good h.t.g,⟨h.t.w.st,h.t.w.v⟩,h.t.x,.inr ⟨rfl,rfl⟩,hs⟩,h.most,fun hf=>Bool.noConfusion hf⟩
  exact h1.find _
 ·exact ⟨⟨h.t.g,h.t.w,h.t.x,h.t.p,hs⟩,h.most,h.fd⟩
theorem kw_new {n:Int} (h1:1≤n) (h2:n≤800):Kw n (rvN n):=⟨⟨mcN_good h1 h2,allP_nw wf_kept.z _ rfl rfl,fi.tx_new n,.inr ⟨rfl,rfl⟩,⟨Nat.zero_le _,Nat.zero_le _⟩⟩,rfl,fun h=>Bool.noConfusion h⟩
end ws
namespace sg
open Go Go.Proofs Go.RowKit Go.Shelf
def rho:Ren:=⟨fun | 167=>115 | 169=>116 | 240=>165 | 276=>200 | x=>x,
 fun | 0=>0 | 3=>3 | 4=>4 | 5=>5 | 9=>9 | 20=>20 | 37=>33 | 70=>211 | 72=>213 | 75=>28 | 80=>215 | 127=>271 | 164=>308 | x=>x,id⟩
theorem lays167:Lays.n167 Tryz.prog rho where
 mixed:=by kernel_rfl
 f167:=Tryz.func115.trans (by kernel_rfl)
 f240:=Tryz.func165.trans (by kernel_rfl)
 f276:=Tryz.func200.trans (by kernel_rfl)
 t0:=Tryz.underlying0
 a0:=Tryz.isAgg0
 z0:=Tryz.sizeOf0
 v0:=Tryz.zeroValue0
 t4:=Tryz.underlying4
 a4:=Tryz.isAgg4
 z4:=Tryz.sizeOf4
 v4:=Tryz.zeroValue4
 t5:=Tryz.underlying5
 a5:=Tryz.isAgg5
 z5:=Tryz.sizeOf5
 v5:=Tryz.zeroValue5
 t9:=Tryz.underlying9
 a9:=Tryz.isAgg9
 z9:=Tryz.sizeOf9
 v9:=Tryz.zeroValue9
 t20:=Tryz.underlying20
 a20:=Tryz.isAgg20
 z20:=Tryz.sizeOf20
 v20:=Tryz.zeroValue20
 t37:=Tryz.underlying33
 a37:=Tryz.isAgg33
 z37:=Tryz.sizeOf33
 v37:=Tryz.zeroValue33
 t70:=Tryz.underlying211
 a70:=Tryz.isAgg211
 z70:=Tryz.sizeOf211
 v70:=Tryz.zeroValue211
 t72:=Tryz.underlying213
 a72:=Tryz.isAgg213
 z72:=Tryz.sizeOf213
 v72:=Tryz.zeroValue213
 t75:=Tryz.underlying28
 a75:=Tryz.isAgg28
 z75:=Tryz.sizeOf28
 v75:=Tryz.zeroValue28
 t164:=Tryz.underlying308
 a164:=Tryz.isAgg308
 z164:=Tryz.sizeOf308
 v164:=Tryz.zeroValue308
theorem lays169:Lays.n169 Tryz.prog rho where
 mixed:=by kernel_rfl
 f169:=Tryz.func116.trans (by kernel_rfl)
 t0:=Tryz.underlying0
 a0:=Tryz.isAgg0
 z0:=Tryz.sizeOf0
 v0:=Tryz.zeroValue0
 t3:=Tryz.underlying3
 a3:=Tryz.isAgg3
 z3:=Tryz.sizeOf3
 v3:=Tryz.zeroValue3
 t9:=Tryz.underlying9
 a9:=Tryz.isAgg9
 z9:=Tryz.sizeOf9
 v9:=Tryz.zeroValue9
 t37:=Tryz.underlying33
 a37:=Tryz.isAgg33
 z37:=Tryz.sizeOf33
 v37:=Tryz.zeroValue33
 t70:=Tryz.underlying211
 a70:=Tryz.isAgg211
 z70:=Tryz.sizeOf211
 v70:=Tryz.zeroValue211
 t72:=Tryz.underlying213
 a72:=Tryz.isAgg213
 z72:=Tryz.sizeOf213
 v72:=Tryz.zeroValue213
 t127:=Tryz.underlying271
 a127:=Tryz.isAgg271
 z127:=Tryz.sizeOf271
 v127:=Tryz.zeroValue271
theorem bextra:Builder.Extra Tryz.prog rho where
 sizeBuilder:=by kernel_rfl
 liesBuilder:=by kernel_rfl
 t5:=Tryz.underlying5
 a5:=Tryz.isAgg5
 z5:=Tryz.sizeOf5
 v5:=Tryz.zeroValue5
 infoByte:=by kernel_rfl
 cellsByte:=by kernel_rfl
 sizeByte:=by kernel_rfl
 neB5:=by decide
def hexB:ByteArray:=⟨#[48,49,50,51,52,53,54,55,56,57,97,98,99,100,101,102]⟩
def dg (x:Int):Int:=(wrap64 (x.tmod 10+10)).tmod 10
theorem dg_in (x:Int):0≤dg x∧dg x<16:=by
 have h1:=Int.tmod_lt_of_pos x (show (0:Int)<10 by decide)
 have h2 : -10<x.tmod 10:=by
  have:=Int.lt_tmod_of_pos x (show (0:Int)<10 by decide)
  omega
 have e:wrap64 (x.tmod 10+10)=x.tmod 10+10:=by unfold wrap64; omega
 unfold dg
 rw [e]
 have h3:=Int.tmod_lt_of_pos (x.tmod 10+10) (show (0:Int)<10 by decide)
 have h4:=Int.tmod_nonneg 10 (show 0≤x.tmod 10+10 by omega)
 omega
def sgn (x:Int):UInt8:=hexB[(dg x).toNat]'(by have:=dg_in x; show (dg x).toNat<16; omega)
def sgB (xs:List Int) (k:Nat):List UInt8:=(List.range k).map fun j=>match xs[j]? with
 | some x=>sgn x
 | none=>45
theorem sgB_len (xs:List Int) (k:Nat):(sgB xs k).length=k:=by simp [sgB]
theorem sgB_lt {xs:List Int} {k:Nat} (h:k<xs.length):sgB xs (k+1)=sgB xs k++[sgn xs[k]]:=by
 simp [sgB,List.range_succ,h]
theorem sgB_ge {xs:List Int} {k:Nat} (h:¬ k<xs.length):sgB xs (k+1)=sgB xs k++[45]:=by
 simp [sgB,List.range_succ,List.getElem?_eq_none (Nat.le_of_not_lt h)]
set_option maxHeartbeats 4000000 in
set_option maxRecDepth 1000000 in
theorem signs_walk (xs:List Int) (many:Nat) (a:Option Addr) (cap:Nat) (w:World) (hm:many≤4)
  (hx:∀ j x,xs[j]? = some x→∃ blk off,a=some ⟨blk,off,none⟩∧blk<w.heap.size∧w.cell? ⟨blk,off+j,none⟩=some (.int .i64 x)) :
  Calls Tryz.prog 71 #[.slice a xs.length cap,.int .i64 many] w fun e w'=>e=.returned (.string ⟨(sgB xs many).toArray⟩)∧Below w.heap.size w w':=by
 go_enter Tryz.func71,Tryz.ntmps71
 go_wp2
 go_loopw [8] (fun i wr=>∃ k:Nat,k≤many∧i=.int .i64 k∧Lib.IsBuilderF 213 5 w.heap.size w.heap.size (Lib.byteCells (sgB xs k)) wr∧Below w.heap.size w wr) (fun i _=>many - (intOf i).toNat)
 case atStart=>
  refine ⟨0,by omega,rfl,Lib.IsBuilderF.of (Lib.fresh_isBuilder 213 5 w),(Below.refl _ w).alloc (Nat.le_refl _) _⟩
 case round=>
  obtain ⟨k,hk,rfl,hI,hbw⟩:=hrel
  have hsz:w.heap.size≤wr.heap.size:=hbw.size
  have hlen:(Lib.byteCells (sgB xs k)).length+1≤140737488355328:=by rw [Lib.byteCells_length,sgB_len]; omega
  by_cases hkm:k<many
  ·by_cases hkl:k<xs.length
   ·obtain ⟨blk,off,rfl,hblk,hcell⟩:=hx k xs[k] (List.getElem?_eq_getElem hkl)
    have hcw:wr.cell? ⟨blk,off+k,none⟩=some (.int .i64 xs[k]):=(hbw.cell (p:=⟨blk,off+k,none⟩) hblk).trans hcell
    clear hx
    have hq:0≤(wrap64 (xs[k].tmod 10+10)).tmod 10∧(wrap64 (xs[k].tmod 10+10)).tmod 10<16:=dg_in xs[k]
    go_wp2_with (go_at_call 115; refine (Any.Builder_WriteByte_k lays167 bextra w.heap.size w.heap.size _ _ _ hI hlen hsz).mono ?_)
    rintro e W1 ⟨rfl,h1,b1,k1⟩
    go_wp2
    go_roundw
    case rel=>
     refine ⟨k+1,by omega,by go_num,?_,hbw.trans b1⟩
     rw [sgB_lt hkl,Lib.byteCells_append]
     exact Or.inr h1
    case measure=>simp [intOf]; omega
   ·clear hx
    go_wp2_with (go_at_call 115; refine (Any.Builder_WriteByte_k lays167 bextra w.heap.size w.heap.size _ _ _ hI hlen hsz).mono ?_)
    rintro e W1 ⟨rfl,h1,b1,k1⟩
    go_wp2
    go_roundw
    case rel=>
     refine ⟨k+1,by omega,by go_num,?_,hbw.trans b1⟩
     rw [sgB_ge hkl,Lib.byteCells_append]
     exact Or.inr h1
    case measure=>simp [intOf]; omega
  ·have e:k=many:=by omega
   subst e
   go_wp2_with (go_at_call 116; refine (Any.Builder_String_any_k lays169 bextra w.heap.size w.heap.size _ _ hI hsz).mono ?_)
   rintro e W1 ⟨rfl,_,b1,_⟩
   go_wp2
   go_ret
   exact ⟨rfl,hbw.trans b1⟩
end sg
namespace sg
open Go Go.Nx pk rv
open sto (sT sF)
theorem goes_signs:∀ args w,(callFunc 71 args).run Tryz.prog w=.ok (.enter 71 args) w:=Go.Proofs.enters_of Tryz.func71 (by kernel_rfl) rfl
noncomputable def sgS (xs:List Int) (n:Int):ByteArray:=⟨(sgB xs n.toNat).toArray⟩
noncomputable def tSg:Con:=fun args regs=>match args,regs with
 | [.c (.l _ xs),.c (.i _ n)],[]=>.must (args=[.c (.l .i64 xs),.c (.i .i64 n)]∧0≤n∧n≤4) (.ret (oS (sgS xs n)))
 | _,_=>.fail
theorem kSg:Known Tryz.prog GL 71 tSg:=by
 refine ⟨goes_signs,fun args regs R h Γ w vs hw hG ha hout=>?_⟩
 unfold tSg at h
 split at h
 case h_2=>exact h.elim
 rename_i k xs k2 n
 obtain ⟨⟨h1,h2,h3⟩,hR⟩:=h
 have hR:R (oS (sgS xs n)):=hR
 rw [h1] at ha
 cases ha with
 | cons r1 ha=>
   cases ha with
   | cons r2 ha=>
     cases ha
     obtain ⟨⟨a,cap,rfl,-,h4⟩,-⟩:=r1
     obtain ⟨rfl,-⟩:=r2
     have e:n=((n.toNat:Nat):Int):=by omega
     have hs:=signs_walk xs n.toNat a cap w (by omega) (fun j x hj=>by
      rcases h4 with rfl | ⟨blk,off,rfl,-,c,ty,fz,h5,h6⟩
      ·simp at hj
      ·have h7:=hw.kp _ _ h5
       have hlt:blk<w.heap.size:=by
        rcases Nat.lt_or_ge blk w.heap.size with h' | h'
        ·exact h'
        ·rw [Array.getElem?_eq_none h'] at h7; cases h7
       have h8:=h6 j (.int .i64 x) (by rw [List.getElem?_map,hj]; rfl)
       exact ⟨blk,off,rfl,hlt,by simp [World.cell?,h7,h8]⟩)
     rw [← e] at hs
     refine hs.mono ?_
     rintro e w' ⟨rfl,hb⟩
     refine ⟨_,_,Γ,hR,rfl,Ext.refl Γ w,⟨rfl,rfl⟩,⟨fun n g hg=>?_,fun n m B B' _ hn=>?_,fun b o hbo=>?_,fun n B hn=>?_,hw.ro⟩,⟨hb.os,hb.tape,hb.output,hb.size⟩⟩
     ·cases hg
     ·obtain ⟨g,hg⟩:=hn; cases hg
     ·have h7:=hw.kp b o hbo
      have hlt:b<w.heap.size:=by
       rcases Nat.lt_or_ge b w.heap.size with h' | h'
       ·exact h'
       ·rw [Array.getElem?_eq_none h'] at h7; cases h7
      exact (hb.block b hlt).trans h7
     ·obtain ⟨g,hg⟩:=hn; cases hg
noncomputable def c_ln:FuncId→Option Con:=conOf [(71,tSg)]
theorem kc_ln:∀ f T,c_ln f=some T→Known Tryz.prog GL f T:=(Knowns.cons kSg .nil).get
noncomputable def t_ln:Con:=fun args regs=>nfun Tryz.prog GL c_ln [] Tryz.f32 args regs
theorem k_ln:Known Tryz.prog GL 32 t_ln:=known_inl Tryz.func32 rfl (by kernel_rfl) mixed kc_ln (by kernel_rfl)
noncomputable def lineV (s:Rm):ByteArray:=bif s.sub then ⟨#[83]⟩++sgS s.su 4++⟨#[32,32,32]⟩ else bif decide ((s.ds.length:Int) > 0) then ⟨#[80]⟩++sgS s.ds 3++⟨#[32,32,32,32]⟩ else line0 s.mg s.pn
noncomputable def lnT (s:Rm) (R:Out→Prop):Prop:=sel s.sub (([NV.c (.l .i64 s.su),.c (.i .i64 4)]=[NV.c (.l .i64 s.su),.c (.i .i64 4)]∧(0:Int)≤4∧(4:Int)≤4)∧R (oS (⟨#[83]⟩++sgS s.su 4++⟨#[32,32,32]⟩)))
 (sel (decide ((s.ds.length:Int) > 0)) (([NV.c (.l .i64 s.ds),.c (.i .i64 3)]=[NV.c (.l .i64 s.ds),.c (.i .i64 3)]∧(0:Int)≤3∧(3:Int)≤4)∧R (oS (⟨#[80]⟩++sgS s.ds 3++⟨#[32,32,32,32]⟩))) (rlT s.mg s.pn R))
theorem ln_tree (m p u:Int) (ds su:List Int) (sb h r x:Bool) (R:Out→Prop):(t_ln [.ag (Rm.nc ⟨m,p,u,ds,su,sb,h,r,x⟩)] []).run R=lnT ⟨m,p,u,ds,su,sb,h,r,x⟩ R:=by kernel_rfl
noncomputable def tLin:Con:=fun args regs=>match args,regs with
 | [.ag xs],[]=>(match rdRm xs with
   | some s=>.must (args=[.ag s.nc]) (.ret (oS (lineV s)))
   | none=>.fail)
 | _,_=>.fail
attribute [local irreducible] t_ln in
theorem kLin:Known Tryz.prog GL 32 tLin:=by
 refine k_ln.less fun args regs R h=>?_
 unfold tLin at h
 split at h
 case h_2=>exact h.elim
 split at h
 case h_2=>exact h.elim
 rename_i s _
 obtain ⟨h1,h⟩:=h
 rw [h1]
 obtain ⟨m,p,u,ds,su,sb,hd,rv,mx⟩:=s
 have h:R (oS (lineV ⟨m,p,u,ds,su,sb,hd,rv,mx⟩)):=h
 refine (Box.of_eq (ln_tree m p u ds su sb hd rv mx R) ?_).out
 unfold lineV at h
 unfold lnT
 cases sb with
 | true=>exact sT rfl ⟨⟨rfl,by decide,by decide⟩,h⟩
 | false=>
   refine sF rfl ?_
   cases hd' : decide ((ds.length:Int) > 0) with
   | true=>
     simp only [hd',cond_true,cond_false] at h
     exact sT rfl ⟨⟨rfl,by decide,by decide⟩,h⟩
   | false=>
     simp only [hd',cond_false] at h
     have q1:=qd_in m
     have q2:=nib_in (shrv .i64 p 4)
     have q3:=nib_in p
     exact sF rfl (sT (decide_eq_true q1.1) (sT (decide_eq_true q1.2) (sT (decide_eq_true q2.1) (sT (decide_eq_true q2.2) (sT (decide_eq_true q3.1) (sT (decide_eq_true q3.2) h))))))
noncomputable def c_st:FuncId→Option Con:=conOf [(32,tLin),(13,mac.tPgs)]
theorem kc_st:∀ f T,c_st f=some T→Known Tryz.prog GL f T:=(Knowns.cons kLin (.cons mac.kPgs .nil)).get
noncomputable def t_st:Con:=fun args regs=>nfun Tryz.prog GL c_st [] Tryz.f11 args regs
theorem k_st:Known Tryz.prog GL 11 t_st:=known_inl Tryz.func11 rfl (by kernel_rfl) mixed kc_st (by kernel_rfl)
noncomputable def stT (V:Rv) (R:Out→Prop):Prop:=[NV.ag V.s.nc]=[.ag V.s.nc]∧((mac.inM V.m=mac.inM (mac.bk V.m)∧(mac.bk V.m).ok)∧(some (mac.mcG 2 V.m.v V.m.inf)=some (mac.mcG 2 V.bk.m.v V.bk.m.inf)∧(some (stN 3 V.m.st.sto)=some (stN 3 V.bk.m.st.sto)∧(some (ac.mpReg V.m.st.sto.m)=some (ac.mpReg V.bk.m.st.sto.m)∧(some (sto.ordReg (sto.kyRows V.m.st.sto.l))=some (sto.ordReg (sto.kyRows V.bk.m.st.sto.l))∧R ⟨.v (.ag (stNC V.bk (lineV V.s))),(inV V).map some⟩)))))
theorem st_tree (V:Rv) (R:Out→Prop):(t_st [.c (.p 0 0 0)] (inV V)).run R=stT V R:=by kernel_rfl
noncomputable def tStat:Con:=fun args regs=>match args with
 | [.c (.p 0 0 0)]=>onV regs fun V=>.ret (oSv V (lineV V.s))
 | _=>.fail
attribute [local irreducible] t_st in
theorem kStat:Known Tryz.prog GL 11 tStat:=by
 refine k_st.less fun args regs R h=>?_
 unfold tStat at h
 split at h
 case h_2=>exact h.elim
 obtain ⟨V,rfl,hV,h⟩:=onV_elim h
 refine (Box.of_eq (st_tree V R) ?_).out
 unfold stT
 rw [V.bk_eq hV.1,mac.bk_eq _ hV.1]
 refine ⟨rfl,⟨rfl,hV⟩,rfl,rfl,rfl,rfl,?_⟩
 have e:(sto.kyRows (V.m.st.L.map sto.kyP)).length=V.m.st.L.length:=by rw [sto.kyRows_length,List.length_map]
 have h:R (oSv V (lineV V.s)):=h
 unfold oSv at h
 unfold stNC
 rw [e]
 exact h
end sg
namespace scr
open Go Go.Nx
theorem mixed:Tryz.prog.follows .mixedOrders=true:=by kernel_rfl
noncomputable def t_blank:Con:=fun args regs=>nfun Tryz.prog [] (fun _=>Option.none) [] Tryz.f187 args regs
theorem k_blank:Known Tryz.prog [] 187 t_blank:=known_inl Tryz.func187 rfl (by kernel_rfl) mixed con_none (by kernel_rfl)
noncomputable def c_blanks:FuncId→Option Con:=conOf [(187,t_blank)]
theorem kc_blanks:∀ f T,c_blanks f=some T→Known Tryz.prog [] f T:=(Knowns.cons k_blank Knowns.nil).get
noncomputable def X_blanks:Cx:={P:=Tryz.prog,con:=c_blanks,glob:=[],m:=0,loops:=[]}
noncomputable def t_blanks:Con:=fun args regs=>if regs.length=0 then nfun Tryz.prog [] c_blanks [(0,[0,1,3],unroll X_blanks 0 [0,1,3] [0,1] (bodyLoop Tryz.f154 0) 41)] Tryz.f154 args regs else .fail
theorem k_blanks:Known Tryz.prog [] 154 t_blanks:=known_loops 0 Tryz.func154 rfl (by kernel_rfl) mixed kc_blanks (LAll.one (id:=0) (body:=bodyLoop Tryz.f154 0) (by kernel_rfl) rfl (unroll_ok (X:=X_blanks) kc_blanks mixed (LAll.none (by kernel_rfl)) [0,1,3] [0,1] 41))
def KS:List CK:=[.i .i64,.i .i64,.b,.b,.i .i64,.i .i64,.b,.i .i64,.b,.b]
def blk:List Sc:=[.i 32,.i 7,.b false,.b false,.i 0,.i 0,.b false,.i 0,.b false,.b false]
theorem blanks_tree (R:Out→Prop):(t_blanks [] []).run R=R ⟨.v (.sg [.recs KS 40 (List.replicate 40 blk)]),[]⟩:=by kernel_rfl
noncomputable def tBlanks:Con:=fun args regs=>match args,regs with
 | [],[]=>.ret ⟨.v (.sg [.recs KS 40 (List.replicate 40 blk)]),[]⟩
 | _,_=>.fail
theorem kBlanks:Known Tryz.prog [] 154 tBlanks:=by
 refine k_blanks.less fun args regs R h=>?_
 unfold tBlanks at h
 split at h
 case h_2=>exact h.elim
 rw [blanks_tree]
 exact h
structure Scr where
 row:Int
 col:Int
 fg:Int
 bg:Int
 fl:Bool
 iv:Bool
 un:Bool
 co:Bool
 ta:Bool
 wi:Bool
 cu:Bool
 ro:Bool
 ma:Bool
 bells:Int
 sl:List (List Sc)
 wt:Bool
 kr:Int
 kc:Int
 e0:Int
 e1:Int
 e2:Int
 e3:Int
 e4:Int
 e5:Int
 e6:Int
def stC (s:Scr):List NC:=[.i .i64 s.row,.i .i64 s.col,.i .i64 s.fg,.i .i64 s.bg,.b s.fl,.b s.iv,.b s.un,.b s.co,.b s.ta,.b s.wi,.b s.cu,.b s.ro,.b s.ma,.i .i64 s.bells]
def scr (s:Scr):Reg:=⟨10024,256,.sg [.cells (stC s),.recs KS 1000 s.sl,
 .cells [.b s.wt,.i .i64 s.kr,.i .i64 s.kc,.i .i64 s.e0,.i .i64 s.e1,.i .i64 s.e2,.i .i64 s.e3,.i .i64 s.e4,.i .i64 s.e5,.i .i64 s.e6]]⟩
def newS:Scr:={row:=1,col:=0,fg:=7,bg:=0,fl:=false,iv:=false,un:=false,co:=false,ta:=false,wi:=false,cu:=false,ro:=false,ma:=true,bells:=0,sl:=List.replicate 1000 blk,wt:=false,kr:=1,kc:=0,e0:=0,e1:=0,e2:=0,e3:=0,e4:=0,e5:=0,e6:=0}
noncomputable def c_new:FuncId→Option Con:=conOf [(154,tBlanks)]
theorem kc_new:∀ f T,c_new f=some T→Known Tryz.prog [] f T:=(Knowns.cons kBlanks Knowns.nil).get
noncomputable def X_new:Cx:={P:=Tryz.prog,con:=c_new,glob:=[],m:=0,loops:=[]}
noncomputable def t_new:Con:=fun args regs=>if regs.length=0 then nfun Tryz.prog [] c_new [(0,[1,6],unroll X_new 0 [1,6] [1] (bodyLoop Tryz.f104 0) 26)] Tryz.f104 args regs else .fail
theorem k_new:Known Tryz.prog [] 104 t_new:=known_loops 0 Tryz.func104 rfl (by kernel_rfl) mixed kc_new (LAll.one (id:=0) (body:=bodyLoop Tryz.f104 0) (by kernel_rfl) rfl (unroll_ok (X:=X_new) kc_new mixed (LAll.none (by kernel_rfl)) [1,6] [1] 26))
theorem new_tree (R:Out→Prop):(t_new [] []).run R=R ⟨.v (.c (.p 0 0 0)),[some (scr newS)]⟩:=by kernel_rfl
noncomputable def tNew:Con:=fun args regs=>match args,regs with
 | [],[]=>.ret ⟨.v (.c (.p 0 0 0)),[some (scr newS)]⟩
 | _,_=>.fail
theorem kNew:Known Tryz.prog [] 104 tNew:=by
 refine k_new.less fun args regs R h=>?_
 unfold tNew at h
 split at h
 case h_2=>exact h.elim
 rw [new_tree]
 exact h
end scr
namespace scr
end scr
namespace prt
open Go Go.Nx
theorem mixed:Tryz.prog.follows .mixedOrders=true:=by kernel_rfl
def mC (M:Nat→Bool):List NC:=(List.range 16).map fun i=>.b (M i)
structure PS where
 M:Nat→Bool
 ro:Bool
 lo:Bool
 ex:Bool
 c0:Bool
 sp:Int
 ec:Bool
def pC (p:PS):List NC:=mC p.M++[.b p.ro,.b p.lo,.b p.ex,.b p.c0,.i .u8 p.sp,.b p.ec]
noncomputable def t_mstart:Con:=fun args regs=>nfun Tryz.prog [] (fun _=>Option.none) [] Tryz.f155 args regs
theorem k_mstart:Known Tryz.prog [] 155 t_mstart:=known_inl Tryz.func155 rfl (by kernel_rfl) mixed con_none (by kernel_rfl)
noncomputable def c_pstart:FuncId→Option Con:=conOf [(155,t_mstart)]
theorem kc_pstart:∀ f T,c_pstart f=some T→Known Tryz.prog [] f T:=(Knowns.cons k_mstart Knowns.nil).get
noncomputable def t_pstart:Con:=fun args regs=>nfun Tryz.prog [] c_pstart [] Tryz.f105 args regs
theorem k_pstart:Known Tryz.prog [] 105 t_pstart:=known_inl Tryz.func105 rfl (by kernel_rfl) mixed kc_pstart (by kernel_rfl)
def startP:PS:={M:=fun i=>i==2||i==9,ro:=false,lo:=false,ex:=false,c0:=false,sp:=100,ec:=false}
theorem pstart_tree (R:Out→Prop):(t_pstart [] []).run R=R ⟨.v (.ag (pC startP)),[]⟩:=by kernel_rfl
noncomputable def tPStart:Con:=fun args regs=>match args,regs with
 | [],[]=>.ret ⟨.v (.ag (pC startP)),[]⟩
 | _,_=>.fail
theorem kPStart:Known Tryz.prog [] 105 tPStart:=by
 refine k_pstart.less fun args regs R h=>?_
 unfold tPStart at h
 split at h
 case h_2=>exact h.elim
 rw [pstart_tree]
 exact h
end prt
namespace prt
end prt
namespace vn
open Go Go.Nx pk
noncomputable def t_stNew:Con:=fun args regs=>nfun Tryz.prog GL (fun _=>Option.none) [] Tryz.f69 args regs
theorem k_stNew:Known Tryz.prog GL 69 t_stNew:=known_inl Tryz.func69 rfl (by kernel_rfl) mixed con_none (by kernel_rfl)
noncomputable def c_acNew:FuncId→Option Con:=conOf [(69,t_stNew)]
theorem kc_acNew:∀ f T,c_acNew f=some T→Known Tryz.prog GL f T:=(Knowns.cons k_stNew .nil).get
noncomputable def t_acNew:Con:=fun args regs=>nfun Tryz.prog GL c_acNew [] Tryz.f28 args regs
theorem k_acNew:Known Tryz.prog GL 28 t_acNew:=known_inl Tryz.func28 rfl (by kernel_rfl) mixed kc_acNew (by kernel_rfl)
noncomputable def t_rStart:Con:=fun args regs=>nfun Tryz.prog GL (fun _=>Option.none) [] Tryz.f29 args regs
theorem k_rStart:Known Tryz.prog GL 29 t_rStart:=known_inl Tryz.func29 rfl (by kernel_rfl) mixed con_none (by kernel_rfl)
noncomputable def c_tlNew:FuncId→Option Con:=conOf [(28,t_acNew),(29,t_rStart)]
theorem kc_tlNew:∀ f T,c_tlNew f=some T→Known Tryz.prog GL f T:=(Knowns.cons k_acNew (.cons k_rStart .nil)).get
noncomputable def t_tlNew:Con:=fun args regs=>nfun Tryz.prog GL c_tlNew [] Tryz.f8 args regs
theorem k_tlNew:Known Tryz.prog GL 8 t_tlNew:=known_inl Tryz.func8 rfl (by kernel_rfl) mixed kc_tlNew (by kernel_rfl)
noncomputable def t_pMag:Con:=fun args regs=>nfun Tryz.prog GL (fun _=>Option.none) [] Tryz.f90 args regs
theorem k_pMag:Known Tryz.prog GL 90 t_pMag:=known_inl Tryz.func90 rfl (by kernel_rfl) mixed con_none (by kernel_rfl)
noncomputable def c_acLast:FuncId→Option Con:=conOf [(90,t_pMag)]
theorem kc_acLast:∀ f T,c_acLast f=some T→Known Tryz.prog GL f T:=(Knowns.cons k_pMag .nil).get
noncomputable def t_acLast:Con:=fun args regs=>nfun Tryz.prog GL c_acLast [] Tryz.f46 args regs
theorem k_acLast:Known Tryz.prog GL 46 t_acLast:=known_inl Tryz.func46 rfl (by kernel_rfl) mixed kc_acLast (by kernel_rfl)
noncomputable def t_clPl:Con:=fun args regs=>nfun Tryz.prog GL (fun _=>Option.none) [] Tryz.f72 args regs
theorem k_clPl:Known Tryz.prog GL 72 t_clPl:=known_inl Tryz.func72 rfl (by kernel_rfl) mixed con_none (by kernel_rfl)
noncomputable def c_stKeys:FuncId→Option Con:=conOf [(72,t_clPl)]
theorem kc_stKeys:∀ f T,c_stKeys f=some T→Known Tryz.prog GL f T:=(Knowns.cons k_clPl .nil).get
noncomputable def t_stKeys:Con:=fun args regs=>nfun Tryz.prog GL c_stKeys [] Tryz.f33 args regs
theorem k_stKeys:Known Tryz.prog GL 33 t_stKeys:=known_inl Tryz.func33 rfl (by kernel_rfl) mixed kc_stKeys (by kernel_rfl)
noncomputable def c_acPages:FuncId→Option Con:=conOf [(33,t_stKeys)]
theorem kc_acPages:∀ f T,c_acPages f=some T→Known Tryz.prog GL f T:=(Knowns.cons k_stKeys .nil).get
noncomputable def t_acPages:Con:=fun args regs=>nfun Tryz.prog GL c_acPages [] Tryz.f13 args regs
theorem k_acPages:Known Tryz.prog GL 13 t_acPages:=known_inl Tryz.func13 rfl (by kernel_rfl) mixed kc_acPages (by kernel_rfl)
noncomputable def t_rLine:Con:=fun args regs=>nfun Tryz.prog GL (fun _=>Option.none) [] Tryz.f32 args regs
theorem k_rLine:Known Tryz.prog GL 32 t_rLine:=known_inl Tryz.func32 rfl (by kernel_rfl) mixed con_none (by kernel_rfl)
noncomputable def t_rdBlank:Con:=fun args regs=>nfun Tryz.prog GL (fun _=>Option.none) [] Tryz.f92 args regs
theorem k_rdBlank:Known Tryz.prog GL 92 t_rdBlank:=known_inl Tryz.func92 rfl (by kernel_rfl) mixed con_none (by kernel_rfl)
noncomputable def c_rdRow:FuncId→Option Con:=conOf [(92,t_rdBlank)]
theorem kc_rdRow:∀ f T,c_rdRow f=some T→Known Tryz.prog GL f T:=(Knowns.cons k_rdBlank .nil).get
noncomputable def X_rdRow:Cx:={P:=Tryz.prog,con:=c_rdRow,glob:=GL,m:=0,loops:=[]}
noncomputable def t_rdRow:Con:=fun args regs=>if regs.length=0 then nfun Tryz.prog GL c_rdRow [(0,[0,1,3],unroll X_rdRow 0 [0,1,3] [0,1] (bodyLoop Tryz.f93 0) 41)] Tryz.f93 args regs else .fail
theorem k_rdRow:Known Tryz.prog GL 93 t_rdRow:=known_loops 0 Tryz.func93 rfl (by kernel_rfl) mixed kc_rdRow (LAll.one (id:=0) (body:=bodyLoop Tryz.f93 0) (by kernel_rfl) rfl (unroll_ok (X:=X_rdRow) kc_rdRow mixed (LAll.none (by kernel_rfl)) [0,1,3] [0,1] 41))
noncomputable def X_pText:Cx:={P:=Tryz.prog,con:=(fun _=>Option.none),glob:=GL,m:=0,loops:=[]}
noncomputable def t_pText:Con:=fun args regs=>if regs.length=0 then nfun Tryz.prog GL (fun _=>Option.none) [(0,[4,5,8,9,10],unroll X_pText 0 [4,5,8,9,10] [4,5] (bodyLoop Tryz.f94 0) 2)] Tryz.f94 args regs else .fail
theorem k_pText:Known Tryz.prog GL 94 t_pText:=known_loops 0 Tryz.func94 rfl (by kernel_rfl) mixed con_none (LAll.one (id:=0) (body:=bodyLoop Tryz.f94 0) (by kernel_rfl) rfl (unroll_ok (X:=X_pText) con_none mixed (LAll.none (by kernel_rfl)) [4,5,8,9,10] [4,5] 2))
noncomputable def c_tlText:FuncId→Option Con:=conOf [(94,t_pText)]
theorem kc_tlText:∀ f T,c_tlText f=some T→Known Tryz.prog GL f T:=(Knowns.cons k_pText .nil).get
noncomputable def X_tlText:Cx:={P:=Tryz.prog,con:=c_tlText,glob:=GL,m:=0,loops:=[]}
noncomputable def t_tlText:Con:=fun args regs=>if regs.length=0 then nfun Tryz.prog GL c_tlText [(0,[3,4,12,13],unroll X_tlText 0 [3,4,12,13] [3] (bodyLoop Tryz.f49 0) 2)] Tryz.f49 args regs else .fail
theorem k_tlText:Known Tryz.prog GL 49 t_tlText:=known_loops 0 Tryz.func49 rfl (by kernel_rfl) mixed kc_tlText (LAll.one (id:=0) (body:=bodyLoop Tryz.f49 0) (by kernel_rfl) rfl (unroll_ok (X:=X_tlText) kc_tlText mixed (LAll.none (by kernel_rfl)) [3,4,12,13] [3] 2))
end vn
namespace vn
open Go Go.Nx pk ac
def eR:Out:=⟨.tu [.c .pn,.c (.e 1)],[]⟩
def rmZ:List NC:=[.i .i64 1,.i .i64 0,.i .i64 16255,.sn,.sn,.b false,.b false,.b false,.b false]
noncomputable def rcReg (r:Nat) (rm:List NC) (p:Pg) (x:NC) (found:Bool) (ticks:Int):Reg:=⟨1073,91,.sg (pgSegs p x (.p r 0 0::rm) fun q=>[.cells (q++[.b found,.i .i64 ticks])])⟩
theorem kgScNew:Known Tryz.prog GL 104 scr.tNew:=known_gl scr.kNew
theorem kgPStart:Known Tryz.prog GL 105 prt.tPStart:=known_gl prt.kPStart
noncomputable def c_mtNew:FuncId→Option Con:=conOf [(104,scr.tNew),(105,prt.tPStart)]
theorem kc_mtNew:∀ f T,c_mtNew f=some T→Known Tryz.prog GL f T:=(Knowns.cons kgScNew (.cons kgPStart .nil)).get
noncomputable def t_mtNew:Con:=fun args regs=>nfun Tryz.prog GL c_mtNew [] Tryz.f58 args regs
theorem k_mtNew:Known Tryz.prog GL 58 t_mtNew:=known_inl Tryz.func58 rfl (by kernel_rfl) mixed kc_mtNew (by kernel_rfl)
noncomputable def c_vtNew2:FuncId→Option Con:=conOf [(8,t_tlNew),(58,t_mtNew)]
theorem kc_vtNew2:∀ f T,c_vtNew2 f=some T→Known Tryz.prog GL f T:=(Knowns.cons k_tlNew (.cons k_mtNew .nil)).get
noncomputable def t_vtNew2:Con:=fun args regs=>nfun Tryz.prog GL c_vtNew2 [] Tryz.f22 args regs
theorem k_vtNew2:Known Tryz.prog GL 22 t_vtNew2:=known_inl Tryz.func22 rfl (by kernel_rfl) mixed kc_vtNew2 (by kernel_rfl)
def blC:List Sc:=[.i 32,.i 7,.i 0,.b false,.b false,.b false,.b false,.b false,.i 0,.i 0]
def blK:List CK:=[.i .i64,.i .i64,.i .i64,.b,.b,.b,.b,.b,.i .i64,.i .i64]
def oRow:Out:=⟨.v (.sg [.recs blK 40 (List.replicate 40 blC)]),[]⟩
theorem row_tree (R:Out→Prop):(t_rdRow [] []).run R=R oRow:=by kernel_rfl
noncomputable def tRow:Con:=fun args regs=>match args,regs with
 | [],[]=>.ret oRow
 | _,_=>.fail
theorem kRow:Known Tryz.prog GL 93 tRow:=by
 refine k_rdRow.less fun args regs R h=>Box.out ?_
 unfold tRow at h
 split at h
 case h_2=>exact h.elim
 exact Box.of_eq (row_tree R) h
noncomputable def c_rdEmpty:FuncId→Option Con:=conOf [(93,tRow)]
theorem kc_rdEmpty:∀ f T,c_rdEmpty f=some T→Known Tryz.prog GL f T:=(Knowns.cons kRow .nil).get
noncomputable def X_rdEmpty:Cx:={P:=Tryz.prog,con:=c_rdEmpty,glob:=GL,m:=0,loops:=[]}
noncomputable def t_rdEmpty:Con:=fun args regs=>if regs.length=0 then nfun Tryz.prog GL c_rdEmpty [(0,[0,1,3],unroll X_rdEmpty 0 [0,1,3] [0,1] (bodyLoop Tryz.f48 0) 26)] Tryz.f48 args regs else .fail
theorem k_rdEmpty:Known Tryz.prog GL 48 t_rdEmpty:=known_loops 0 Tryz.func48 rfl (by kernel_rfl) mixed kc_rdEmpty (LAll.one (id:=0) (body:=bodyLoop Tryz.f48 0) (by kernel_rfl) rfl (unroll_ok (X:=X_rdEmpty) kc_rdEmpty mixed (LAll.none (by kernel_rfl)) [0,1,3] [0,1] 26))
def oEmp:Out:=⟨.v (.sg [.recs blK 1000 (List.replicate 1000 blC)]),[]⟩
theorem emp_tree (R:Out→Prop):(t_rdEmpty [] []).run R=R oEmp:=by kernel_rfl
noncomputable def tEmp:Con:=fun args regs=>match args,regs with
 | [],[]=>.ret oEmp
 | _,_=>.fail
theorem kEmp:Known Tryz.prog GL 48 tEmp:=by
 refine k_rdEmpty.less fun args regs R h=>Box.out ?_
 unfold tEmp at h
 split at h
 case h_2=>exact h.elim
 exact Box.of_eq (emp_tree R) h
noncomputable def c_rdWords:FuncId→Option Con:=conOf [(92,t_rdBlank)]
theorem kc_rdWords:∀ f T,c_rdWords f=some T→Known Tryz.prog GL f T:=(Knowns.cons k_rdBlank .nil).get
noncomputable def X_rdWords:Cx:={P:=Tryz.prog,con:=c_rdWords,glob:=GL,m:=0,loops:=[]}
noncomputable def t_rdWords:Con:=fun args regs=>if regs.length=0 then nfun Tryz.prog GL c_rdWords [(0,[1,2,3,4,8,9],unroll X_rdWords 0 [1,2,3,4,8,9] [4,8] (bodyLoop Tryz.f47 0) 9)] Tryz.f47 args regs else .fail
theorem k_rdWords:Known Tryz.prog GL 47 t_rdWords:=known_loops 0 Tryz.func47 rfl (by kernel_rfl) mixed kc_rdWords (LAll.one (id:=0) (body:=bodyLoop Tryz.f47 0) (by kernel_rfl) rfl (unroll_ok (X:=X_rdWords) kc_rdWords mixed (LAll.none (by kernel_rfl)) [1,2,3,4,8,9] [4,8] 9))
def glC (b:Int):List Sc:=[.i b,.i 7,.i 0,.b false,.b false,.b false,.b false,.b false,.i 0,.i 0]
def wv (G:List (List Sc)):Nat→List Int→List (List Sc)
 | _,[]=>G
 | k,b::l=>wv (spl G k 1 [glC b]) (k+1) l
def p100:ByteArray:=⟨#[80,49,48,48,32,32,32,32]⟩
def L100:List Int:=[80,49,48,48,32,32,32,32]
def oGr (G:List (List Sc)):Out:=⟨.v (.sg [.recs blK 1000 G]),[]⟩
theorem words8_tree (G:List (List Sc)) (R:Out→Prop):(t_rdWords [.sg [.recs blK 1000 G],.c (.i .i64 0),.c (.i .i64 0),.c (.s p100)] []).run R=R (oGr (wv G 0 L100)):=by kernel_rfl
theorem words0_tree (G:List (List Sc)) (R:Out→Prop):(t_rdWords [.sg [.recs blK 1000 G],.c (.i .i64 0),.c (.i .i64 8),.c (.s ⟨#[]⟩)] []).run R=R (oGr G):=by kernel_rfl
noncomputable def tWords:Con:=fun args regs=>match args,regs with
 | [.sg [.recs k m G],.c (.i .i64 r),.c (.i .i64 0),.c (.s t)],[]=>.must (k=blK∧m=1000∧r=0∧t=p100) (.ret (oGr (wv G 0 L100)))
 | [.sg [.recs k m G],.c (.i .i64 r),.c (.i .i64 8),.c (.s t)],[]=>.must (k=blK∧m=1000∧r=0∧t=⟨#[]⟩) (.ret (oGr G))
 | _,_=>.fail
theorem kWords:Known Tryz.prog GL 47 tWords:=by
 refine k_rdWords.less fun args regs R h=>Box.out ?_
 unfold tWords at h
 split at h
 case h_3=>exact h.elim
 ·obtain ⟨⟨rfl,rfl,rfl,rfl⟩,h⟩:=h
  exact Box.of_eq (words8_tree _ R) h
 ·obtain ⟨⟨rfl,rfl,rfl,rfl⟩,h⟩:=h
  exact Box.of_eq (words0_tree _ R) h
def oLn:Out:=⟨.v (.c (.s p100)),[]⟩
theorem line_tree (R:Out→Prop):(t_rLine [.ag rmZ] []).run R=R oLn:=by kernel_rfl
noncomputable def tLine:Con:=fun args regs=>match args,regs with
 | [.ag l],[]=>.must (l=rmZ) (.ret oLn)
 | _,_=>.fail
theorem kLine:Known Tryz.prog GL 32 tLine:=by
 refine k_rLine.less fun args regs R h=>Box.out ?_
 unfold tLine at h
 split at h
 case h_2=>exact h.elim
 obtain ⟨rfl,h⟩:=h
 exact Box.of_eq (line_tree R) h
noncomputable def c_tlGrid:FuncId→Option Con:=conOf [(46,t_acLast),(48,tEmp),(47,tWords),(32,tLine),(49,t_tlText)]
theorem kc_tlGrid:∀ f T,c_tlGrid f=some T→Known Tryz.prog GL f T:=(Knowns.cons k_acLast (.cons kEmp (.cons kWords (.cons kLine (.cons k_tlText .nil))))).get
noncomputable def t_tlGrid:Con:=fun args regs=>nfun Tryz.prog GL c_tlGrid [] Tryz.f17 args regs
theorem k_tlGrid:Known Tryz.prog GL 17 t_tlGrid:=known_inl Tryz.func17 rfl (by kernel_rfl) mixed kc_tlGrid (by kernel_rfl)
noncomputable def c_tlStatus2:FuncId→Option Con:=conOf [(32,tLine),(13,t_acPages)]
theorem kc_tlStatus2:∀ f T,c_tlStatus2 f=some T→Known Tryz.prog GL f T:=(Knowns.cons kLine (.cons k_acPages .nil)).get
noncomputable def t_tlStatus2:Con:=fun args regs=>nfun Tryz.prog GL c_tlStatus2 [] Tryz.f11 args regs
theorem k_tlStatus2:Known Tryz.prog GL 11 t_tlStatus2:=known_inl Tryz.func11 rfl (by kernel_rfl) mixed kc_tlStatus2 (by kernel_rfl)
noncomputable def rgT (n:Int):List Reg:=[rcReg 1 rmZ pgZ .sn false 0,mcReg 2 (fun _=>mgZ) infZ,stReg n 3 .sn 0 0 0 false,mpReg []]
def same {α:Type} (x:α) (N:Prop):Prop:=x=x∧N
noncomputable def same3 (k:Nat) (n:Int) (N:Prop):Prop:=same (some (mcReg (k+2) (fun _=>mgZ) infZ)) (same (some (stReg n (k+3) .sn 0 0 0 false)) (same (some (mpReg [])) N))
noncomputable def same4 (k:Nat) (n:Int) (N:Prop):Prop:=same (some (rcReg (k+1) rmZ pgZ .sn false 0)) (same3 k n N)
def okW1:Prop:=blK=blK∧1000=1000∧(0:Int)=0∧p100=p100
def okW2:Prop:=blK=blK∧1000=1000∧(0:Int)=0∧(⟨#[]⟩:ByteArray)=⟨#[]⟩
theorem okW1_in:okW1:=⟨rfl,rfl,rfl,rfl⟩
theorem okW2_in:okW2:=⟨rfl,rfl,rfl,rfl⟩
def gV:List (List Sc):=wv (List.replicate 1000 blC) 0 L100
noncomputable def oGrid (n:Int):Out:=⟨.v (.sg [.recs blK 1000 gV]),(rgT n).map some⟩
theorem grid_tree (n:Int) (R:Out→Prop):(t_tlGrid [.c (.p 0 0 0)] (rgT n)).run R=same3 0 n (same rmZ (okW1∧(okW2∧R (oGrid n)))):=by kernel_rfl
noncomputable def onT (regs:List Reg) (F:Int→Tr Out):Tr Out:=match regs with
 | [a,b,⟨_,_,.cells (.i .i64 n::_)⟩,d]=>.must (regs=rgT n) (F n)
 | _=>.fail
noncomputable def tGridZ:Con:=fun args regs=>match args with
 | [.c (.p 0 0 0)]=>onT regs fun n=>.ret (oGrid n)
 | _=>.fail
theorem onT_in {regs:List Reg} {F:Int→Tr Out} {R:Out→Prop} (h:(onT regs F).run R):∃ n,regs=rgT n∧(F n).run R:=by
 unfold onT at h
 split at h
 ·exact ⟨_,h.1,h.2⟩
 ·exact h.elim
theorem same_in {α:Type} {x:α} {N:Prop} (h:N):same x N:=And.intro rfl h
theorem same3_in {k:Nat} {n:Int} {N:Prop} (h:N):same3 k n N:=by
 unfold same3
 exact same_in (same_in (same_in h))
theorem same4_in {k:Nat} {n:Int} {N:Prop} (h:N):same4 k n N:=by
 unfold same4
 exact same_in (same3_in h)
theorem regs_eq {T:Con} {args:List NV} {regs regs' : List Reg} {R:Out→Prop} {Q:Prop} (e:regs=regs') (h:(T args regs').run R=Q):(T args regs).run R=Q:=by rw [e]; exact h
section
attribute [local irreducible] t_tlGrid
theorem kGridZ:Known Tryz.prog GL 17 tGridZ:=by
 refine k_tlGrid.less fun args regs R h=>Box.out ?_
 unfold tGridZ at h
 split at h
 case h_2=>exact h.elim
 obtain ⟨n,e,h⟩:=onT_in h
 have h2:R (oGrid n):=h
 clear h
 refine Box.of_eq (regs_eq e (grid_tree n R)) ?_
 exact same3_in (same_in (And.intro okW1_in (And.intro okW2_in h2)))
end
noncomputable def trReg:Reg:=⟨3,137,.cells [.p 1 0 0,.p 5 0 0,.b false]⟩
noncomputable def mn0 (m:Int):Reg:=⟨37,205,.cells ([.i .i64 m,.p 6 0 0]++prt.pC prt.startP++[.sn,.i .i64 0,.sn,.i .i64 0,.sn,.i .i64 0,.sn,.i .i64 0,.sn,.sn,.sn,.sn,.i .i64 0])⟩
noncomputable def rgVt (n m:Int):List Reg:=[trReg,rcReg 2 rmZ pgZ .sn false 0,mcReg 3 (fun _=>mgZ) infZ,stReg n 4 .sn 0 0 0 false,mpReg [],mn0 m,scr.scr scr.newS]
noncomputable def oVt (n m:Int):Out:=⟨.tu [.c (.p 0 0 0),.c .en],(rgVt n m).map some⟩
theorem vt_tree (n m:Int) (R:Out→Prop):(t_vtNew2 [.c (.i .i64 n),.c (.i .i64 m)] []).run R=sel (decide (n<1)) (R eR) (sel (decide (n > 800)) (R eR) (sel (decide (m<1)) (R eR) (sel (decide (m > 4096)) (R eR) (R (oVt n m))))):=by kernel_rfl
noncomputable def oStat (n:Int):Out:=⟨.v (.ag [.i .i64 1,.i .i64 0,.i .i64 16255,.b false,.i .i64 0,.i .i64 0,.i .i64 0,.s p100,.i .i64 0,.i .i64 0]),(rgT n).map some⟩
theorem stat_tree (n:Int) (R:Out→Prop):(t_tlStatus2 [.c (.p 0 0 0)] (rgT n)).run R=same rmZ (same3 0 n (R (oStat n))):=by kernel_rfl
noncomputable def tStatZ:Con:=fun args regs=>match args with
 | [.c (.p 0 0 0)]=>onT regs fun n=>.ret (oStat n)
 | _=>.fail
section
attribute [local irreducible] t_tlStatus2
theorem kStatZ:Known Tryz.prog GL 11 tStatZ:=by
 refine k_tlStatus2.less fun args regs R h=>Box.out ?_
 unfold tStatZ at h
 split at h
 case h_2=>exact h.elim
 obtain ⟨n,e,h⟩:=onT_in h
 have h2:R (oStat n):=h
 clear h
 refine Box.of_eq (regs_eq e (stat_tree n R)) ?_
 exact same_in (same3_in h2)
end
noncomputable def c_vtShot:FuncId→Option Con:=conOf [(17,tGridZ),(11,tStatZ)]
theorem kc_vtShot:∀ f T,c_vtShot f=some T→Known Tryz.prog GL f T:=(Knowns.cons kGridZ (.cons kStatZ .nil)).get
noncomputable def t_vtShot:Con:=fun args regs=>nfun Tryz.prog GL c_vtShot [] Tryz.f23 args regs
theorem k_vtShot:Known Tryz.prog GL 23 t_vtShot:=known_inl Tryz.func23 rfl (by kernel_rfl) mixed kc_vtShot (by kernel_rfl)
noncomputable def oShot (n m:Int):Out:=⟨.v (.sg [.cells [.b false],.recs blK 1000 gV,.cells [.sn,.s p100,.i .i64 0,.i .i64 0,.i .i64 0]]),(rgVt n m).map some⟩
theorem shot_tree (n m:Int) (R:Out→Prop):(t_vtShot [.c (.p 0 0 0)] (rgVt n m)).run R=same (rgT n) (same4 1 n (same (rgT n) (R (oShot n m)))):=by kernel_rfl
noncomputable def onV (regs:List Reg) (F:Int→Int→Tr Out):Tr Out:=match regs with
 | [a,b,c,⟨_,_,.cells (.i .i64 n::_)⟩,d,⟨_,_,.cells (.i .i64 m::_)⟩,e]=>.must (regs=rgVt n m) (F n m)
 | _=>.fail
theorem onV_in {regs:List Reg} {F:Int→Int→Tr Out} {R:Out→Prop} (h:(onV regs F).run R):∃ n m,regs=rgVt n m∧(F n m).run R:=by
 unfold onV at h
 split at h
 ·exact ⟨_,_,h.1,h.2⟩
 ·exact h.elim
noncomputable def tShotZ:Con:=fun args regs=>match args with
 | [.c (.p 0 0 0)]=>onV regs fun n m=>.ret (oShot n m)
 | _=>.fail
section
attribute [local irreducible] t_vtShot
theorem kShotZ:Known Tryz.prog GL 23 tShotZ:=by
 refine k_vtShot.less fun args regs R h=>Box.out ?_
 unfold tShotZ at h
 split at h
 case h_2=>exact h.elim
 obtain ⟨n,m,e,h⟩:=onV_in h
 have h2:R (oShot n m):=h
 clear h
 refine Box.of_eq (regs_eq e (shot_tree n m R)) ?_
 exact same_in (same4_in (same_in h2))
end
noncomputable def tVtNew:Con:=fun args regs=>match args,regs with
 | [.c (.i .i64 n),.c (.i .i64 m)],[]=>.br (decide (n<1)) (.ret eR) (.br (decide (n > 800)) (.ret eR) (.br (decide (m<1)) (.ret eR) (.br (decide (m > 4096)) (.ret eR) (.ret (oVt n m)))))
 | _,_=>.fail
section
attribute [local irreducible] t_vtNew2
theorem kVtNew:Known Tryz.prog GL 22 tVtNew:=by
 refine k_vtNew2.less fun args regs R h=>Box.out ?_
 unfold tVtNew at h
 split at h
 case h_2=>exact h.elim
 rename_i n m
 exact Box.of_eq (vt_tree n m R) h
end
noncomputable def X_vtLine:Cx:={P:=Tryz.prog,con:=(fun _=>Option.none),glob:=GL,m:=7,loops:=[]}
noncomputable def t_vtLine:Con:=fun args regs=>if regs.length=7 then nfun Tryz.prog GL (fun _=>Option.none) [(1,[0,38,39,40],unroll X_vtLine 1 [0,38,39,40] [] (bodyLoop Tryz.f68 1) 1),(3,[0,54,55,56],unroll X_vtLine 3 [0,54,55,56] [] (bodyLoop Tryz.f68 3) 1)] Tryz.f68 args regs else .fail
theorem k_vtLine:Known Tryz.prog GL 68 t_vtLine:=known_loops 7 Tryz.func68 rfl (by kernel_rfl) mixed con_none (LAll.two (i1:=1) (i2:=3) (b1:=bodyLoop Tryz.f68 1) (b2:=bodyLoop Tryz.f68 3) (by kernel_rfl) rfl (by decide) (unroll_ok (X:=X_vtLine) con_none mixed (LAll.none (by kernel_rfl)) [0,38,39,40] [] 1) (unroll_ok (X:=X_vtLine) con_none mixed (LAll.none (by kernel_rfl)) [0,54,55,56] [] 1))
noncomputable def c_vtDo:FuncId→Option Con:=conOf [(68,t_vtLine)]
theorem kc_vtDo:∀ f T,c_vtDo f=some T→Known Tryz.prog GL f T:=(Knowns.cons k_vtLine .nil).get
noncomputable def t_vtDo:Con:=fun args regs=>nfun Tryz.prog GL c_vtDo [] Tryz.f25 args regs
theorem k_vtDo:Known Tryz.prog GL 25 t_vtDo:=known_inl Tryz.func25 rfl (by kernel_rfl) mixed kc_vtDo (by kernel_rfl)
noncomputable def c_works:FuncId→Option Con:=conOf [(22,tVtNew),(23,tShotZ),(25,t_vtDo),(24,t_is)]
theorem kc_works:∀ f T,c_works f=some T→Known Tryz.prog GL f T:=(Knowns.cons kVtNew (.cons kShotZ (.cons k_vtDo (.cons k_is .nil)))).get
noncomputable def t_works:Con:=fun args regs=>nfun Tryz.prog GL c_works [] Tryz.f5 args regs
theorem k_works:Known Tryz.prog GL 5 t_works:=known_inl Tryz.func5 rfl (by kernel_rfl) mixed kc_works (by kernel_rfl)
def bO (x:Bool):Out:=⟨.v (.c (.b x)),[]⟩
noncomputable def tYes:Con:=fun args regs=>match args,regs with
 | [],[]=>.ret (bO true)
 | _,_=>.fail
theorem works_tree (R:Out→Prop):(t_works [] []).run R=same (rgVt 3 50) (R (bO true)):=by kernel_rfl
section
attribute [local irreducible] t_works
theorem kYes_works:Known Tryz.prog GL 5 tYes:=by
 refine k_works.less fun args regs R h=>Box.out ?_
 unfold tYes at h
 split at h
 case h_2=>exact h.elim
 exact Box.of_eq (works_tree R) (same_in h)
end
end vn
section
namespace ws
open sto (sT sF Ky kyP kyRows ordReg)
open ac (Pg pgZ K3)
open ke (rdyV)
open ti (Tk)
open tw (Tw twSch tLg kLg tSpo kSpo spW)
open Go Go.Nx pk mac bm rv
noncomputable def c_tol:FuncId→Option Con:=conOf [(15,tRpk),(18,tRkey),(30,tTick)]
theorem kc_tol:∀ f T,c_tol f=some T→Known Tryz.prog GL f T:=(Knowns.cons kRpk (.cons kRkey (.cons kTick .nil))).get
noncomputable def t_tol:Con:=fun args regs=>nfun Tryz.prog GL c_tol [] Tryz.f9 args regs
theorem k_tol:Known Tryz.prog GL 9 t_tol:=known_inl Tryz.func9 rfl (by kernel_rfl) mixed kc_tol (by kernel_rfl)
noncomputable def pkA (V:Rv) (bs:List Int) (f:Rv→Prop):Prop:=rdyV V∧(([NV.c (.p 0 0 0),.c (.l .u8 bs)]=[NV.c (.p 0 0 0),.c (.l .u8 bs)]∧V.bk.m.good∧(∀ b∈bs,0≤b∧b<256))∧ke.five (V.bk.packet bs).2 (f (V.bk.packet bs).1))
noncomputable def keyA (V:Rv) (n:Int) (f:Rv→Prop):Prop:=rdyV V∧(([NV.c (.p 0 0 0),.c (.i .i64 n)]=[NV.c (.p 0 0 0),.c (.i .i64 n)]∧V.bk.p.lk.length=6∧V.bk.s.ok∧V.bk.m.good)∧f (V.bk.key n))
noncomputable def tickA (V:Rv) (f:Rv→Prop):Prop:=rdyV V∧(V.bk.m.good∧f V.bk.tick)
noncomputable def eqK (a b c x y z:Int):Bool:=(a==x)&&((b==y)&&(c==z))
noncomputable def tSmG:Con:=fun args regs=>match args,regs with
 | [.ag [.i .i64 a,.i .i64 b,.i .i64 c],.ag [.i .i64 x,.i .i64 y,.i .i64 z]],[]=>.ret (oB (eqK a b c x y z))
 | _,_=>.fail
theorem kSmG:Known Tryz.prog GL 14 tSmG:=by
 refine hd.k_samep.less fun args regs R h=>?_
 unfold tSmG at h
 split at h
 case h_2=>exact h.elim
 rename_i a b c x y z
 have h:R (oB (eqK a b c x y z)):=h
 refine (Box.of_eq (hd.samep_tree a b c x y z R) ?_).out
 unfold eqK at h
 cases h1:a==x with
 | false=>rw [h1] at h; exact h
 | true=>
   rw [h1] at h
   cases h2:b==y with
   | false=>rw [h2] at h; exact h
   | true=>rw [h2] at h; exact h
noncomputable abbrev f_ws:=Tryz.f3
noncomputable def c_nm:FuncId→Option Con:=conOf [(27,num.tNumV)]
theorem kc_nm:∀ f T,c_nm f=some T→Known Tryz.prog GL f T:=(Knowns.cons (known_gl num.kNumV) .nil).get
noncomputable def t_nm:Con:=fun args regs=>nfun Tryz.prog GL c_nm [] Tryz.f7 args regs
theorem k_nm:Known Tryz.prog GL 7 t_nm:=known_inl Tryz.func7 rfl (by kernel_rfl) mixed kc_nm (by kernel_rfl)
noncomputable def c_ws:FuncId→Option Con:=conOf [(5,vn.tYes),(6,tLg),(7,t_nm),(8,tNewV),(10,tSpo),(9,t_tol),(11,sg.tStat),(12,t_tmach),(13,tPgs),(14,tSmG)]
theorem kc_ws:∀ f T,c_ws f=some T→Known Tryz.prog GL f T:=(Knowns.cons vn.kYes_works (.cons kLg (.cons k_nm (.cons kNewV (.cons kSpo (.cons k_tol (.cons sg.kStat (.cons k_tmach (.cons kPgs (.cons kSmG .nil)))))))))).get
noncomputable def X_ws:Cx:={P:=Tryz.prog,con:=c_ws,glob:=GL,m:=0,loops:=[]}
noncomputable def stR (V:Rv) (l:ByteArray):Reg:=⟨10,42,.cells [.i .i64 V.s.mg,.i .i64 V.s.pn,.i .i64 V.s.sb,.b V.fd,.i .i64 V.p.mg,.i .i64 V.p.pn,.i .i64 V.p.sb,.s l,.i .i64 V.m.st.L.length,.i .i64 V.tk]⟩
noncomputable def sIn (n:Int) (l:List Tw) (i:Int) (V:Rv) (ln:ByteArray) (L:List (List Sc)) (th:Bool) (k:Int):St:={fr:=frame 79 [(0,.v (.c (.i .i64 n))),(1,.v (.c (.lt twSch (l.map Tw.fc)))),(5,.v (.c (.p 0 0 0))),(7,.v (.c (.i .i64 i))),(8,.v (.c (.p 5 0 0))),(9,.v (.c (.lr K3 L))),(10,.v (.c (.b th))),(11,.v (.c (.i .i64 k)))],rg:=(inV V).map some++[some (stR V ln)]}
noncomputable def dIn (n:Int) (l:List Tw) (i:Int) (V:Rv) (th:Bool):St:={fr:=frame 79 [(0,.v (.c (.i .i64 n))),(1,.v (.c (.lt twSch (l.map Tw.fc)))),(5,.v (.c (.p 0 0 0))),(7,.v (.c (.i .i64 i))),(10,.v (.c (.b th)))],rg:=(inV V).map some}
noncomputable def rIn (s:St):Tr RO:=roundT X_ws 2 [0,1,5,7,8,9,10,11] [0,1,5,7,10] (bodyLoop f_ws 2) s
noncomputable def kI (L:List (List Sc)) (k:Int) (j:Nat):Int:=(((L.getD k.toNat []).getD j (.i 0))).n
noncomputable def hitB (V:Rv) (L:List (List Sc)) (k:Int):Bool:=eqK (kI L k 0) (kI L k 1) (kI L k 2) V.p.mg V.p.pn V.p.sb
end ws
end
section
namespace ws
open sto (sT sF Ky kyP kyRows ordReg)
open ac (Pg pgZ K3)
open ke (rdyV rdyM)
open ti (Tk)
open tw (Tw twSch tLg kLg tSpo kSpo spW ofTw rwT rwT_eq)
open Go Go.Nx pk mac bm rv
theorem in_tree (n:Int) (l:List Tw) (i:Int) (V:Rv) (ln:ByteArray) (L:List (List Sc)) (th:Bool) (k:Int) (R:RO→Prop):(rIn (sIn n l i V ln L th k)).run R =
 sel (decide (k<(L.length:Int))) (sel th (R (.next (sIn n l i V ln L true (IntKind.i64.wrap (k+1))))) (ixU k L.length (R (.next (sIn n l i V ln L (hitB V L k) (IntKind.i64.wrap (k+1))))))) (R (.done .normal (dIn n l i V th))):=by kernel_rfl
noncomputable def rowHit (V:Rv) (r:List Sc):Bool:=eqK (r.getD 0 (.i 0)).n (r.getD 1 (.i 0)).n (r.getD 2 (.i 0)).n V.p.mg V.p.pn V.p.sb
structure AIn where
 n:Int
 l:List Tw
 i:Int
 V:Rv
 ln:ByteArray
 L:List (List Sc)
 th:Bool
 k:Nat
noncomputable def hIn (x:AIn):St:=sIn x.n x.l x.i x.V x.ln x.L x.th (x.k:Int)
noncomputable def preIn (x:AIn) (R:NExit × St→Prop):Prop:=(x.k≤x.L.length∧x.L.length≤1000000)∧R (.normal,dIn x.n x.l x.i x.V (x.th||(x.L.drop x.k).any (rowHit x.V)))
noncomputable def nxtIn (x:AIn) (R:NExit × St→Prop) (q:RO):Prop:=match q with
 | .next s=>∃ y,s=hIn y∧y.L.length - y.k<x.L.length - x.k∧preIn y R
 | .done e s=>R (e,s)
theorem inn_in (x:AIn) (R:NExit × St→Prop) (h:preIn x R):Box ((rIn (hIn x)).run (nxtIn x R)):=by
 obtain ⟨n,l,i,V,ln,L,th,k⟩:=x
 obtain ⟨⟨h1,h2⟩,hR⟩:=h
 simp only at h1 h2 hR
 have hw:IntKind.i64.wrap ((k:Int)+1)=((k+1:Nat):Int):=by rw [IntKind.wrap_i64]; omega
 have et:((k:Nat):Int).toNat=k:=by simp
 refine Box.of_eq (in_tree n l i V ln L th (k:Int) _) ?_
 by_cases hk:k<L.length
 ·refine sT (decide_eq_true (by omega)) ?_
  rw [hw]
  rw [List.drop_eq_getElem_cons hk,List.any_cons] at hR
  have nx:∀ b:Bool,(b||(L.drop (k+1)).any (rowHit V))=(th||(rowHit V L[k]||(L.drop (k+1)).any (rowHit V)))→nxtIn ⟨n,l,i,V,ln,L,th,k⟩ R (.next (sIn n l i V ln L b ((k+1:Nat):Int))):=fun b e=>
   ⟨⟨n,l,i,V,ln,L,b,k+1⟩,rfl,by simp only; omega,⟨by simp only; omega,h2⟩,by simp only; rw [e]; exact hR⟩
  cases th with
  | true=>exact sT rfl (nx true (by simp))
  | false=>
    refine sF rfl (ixU_in ⟨by omega,by omega⟩ (nx _ ?_))
    have e:hitB V L (k:Int)=rowHit V L[k]:=by
     unfold hitB rowHit kI
     have eg:L.getD k []=L[k]:=by rw [List.getD_eq_getElem?_getD,List.getElem?_eq_getElem hk]; rfl
     rw [et,eg]
    rw [e,Bool.false_or]
 ·refine sF (decide_eq_false (by omega)) ?_
  rw [List.drop_of_length_le (by omega)] at hR
  simp only [List.any_nil,Bool.or_false] at hR
  exact hR
def rdIn (s:St):Option (Int × List Tw × Int × Rv × ByteArray × List (List Sc) × Bool):=match s.fr[(0:Nat)]?,s.fr[(1:Nat)]?,s.fr[(7:Nat)]?,s.fr[(9:Nat)]?,s.fr[(10:Nat)]?,s.rg with
 | some (.v (.c (.i _ n))),some (.v (.c (.lt _ xs))),some (.v (.c (.i _ i))),some (.v (.c (.lr _ L))),some (.v (.c (.b th))),some a::some b::some c::some d::some e::some ⟨_,_,.cells [_,_,_,_,_,_,_,.s ln,_,_]⟩::_=>(match rdRv [a,b,c,d,e] with
   | some V=>some (n,xs.map ofTw,i,V,ln,L,th)
   | none=>none)
 | _,_,_,_,_,_=>none
noncomputable def lIn (s:St):Tr (NExit × St):=match rdIn s with
 | some (n,l,i,V,ln,L,th)=>.must (s=sIn n l i V ln L th 0∧L.length≤1000000) (.ret (.normal,dIn n l i V (th||L.any (rowHit V))))
 | none=>.fail
theorem loop_in:LOk Tryz.prog GL 0 2 (bodyLoop f_ws 2) lIn:=by
 refine loop_ok (X:=X_ws) kc_ws mixed (LAll.none (by kernel_rfl)) [0,1,5,7,8,9,10,11] [0,1,5,7,10] hIn (fun x=>x.L.length - x.k) preIn ?_ ?_
 ·intro s R h
  unfold lIn at h
  split at h
  case h_2=>exact h.elim
  rename_i n l i V ln L th hx
  obtain ⟨⟨hs,hl⟩,hR⟩:=h
  exact ⟨⟨n,l,i,V,ln,L,th,0⟩,hs,⟨Nat.zero_le _,hl⟩,hR⟩
 ·intro x R h
  exact Tr.run_mono _ (fun q hq=>hq) (inn_in x R h).out
noncomputable def X_wo:Cx:={P:=Tryz.prog,con:=c_ws,glob:=GL,m:=0,loops:=[(2,[0,1,5,7,8,9,10,11],lIn)]}
noncomputable def sIn2 (n:Int) (l:List Tw) (i:Int) (V W:Rv) (ln:ByteArray) (L:List (List Sc)) (th:Bool):St:={fr:=frame 79 [(0,.v (.c (.i .i64 n))),(1,.v (.c (.lt twSch (l.map Tw.fc)))),(5,.v (.c (.p 0 0 0))),(7,.v (.c (.i .i64 i))),(8,.v (.c (.p 5 0 0))),(9,.v (.c (.lr K3 L))),(10,.v (.c (.b th))),(11,.v (.c (.i .i64 0)))],rg:=(inV V).map some++[some (stR W ln)]}
noncomputable def sWs (n:Int) (l:List Tw) (V:Rv) (i:Int):St:={fr:=frame 79 [(0,.v (.c (.i .i64 n))),(1,.v (.c (.lt twSch (l.map Tw.fc)))),(5,.v (.c (.p 0 0 0))),(7,.v (.c (.i .i64 i)))],rg:=(inV V).map some}
noncomputable def dWs:St:={fr:=frame 79 [],rg:=[]}
noncomputable def eWs:St:={fr:=frame 79 [(4,.v (.c (.b false)))],rg:=[]}
noncomputable def rWs (s:St):Tr RO:=roundT X_wo 0 [0,1,5,7] [4] (bodyLoop f_ws 0) s
noncomputable def keyL (M:Mc):List (List Sc):=kyRows (M.st.L.map kyP)
noncomputable def pagW (n:Int) (l:List Tw) (i:Int) (U:Rv) (ln:ByteArray) (R:RO→Prop):Prop:=rdyM U.m∧sel (decide (((keyL (mac.bk U.m)).length:Int) > n)) (R (.done .ret eWs))
 ((sIn2 n (l) i U.bk U ln (keyL (mac.bk U.m)) (!U.fd)=sIn n ((l.map Tw.fc).map ofTw) i U.bk.bk ln (keyL (mac.bk U.m)) (!U.fd) 0∧(keyL (mac.bk U.m)).length≤1000000)∧
   sel (!(!U.fd||(keyL (mac.bk U.m)).any (rowHit U))) (R (.done .ret eWs)) (R (.next (sWs n ((l.map Tw.fc).map ofTw) U.bk.bk (IntKind.i64.wrap (i+1))))))
noncomputable def staW (n:Int) (l:List Tw) (i:Int) (U:Rv) (R:RO→Prop):Prop:=rdyV U∧pagW n l i U.bk (sg.lineV U.s) R
noncomputable def rowW (n:Int) (l:List Tw) (V:Rv) (i:Int) (x:Tw) (R:RO→Prop):Prop:=([x.d.nv]=[x.d.nv]∧x.d.W.length≤1000000)∧sel (x.k==1) (pkA V (spW x.d) fun U=>staW n l i U R) (sel (x.k==2) (keyA V x.n fun U=>staW n l i U R) (tickA V fun U=>staW n l i U R))
noncomputable def wsT (n:Int) (l:List Tw) (V:Rv) (i:Int) (R:RO→Prop):Prop:=sel (decide (i<((l.map Tw.fc).length:Int))) (ixU i (l.map Tw.fc).length (ixU i (l.map Tw.fc).length (rowW n l V i (rwT l i) R))) (R (.done .normal dWs))
end ws
end
end Go.Proofs.YtbmpbafemefepaaGreatDoor
