/-
  Joined: WsC, KeE, EngS, WsD.
-/
import Derived.Test.YtbmpbafemefepaaGreatDoorWs6
import Derived.SizedLaws
set_option maxRecDepth 100000
set_option linter.unusedVariables false
namespace Go.Proofs.YtbmpbafemefepaaGreatDoor
section
namespace ws
open sto (sT sF Ky kyP kyRow kyRows ordReg)
open ac (Pg pgZ K3)
open ke (rdyV rdyM fineD byW_in)
open ti (Tk)
open tw (Tw twSch tLg kLg tSpo kSpo spW spW_in ofTw ofTw_map rwT rwT_eq)
open Go Go.Nx pk mac bm rv
theorem ws_tree (n:Int) (l:List Tw) (V:Rv) (i:Int) (R:RO→Prop):(rWs (sWs n l V i)).run R=wsT n l V i R:=by kernel_rfl
def fineT (l:List Tw):Prop:=l.length≤1000∧∀ x∈l,fineD x.d
theorem pkA_in {V:Rv} {bs:List Int} {f:Rv→Prop} (h:Tk V) (hb:∀ b∈bs,0≤b∧b<256) (hf:f (V.packet bs).1):pkA V bs f:=by
 unfold pkA ke.rdyV
 rw [V.bk_eq h.g.far]
 exact ⟨⟨rfl,h.g.ok⟩,⟨rfl,h.g,hb⟩,ke.five_in hf⟩
theorem keyA_in {V:Rv} {n:Int} {f:Rv→Prop} (h:Tk V) (hf:f (V.key n)):keyA V n f:=by
 unfold keyA ke.rdyV
 rw [V.bk_eq h.g.far]
 exact ⟨⟨rfl,h.g.ok⟩,⟨rfl,h.lk,h.s,h.g⟩,hf⟩
theorem tickA_in {V:Rv} {f:Rv→Prop} (h:Tk V) (hf:f V.tick):tickA V f:=by
 unfold tickA ke.rdyV
 rw [V.bk_eq h.g.far]
 exact ⟨⟨rfl,h.g.ok⟩,h.g,hf⟩
theorem keyL_len (M:Mc):(keyL M).length=M.st.L.length:=by unfold keyL; rw [sto.kyRows_length,List.length_map]
theorem hit_any {V:Rv} (h:kyP V.p∈V.m.st.L.map kyP):(keyL V.m).any (rowHit V)=true:=by
 refine List.any_eq_true.2 ⟨kyRow (kyP V.p),?_,?_⟩
 ·unfold keyL kyRows
  exact List.mem_map.2 ⟨_,h,rfl⟩
 ·show eqK V.p.mg V.p.pn V.p.sb V.p.mg V.p.pn V.p.sb=true
  unfold eqK
  rw [beq_self_eq_true,beq_self_eq_true,beq_self_eq_true]
  rfl
theorem in2_eq (n:Int) (l:List Tw) (i:Int) (V:Rv) (ln:ByteArray) (L:List (List Sc)) (th:Bool):sIn2 n l i V V ln L th=sIn n l i V ln L th 0:=by
 unfold sIn2 sIn
 rfl
theorem there_in {n:Int} {U:Rv} (h:Kw n U):(!(!U.fd||(keyL U.m).any (rowHit U)))=false:=by
 cases hf:U.fd with
 | false=>rfl
 | true=>
   rw [hit_any (h.fd hf).2.2]
   rfl
theorem pagW_in {n:Int} {l:List Tw} {i:Int} {U:Rv} {ln:ByteArray} {R:RO→Prop} (h:Kw n U) (nx:R (.next (sWs n l U (IntKind.i64.wrap (i+1))))):pagW n l i U ln R:=by
 have e:=U.bk_eq h.t.g.far
 have em:=mac.bk_eq _ h.t.g.far
 have hl:=h.t.g.len
 have lt:=h.t.g.lt
 have hk:=keyL_len U.m
 have hm:=h.most
 unfold pagW
 rw [em,e,e,ofTw_map]
 refine ⟨⟨by rw [em],by rw [em]; exact h.t.g.ok⟩,sF (decide_eq_false (by omega)) ⟨⟨in2_eq ..,by omega⟩,sF (there_in h) nx⟩⟩
theorem staW_in {n:Int} {l:List Tw} {i:Int} {U:Rv} {R:RO→Prop} (h:Kw n U) (nx:R (.next (sWs n l U (IntKind.i64.wrap (i+1))))):staW n l i U R:=by
 have e:=U.bk_eq h.t.g.far
 unfold staW
 rw [e]
 exact ⟨⟨by rw [e],by rw [e]; exact h.t.g.ok⟩,pagW_in h nx⟩
structure AWs where
 n:Int
 l:List Tw
 V:Rv
 i:Nat
noncomputable def hWs (x:AWs):St:=sWs x.n x.l x.V (x.i:Int)
noncomputable def preWs (x:AWs) (R:NExit × St→Prop):Prop:=x.i≤x.l.length∧fineT x.l∧Kw x.n x.V∧R (.normal,dWs)
noncomputable def nxtWs (x:AWs) (R:NExit × St→Prop) (q:RO):Prop:=match q with
 | .next s=>∃ y,s=hWs y∧y.l.length - y.i<x.l.length - x.i∧preWs y R
 | .done e s=>R (e,s)
theorem wo_in (x:AWs) (R:NExit × St→Prop) (h:preWs x R):Box ((rWs (hWs x)).run (nxtWs x R)):=by
 obtain ⟨n,l,V,i⟩:=x
 obtain ⟨h1,hf,hV,hR⟩:=h
 simp only at h1 hf hV hR
 have hl:=hf.1
 have hw:IntKind.i64.wrap ((i:Int)+1)=((i+1:Nat):Int):=by rw [IntKind.wrap_i64]; omega
 have lm:(l.map Tw.fc).length=l.length:=List.length_map ..
 refine Box.of_eq (ws_tree n l V (i:Int) _) ?_
 unfold wsT
 by_cases hk:i<l.length
 ·have hd:=hf.2 l[i] (List.getElem_mem hk)
  have hb:=spW_in (byW_in l[i].d hd.2)
  have ix:∀ {A:Prop},A→ixU (i:Int) (l.map Tw.fc).length A:=fun h=>ixU_in ⟨by omega,by omega⟩ h
  have nx:∀ U,Kw n U→staW n l (i:Int) U (nxtWs ⟨n,l,V,i⟩ R):=fun U hU=>staW_in hU (by
   rw [hw]
   exact ⟨⟨n,l,U,i+1⟩,rfl,by simp only; omega,by simp only; omega,hf,hU,hR⟩)
  refine sT (decide_eq_true (by omega)) (ix (ix ?_))
  rw [rwT_eq hk]
  refine ⟨⟨rfl,hd.1⟩,?_⟩
  cases h1:l[i].k==1 with
  | true=>exact sT rfl (pkA_in hV.t hb (nx _ (hV.packet hb)))
  | false=>
    refine sF rfl ?_
    cases h2:l[i].k==2 with
    | true=>exact sT rfl (keyA_in hV.t (nx _ (hV.key _)))
    | false=>exact sF rfl (tickA_in hV.t (nx _ hV.tick))
 ·exact sF (decide_eq_false (by omega)) hR
def rdWs (s:St):Option (Int × List Tw × Rv):=match s.fr[(0:Nat)]?,s.fr[(1:Nat)]?,s.rg with
 | some (.v (.c (.i _ n))),some (.v (.c (.lt _ xs))),some a::some b::some c::some d::some e::_=>(match rdRv [a,b,c,d,e] with
   | some V=>some (n,xs.map ofTw,V)
   | none=>none)
 | _,_,_=>none
noncomputable def lWs (s:St):Tr (NExit × St):=match rdWs s with
 | some (n,l,V)=>.must (s=sWs n l V 0∧Kw n V∧fineT l) (.ret (.normal,dWs))
 | none=>.fail
theorem loop_ws:LOk Tryz.prog GL 0 0 (bodyLoop f_ws 0) lWs:=by
 refine loop_ok (X:=X_wo) kc_ws mixed (LAll.one (id:=2) (body:=bodyLoop f_ws 2) (by kernel_rfl) rfl loop_in) [0,1,5,7] [4] hWs (fun x=>x.l.length - x.i) preWs ?_ ?_
 ·intro s R h
  unfold lWs at h
  split at h
  case h_2=>exact h.elim
  rename_i n l V hx
  obtain ⟨⟨hs,hV,hf⟩,hR⟩:=h
  exact ⟨⟨n,l,V,0⟩,hs,Nat.zero_le _,hf,hV,hR⟩
 ·intro x R h
  exact Tr.run_mono _ (fun q hq=>hq) (wo_in x R h).out
noncomputable def t_ws:Con:=fun args regs=>if regs.length=0 then nfun Tryz.prog GL c_ws [(0,[0,1,5,7],lWs)] f_ws args regs else .fail
theorem k_ws:Known Tryz.prog GL 3 t_ws:=known_loops 0 Tryz.func3 rfl (by kernel_rfl) mixed kc_ws (LAll.one (id:=0) (body:=bodyLoop f_ws 0) (by kernel_rfl) rfl loop_ws)
end ws
end
namespace ke
open sto (sT sF Ky Sp kyP kyNC kyRows ordReg)
open ac (Pg pgZ)
open Go Go.Nx pk mac bm rv
open df (B8)
theorem u8_wf {n:Int} (h:(Lit.int .u8 n).wf=true):0≤n∧n<256:=by
 simp only [Lit.wf,Bool.and_eq_true,decide_eq_true_eq] at h
 have h1:IntKind.u8.min=0:=rfl
 have h2:IntKind.u8.max=255:=rfl
 rw [h1,h2] at h
 omega
theorem row_ok {r:List FC} (h:R2 PkOk dvSch r):r=(ofFc r).fc∧∀ b∈(ofFc r).W,B8 b:=by
 unfold dvSch at h
 rcases h with _ | ⟨h1,h⟩
 rcases h with _ | ⟨h2,h⟩
 rcases h with _ | ⟨h3,h⟩
 rcases h with _ | ⟨h4,h⟩
 rcases h with _ | ⟨h5,h⟩
 rcases h with _ | ⟨h6,h⟩
 rcases h with _ | ⟨h7,h⟩
 rcases h with _ | ⟨h8,h⟩
 rcases h with _ | ⟨h9,h⟩
 cases h
 cases h1; cases h2; cases h3; cases h4; cases h5; cases h6; cases h7; cases h9
 cases h8 with
 | l hx _=>
   refine ⟨rfl,fun b hb=>?_⟩
   have:=hx b hb
   exact u8_wf this
end ke
end Go.Proofs.YtbmpbafemefepaaGreatDoor
namespace Go.Nx
open Go Go.RowKit Go.ChangeShapes Go.WideShapes Go.ChangeAt
def SzOk (P:Program) (ts:List TypeId) (xs:List NV):Prop:=∀ (j:Nat) (t e:TypeId) (sch:List Part) (rows:List (List FC)),ts[j]? = some t→P.underlying t=some (.slice e)→xs[j]? = some (.c (.lt sch rows))→rows.length * P.bytesOf e≤reachBytes
section
variable {H:Type} {enc:TypeId × Value→H} {P:Program} {w:World} {base:Nat} {sp:Nat→Bool} {held:Bool}
theorem trodAll_at {Γ:Env}:∀ {ts:List TypeId} {vs:List Value} {ds:List (DataW H)} {ps:List MemPlace} {xs:List NV} {j:Nat} {t:TypeId} {x:NV},DataW.TrodAll enc P w base sp held ts vs ds ps→R2 (VRel Γ) xs vs→ts[j]? = some t→xs[j]? = some x→
  ∃ v d p,ds[j]? = some d∧VRel Γ x v∧DataW.Trod enc P w base sp held t v d p
 | [],_,_,_,_,j,_,_,_,_,ht,_=>by simp at ht
 | t0::ts,vs,ds,ps,xs,j,t,x,h,hr,ht,hx=>by
   obtain ⟨v,vs',d,ds',p,q,rfl,rfl,rfl,h1,h2⟩:=trodAll_cons h
   cases hr with
   | cons r1 r=>
     cases j with
     | zero=>
       cases ht
       cases hx
       exact ⟨v,d,p,rfl,r1,h1⟩
     | succ j=>
       obtain ⟨v',d',p',e1,e2,e3⟩:=trodAll_at (j:=j) h2 r (by simpa using ht) (by simpa using hx)
       exact ⟨v',d',p',by simpa using e1,e2,e3⟩
theorem sized_all {er:Nat→Option Value} {ts vt:List TypeId} {vs:List Value} {ds gs:List (DataW H)} {ps:List MemPlace} {xs:List NV} (h:DataW.TrodAll enc P w base sp held ts vs ds ps) (hr:R2 (VRel (topEnv w er)) xs vs)
  (hz:(DataW.weightsEach P (ts++vt) (ds++gs)).all (·≤reachBytes)=true):SzOk P ts xs:=by
 intro j t e sch rows ht hu hx
 obtain ⟨v,d,p,hd,hv,fuel,hf⟩:=trodAll_at h hr ht hx
 obtain ⟨⟨a,cap,hv,-⟩,-⟩:=hv
 subst hv
 have hf:DataW.trod enc P w base sp held fuel t [.slice a rows.length cap]=some (d,p):=by simpa [Value.cells] using hf
 rcases DataW.trod_slice hu hf with ⟨h1,-⟩ | ⟨a',len,cap',elems,rest,n,-,h1,h2,-,-,-,h3,-⟩
 ·have:rows.length=0:=by simp at h1; rw [h1.2.1]; rfl
  rw [this]
  exact Nat.le_trans (Nat.le_of_eq (Nat.zero_mul _)) (Nat.zero_le _)
 ·simp at h1
  obtain ⟨-,h1,-⟩:=h1
  have hd' : d=.slice (elems.map (·.1)) (rest.map (·.1)):=(Prod.mk.inj h2).1
  subst hd'
  have lt:j<ts.length:=(List.getElem?_eq_some_iff.1 ht).1
  have ld:j<ds.length:=(List.getElem?_eq_some_iff.1 hd).1
  have hs:=sized_slice hz (j:=j) (by rw [List.getElem?_append_left lt]; exact ht) (by rw [List.getElem?_append_left ld]; exact hd) hu
  rw [List.length_map,List.length_map,h3,← h1] at hs
  exact Nat.le_trans (Nat.mul_le_mul_right _ (Nat.le_add_right _ _)) hs
end
theorem Known.contractS {H:Type} {enc:TypeId × Value→H} {P:Program} {gl:List Nat} {f:FuncId} {fn:Func} {T:Con} {spec:ChangeSpec} {shs:List Sh} {tb:TypeId} {vt:List TypeId} (hk:Known P gl f T) (hl:laidOutB P=true)
  (hsh:mapL (shT P) fn.params.toList=some shs) (hread:(fn.params.toList.all fun t=>P.readableRec t&&decide (t<P.types.size))=true) (hvars:spec.vars=[]) (hres:fn.resultTypes=#[tb]) (htb:P.underlying tb=some .bool)
  (hspec:∀ ds:List (DataW H),ds.length=fn.params.toList.length→spec.fn H ds={results:=[.lit (.bool true)],args:=ds})
  (hT:∀ xs,R2 ShOk shs xs→SzOk P fn.params.toList xs→Holds (T xs []) fun o=>o.res=.v (.c (.b true)))
  {W:World} {base:Nat} {args:Array Value} {ds gs:List (DataW H)} {before:List MemPlace} (er:Nat→Option Value) (hG:GlobOk gl (topEnv W er))
  (hval:∀ (j:Nat) t v,fn.params[j]? = some t→args[j]? = some v→Value.okWide P W .any base t v) (hW:DataW.Whole enc P fn.params.toList spec.vars false W args.toList ds gs before)
  (hz:(DataW.weightsEach P (fn.params.toList++vt) (ds++gs)).all (·≤reachBytes)=true) :
  Calls P f args W fun e W'=>∃ v,e=.returned v∧spec.post enc P fn false true false false W args v W':=by
 have hW':=hW
 obtain ⟨p,q,hA,hV,rfl,hfz,hnd⟩:=hW
 rw [hvars] at hV
 obtain ⟨rfl,rfl⟩:=trodVars_none hV
 obtain ⟨xs,hr,ho⟩:=open_all er hsh (fun j t v ht hv=>hval j t v (by simpa using ht) (by simpa using hv)) hA
 have e:=hspec ds (trodAll_length hA)
 have hcalls:=hk.lawB (w:=W) er hG hr (hT xs ho (sized_all hA hr hz))
 have ea:args.toList.toArray=args:=by simp
 rw [ea] at hcalls
 refine hcalls.mono fun e' W' ⟨he,bel⟩=>?_
 subst he
 refine ⟨_,rfl,ds,[],_,[],p,[],hW',?_,?_,?_,bel.frame _,fun h=>by cases h⟩
 ·rw [List.append_nil,e,hres]
  exact trodAll_mk1 (shut_bool htb true)
 ·rw [List.append_nil,e]
  exact stays_all hl bel hread hA
 ·rw [List.append_nil,e,hvars]
  rfl
end Go.Nx
namespace Go.Proofs.YtbmpbafemefepaaGreatDoor
section
namespace ws
open sto (sT sF)
open ke (fineD lightV oBl)
open tw (Tw twSch ofTw ofTw_map)
open df (B8)
open Go Go.Nx pk mac bm rv
noncomputable def mst (n:Int):Int:=IntKind.i64.wrap (n % 6+1)
noncomputable def newA (m:Int) (no yes:Prop):Prop:=[NV.c (.i .i64 m)]=[NV.c (.i .i64 m)]∧sel (decide (m<1)) no (sel (decide (m > 800)) no yes)
noncomputable def lawW (n:Int) (l l' : List Tw) (R:Out→Prop):Prop:=([NV.c (.lt twSch (l.map Tw.fc)),.c (.i .i64 80)]=[NV.c (.lt twSch (l'.map Tw.fc)),.c (.i .i64 80)]∧(80:Int)≤1000∧l'.length≤925904528626)∧sel (lightV (l'.map Tw.d) 80)
 (nmA 6∧newA (mst n) (R (oBl false)) ((sWs (mst n) l (rvN (mst n)) 0=sWs (mst n) l' (rvN (mst n)).bk 0∧Kw (mst n) (rvN (mst n)).bk∧fineT l')∧R (oBl true))) (R (oBl true))
theorem law_tree (n:Int) (l:List Tw) (R:Out→Prop):(t_ws [.c (.i .i64 n),.c (.lt twSch (l.map Tw.fc))] []).run R=lawW n l ((l.map Tw.fc).map ofTw) R:=by kernel_rfl
theorem light80 {l:List Tw} (h:lightV (l.map Tw.d) 80=true):l.length≤80∧∀ x∈l,x.d.W.length≤60:=by
 unfold lightV at h
 rw [Bool.and_eq_true,Bool.not_eq_true',decide_eq_false_iff_not,List.all_eq_true,List.length_map] at h
 refine ⟨by omega,fun x hx=>?_⟩
 have:=h.2 x.d (List.mem_map.2 ⟨x,hx,rfl⟩)
 unfold ke.smallD at this
 rw [Bool.and_eq_true,Bool.and_eq_true,Bool.and_eq_true,Bool.not_eq_true',decide_eq_false_iff_not,Bool.not_eq_true',decide_eq_false_iff_not,Bool.not_eq_true',decide_eq_false_iff_not] at this
 omega
theorem lawW_in (n:Int) (l:List Tw) (R:Out→Prop) (hW:∀ x∈l,∀ b∈x.d.W,B8 b) (hL:l.length≤925904528626) (hR:R (oBl true)):lawW n l ((l.map Tw.fc).map ofTw) R:=by
 unfold lawW
 rw [ofTw_map]
 refine ⟨⟨rfl,by decide,hL⟩,?_⟩
 cases hl:lightV (l.map Tw.d) 80 with
 | false=>exact sF rfl hR
 | true=>
   obtain ⟨h1,h2⟩:=light80 hl
   have hm:mst n=n % 6+1:=by
    unfold mst
    rw [IntKind.wrap_i64]
    omega
   have m1:1≤mst n:=by omega
   have m8:mst n≤800:=by omega
   have hT:=kw_new m1 m8
   have hf:∀ x∈l,fineD x.d:=fun x hx=>⟨by have:=h2 x hx; omega,hW x hx⟩
   rw [(rvN (mst n)).bk_eq hT.t.g.far]
   exact sT rfl ⟨⟨by decide,by decide⟩,rfl,sF (decide_eq_false (by omega)) (sF (decide_eq_false (by omega)) ⟨⟨rfl,hT,by omega,hf⟩,hR⟩)⟩
attribute [local irreducible] t_ws in
theorem ws_yes (n:Int) (l:List Tw) (hW:∀ x∈l,∀ b∈x.d.W,B8 b) (hL:l.length≤925904528626):Holds (t_ws [.c (.i .i64 n),.c (.lt twSch (l.map Tw.fc))] []) fun q=>q.res=.v (.c (.b true)):=⟨Box.out (Box.of_eq (law_tree n l _) (lawW_in n l _ hW hL rfl))⟩
def shsWs:List Sh:=[.i .i64,.tab twSch]
theorem rowT {r:List FC} (h:R2 PkOk twSch r):r=(ofTw r).fc∧∀ b∈(ofTw r).d.W,B8 b:=by
 unfold twSch at h
 rcases h with _ | ⟨h1,h⟩
 rcases h with _ | ⟨h2,h⟩
 obtain ⟨e,hb⟩:=ke.row_ok h
 cases h1
 cases h2
 exact ⟨congrArg (fun z=>FC.i _::FC.i _::z) e,hb⟩
theorem bytes_do:152≤Tryz.prog.bytesOf 37:=Nat.le_of_ble_eq_true (by kernel_rfl)
theorem ws_law (xs:List NV) (h:R2 ShOk shsWs xs) (hz:SzOk Tryz.prog f_ws.params.toList xs):Holds (t_ws xs []) fun o=>o.res=.v (.c (.b true)):=by
 cases h with
 | cons h1 h=>
   cases h with
   | cons h2 h=>
     cases h
     cases h1 with
     | @i _ n _=>
       cases h2 with
       | @tab _ xs hr hl=>
         have hs:=hz 1 22 37 twSch xs (by kernel_rfl) Tryz.underlying22 rfl
         have hb:=Nat.mul_le_mul_left xs.length bytes_do
         have hlen:xs.length≤925904528626:=by unfold reachBytes at hs; omega
         have e:xs=(xs.map ofTw).map Tw.fc:=by
          rw [List.map_map]
          have:∀ r∈xs,(Tw.fc ∘ ofTw) r=r:=fun r hr'=>(rowT (hr r hr')).1.symm
          exact ((List.map_congr_left this).trans (List.map_id xs)).symm
         rw [e]
         refine ws_yes n (xs.map ofTw) (fun x hx=>?_) (by rw [List.length_map]; exact hlen)
         obtain ⟨r,hr',rfl⟩:=List.mem_map.1 hx
         exact (rowT (hr r hr')).2
end ws
end
end Go.Proofs.YtbmpbafemefepaaGreatDoor
