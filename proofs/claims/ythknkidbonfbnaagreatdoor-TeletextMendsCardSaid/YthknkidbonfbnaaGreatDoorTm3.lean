/-
  Joined: EngBb.
-/
import Derived.Test.YthknkidbonfbnaaGreatDoorTm2
import Derived.Orders
import Derived.RangeFuncNested
import Derived.Deep.LoopGhost
set_option linter.unusedVariables false
open Array renaming ext'->ayL,getD_eq_getD_getElem?->ayZ,getElem?_eq_getElem->ayY,getElem?_toList->ayM,replicate->ay0
open Bool renaming and_eq_true->ayu,false_or->ayR,not_true->ayV,or_eq_true->ayq,or_self->ayW,or_true->ayX
open List renaming all_eq_true->ayU,drop_zero->axZ,flatMap_append->ayP,flatMap_cons->axA,flatMap_map->ayQ,getD_eq_getElem?_getD->axF,getElem?_append_left->ax6,getElem?_eq_none->axD,getElem?_set_ne->ayS,length_append->axG,map_congr_left->ayO,mem_append->ayC,mem_cons_of_mem->ayT,mem_flatMap->ayK,mem_singleton->ayx,range->axy,replicate->axx,size_toArray->ayJ
open Nat renaming le_refl->axB,min->ayI,mul_le_mul_right->ax'
open Option renaming bind_some->ayN
namespace Go.Nx
open Go
def Df (N:Nat) (Γ:Env) (ds:List Deferred):Prop:=
 ∃ l:List Nat,ds=l.map (fun D=>{target:=.collected D,args:=#[]})∧l.Nodup∧∀ D∈l,N<=D∧Γ.kp D=some (.deferred (some []))
theorem Df.mono {N:Nat} {Γ Γ' : Env} {ds:List Deferred} (h:Df N Γ ds) (hle:Γ.le Γ'):Df N Γ' ds:=by
 obtain ⟨l,h1,h2,h3⟩:=h
 exact ⟨l,h1,h2,fun D hD=>⟨(h3 D hD).1,hle.kp _ _ (h3 D hD).2⟩⟩
theorem Df.nil (N:Nat) (Γ:Env):Df N Γ []:=⟨[],rfl,.nil,fun D h=>by cases h⟩
structure Inv (gl:List Nat) (N:Nat) (Γ:Env) (s:St) (a:Act) (w:World):Prop where
 wr:aQ Γ s.rg w
 fr:cO Γ s.fr a.tmps
 gl:GlobOk gl Γ
 nw:∀ n,s.rg.length<=n->Γ.μ n=none
 df:Df N Γ a.defers
theorem cO.put {Γ:Env} {s:St} {a:Act} (h:cO Γ s.fr a.tmps) (dst:Option Tmp) {x:NS} {v:Value} (r:b5 Γ x v):cO Γ (s.put dst x).fr (a.put dst v).tmps:=by
 cases dst with
 | none=>exact h
 | some d=>
   show R2 (b5 Γ) (s.fr.set d x) (a.tmps.setIfInBounds d v).toList
   rw [Array.toList_setIfInBounds]
   exact R2.set h d r
theorem iH (s:St) (dst:Option Tmp) (x:NS):(s.put dst x).rg=s.rg:=by cases dst <;> rfl
theorem put_defers (a:Act) (dst:Option Tmp) (v:Value):(a.put dst v).defers=a.defers:=by cases dst <;> rfl
theorem pT {Γ:Env}:∀ {l:List NS} {xs:List NV} {vs:List Value},ku l=some xs->R2 (b5 Γ) l vs->R2 (cM Γ) xs vs
 | [],xs,vs,h,r=>by simp [ku] at h; subst h; cases r; exact .nil
 | x::l,xs,vs,h,r=>by
   simp only [ku] at h
   split at h
   ·rename_i a b h1 h2
    cases h
    cases r with
    | cons r1 r2=>exact .cons (iE r1 h1) (pT h2 r2)
   ·cases h
theorem R1.Pn {Γ:Env} {s:St} {w:World} {P:Program} {o:Oper} {a:Act} {r:R1} {nm:Nat} {R:fQ->Prop} (hw:aQ Γ s.rg w) (fH:Γ.μ nm=none) (ho:ROk Γ s w ((execOp a.eval o).run P w) r) (h:(r.OV nm).run R) {K:Act->World->Prop} {Q:Exit->Act->World->Prop}
  (hK:∀ x u w',R x->bp Γ s w nm x u w'->K (a.put o.dst u) w'):o.wp P a w K Q:=by
 cases r with
 | no=>exact h.elim
 | val c v=>
   obtain ⟨hc,hR⟩:=(bC _ _ _).1 h
   obtain ⟨u,h1,h2⟩:=ho hc
   unfold Oper.wp
   rw [h1,Oper.upon_value]
   exact hK _ u w hR (bp.plain hw h2)
 | new c g v=>
   obtain ⟨hc,hR⟩:=(bC _ _ _).1 h
   obtain ⟨u,cs,h1,h2,h3⟩:=ho hc
   unfold Oper.wp
   rw [h1,Oper.upon_value]
   exact hK _ u _ hR ⟨_,Ext.add fH (fun _=>.inl (axB _)),h3 nm fH,hw.new fH h2,Wd.alloc _ _ _,hJ (mV (g:=some g) (by simp))⟩
 | pH c n g=>
   obtain ⟨hc,hR⟩:=(bC _ _ _).1 h
   obtain ⟨w',h1,h2,h3⟩:=ho hc
   unfold Oper.wp
   rw [h1,Oper.upon_skip]
   exact hK _ undef _ hR ⟨Γ,Ext.refl Γ w,trivial,h2,h3,fun _ h _=>h⟩
theorem bp.freeze {Γ:Env} {s:St} {w:World} {nm r:Nat} {g:aG} {B:cR} {k:IntKind} {xs:List Int} {cs:Array Value} (hw:aQ Γ s.rg w) (hg:s.rg[r]? = some (some g)) (hB:Γ.wh r=some B) (hcs:w.heap[B.ax]? = some (.cells cs g.e (0,0)))
  (hv:∀ (j:Nat) (u:Value),(xs.map (Value.int k))[j]? = some u->cs[j]? = some u):bp Γ s w nm {up:=[(r,none)],v:=.v (.c (.l k xs))} (.slice (some ⟨B.ax,0,none⟩) xs.length xs.length) w:=by
 have jv:live s.rg r:=⟨g,hg⟩
 have hBp:=Env.gY hB
 have Po:Γ.kp B.ax=none:=hw.apart r B jv hBp
 have kb:∀ m g',(s.fR [(r,none)]).rg[m]? = some (some g')->m≠r∧s.rg[m]? = some (some g'):=by
  intro m g' hm
  simp only [St.fR,St.cn] at hm
  rcases (bn _ _ _ _ _).1 hm with ⟨_,h2⟩ | ⟨h1,h2⟩
  ·cases h2
  ·exact ⟨h1,h2⟩
 have tY:∀ m Bm,m≠r->live s.rg m->Γ.pt m=some Bm->Bm.ax≠B.ax:=fun m Bm b9 hl hm=>hw.inj m r Bm B b9 hl jv hm hBp
 let Γ' : Env:={Γ with kp:=fun b=>if b=B.ax then some (.cells cs g.e (0,0)) else Γ.kp b,ro:=fun b=>if b=B.ax then true else Γ.ro b}
 have hle:Γ.le Γ':=⟨fun _ _ h=>h,fun b o h=>by
  show (if b=B.ax then _ else Γ.kp b)=some o
  by_cases hb:b=B.ax
  ·rw [hb,Po] at h; cases h
  ·rw [if_neg hb]; exact h,fun b h=>by
  show (if b=B.ax then true else Γ.ro b)=true
  by_cases hb:b=B.ax
  ·rw [if_pos hb]
  ·rw [if_neg hb]; exact h,rfl⟩
 refine ⟨Γ',⟨hle,fun b h=>?_,fun n B h=>.inr ⟨n,B,h,rfl⟩⟩,⟨⟨some ⟨B.ax,0,none⟩,xs.length,rfl,axB _,.inr ⟨B.ax,0,rfl,?_,cs,g.e,(0,0),?_,fun j u hj=>by rw [Nat.zero_add]; exact hv j u hj⟩⟩,rfl⟩,⟨fun m g' hm=>?_,fun a b Ba Bb b9 la lb ea eb=>?_,fun b o h=>?_,fun m Bm hm eB=>?_,fun b h=>?_⟩,Wd.refl w,fun n h _=>h⟩
 ·have h:(if b=B.ax then true else Γ.ro b)=true:=h
  by_cases hb:b=B.ax
  ·exact .inr (.inr ⟨r,B,hBp,hb.symm⟩)
  ·rw [if_neg hb] at h; exact .inl h
 ·show (if B.ax=B.ax then true else Γ.ro B.ax)=true
  rw [if_pos rfl]
 ·show (if B.ax=B.ax then some _ else Γ.kp B.ax)=_
  rw [if_pos rfl]
 ·obtain ⟨b9,hm⟩:=kb m g' hm
  obtain ⟨Bm,hBm,hr⟩:=hw.live m g' hm
  exact ⟨Bm,hBm,hr.mono hle⟩
 ·obtain ⟨ga,IF⟩:=la
  obtain ⟨gb,SG⟩:=lb
  exact hw.inj a b Ba Bb b9 ⟨ga,(kb a ga IF).2⟩ ⟨gb,(kb b gb SG).2⟩ ea eb
 ·have h:(if b=B.ax then some (Obj.cells cs g.e (0,0)) else Γ.kp b)=some o:=h
  by_cases hb:b=B.ax
  ·rw [if_pos hb] at h
   cases h
   rw [hb]; exact hcs
  ·rw [if_neg hb] at h; exact hw.kp b o h
 ·obtain ⟨g',hm⟩:=hm
  obtain ⟨b9,hm⟩:=kb m g' hm
  show (if Bm.ax=B.ax then some _ else Γ.kp Bm.ax)=none
  rw [if_neg (tY m Bm b9 ⟨g',hm⟩ eB)]
  exact hw.apart m Bm ⟨g',hm⟩ eB
 ·have h:(if b=B.ax then true else Γ.ro b)=true:=h
  show ∃ o,(if b=B.ax then some (Obj.cells cs g.e (0,0)) else Γ.kp b)=some o
  by_cases hb:b=B.ax
  ·exact ⟨_,by rw [if_pos hb]⟩
  ·rw [if_neg hb] at h ⊢; exact hw.ro b h
theorem bp.abr {Γ:Env} {s:St} {w w' : World} {nm r:Nat} {g:aG} {B:cR} {k:IntKind} {xs:List Int} {cs:Array Value} {fz:Nat × Nat} {cap:Nat} (hw:aQ Γ s.rg w) (hg:s.rg[r]? = some (some g)) (hB:Γ.wh r=some B) (hcs:w'.heap[B.ax]? = some (.cells cs g.e fz))
  (xX:∀ b,b≠B.ax->w'.heap[b]? = w.heap[b]?) (Fb:Wd w w') (dh:xs.length<=cap)
  (hv:∀ (j:Nat) (u:Value),(xs.map (Value.int k))[j]? = some u->cs[j]? = some u):bp Γ s w nm {up:=[(r,none)],v:=.v (.c (.l k xs))} (.slice (some ⟨B.ax,0,none⟩) xs.length cap) w':=by
 have jv:live s.rg r:=⟨g,hg⟩
 have hBp:=Env.gY hB
 have Po:Γ.kp B.ax=none:=hw.apart r B jv hBp
 have kb:∀ m g',(s.fR [(r,none)]).rg[m]? = some (some g')->m≠r∧s.rg[m]? = some (some g'):=by
  intro m g' hm
  simp only [St.fR,St.cn] at hm
  rcases (bn _ _ _ _ _).1 hm with ⟨_,h2⟩ | ⟨h1,h2⟩
  ·cases h2
  ·exact ⟨h1,h2⟩
 have tY:∀ m Bm,m≠r->live s.rg m->Γ.pt m=some Bm->Bm.ax≠B.ax:=fun m Bm b9 hl hm=>hw.inj m r Bm B b9 hl jv hm hBp
 let Γ' : Env:={Γ with kp:=fun b=>if b=B.ax then some (.cells cs g.e fz) else Γ.kp b,ro:=fun b=>if b=B.ax then true else Γ.ro b}
 have hle:Γ.le Γ':=⟨fun _ _ h=>h,fun b o h=>by
  show (if b=B.ax then _ else Γ.kp b)=some o
  by_cases hb:b=B.ax
  ·rw [hb,Po] at h; cases h
  ·rw [if_neg hb]; exact h,fun b h=>by
  show (if b=B.ax then true else Γ.ro b)=true
  by_cases hb:b=B.ax
  ·rw [if_pos hb]
  ·rw [if_neg hb]; exact h,rfl⟩
 refine ⟨Γ',⟨hle,fun b h=>?_,fun n B h=>.inr ⟨n,B,h,rfl⟩⟩,⟨⟨some ⟨B.ax,0,none⟩,cap,rfl,dh,.inr ⟨B.ax,0,rfl,?_,cs,g.e,fz,?_,fun j u hj=>by rw [Nat.zero_add]; exact hv j u hj⟩⟩,rfl⟩,⟨fun m g' hm=>?_,fun a b Ba Bb b9 la lb ea eb=>?_,fun b o h=>?_,fun m Bm hm eB=>?_,fun b h=>?_⟩,Fb,fun n h _=>h⟩
 ·have h:(if b=B.ax then true else Γ.ro b)=true:=h
  by_cases hb:b=B.ax
  ·exact .inr (.inr ⟨r,B,hBp,hb.symm⟩)
  ·rw [if_neg hb] at h; exact .inl h
 ·show (if B.ax=B.ax then true else Γ.ro B.ax)=true
  rw [if_pos rfl]
 ·show (if B.ax=B.ax then some _ else Γ.kp B.ax)=_
  rw [if_pos rfl]
 ·obtain ⟨b9,hm⟩:=kb m g' hm
  obtain ⟨Bm,hBm,hr⟩:=hw.live m g' hm
  refine ⟨Bm,hBm,?_⟩
  have hr:=hr.mono hle
  rcases hr with h | ⟨Ad,c,h⟩ | ⟨Ad,h⟩
  ·exact .inl h
  ·have hs:=xX Bm.ax (tY m Bm b9 ⟨g',hm⟩ (Env.bt.2 ⟨hBm,Ad⟩))
   exact .inr (.inl ⟨Ad,c,⟨by rw [hs]; exact h.heap,h.st,h.sz,h.body,h.part⟩⟩)
  ·have hs:=xX Bm.ax (tY m Bm b9 ⟨g',hm⟩ (Env.bt.2 ⟨hBm,Ad⟩))
   obtain ⟨⟨ks,sch,ys,es,ck,h1,h2,h3⟩,hp,fv⟩:=h
   exact .inr (.inr ⟨Ad,⟨⟨ks,sch,ys,es,ck,h1,by rw [hs]; exact h2,h3⟩,hp,fv⟩⟩)
 ·obtain ⟨ga,IF⟩:=la
  obtain ⟨gb,SG⟩:=lb
  exact hw.inj a b Ba Bb b9 ⟨ga,(kb a ga IF).2⟩ ⟨gb,(kb b gb SG).2⟩ ea eb
 ·have h:(if b=B.ax then some (Obj.cells cs g.e fz) else Γ.kp b)=some o:=h
  by_cases hb:b=B.ax
  ·rw [if_pos hb] at h
   cases h
   rw [hb]; exact hcs
  ·rw [if_neg hb] at h; rw [xX b hb]; exact hw.kp b o h
 ·obtain ⟨g',hm⟩:=hm
  obtain ⟨b9,hm⟩:=kb m g' hm
  show (if Bm.ax=B.ax then some _ else Γ.kp Bm.ax)=none
  rw [if_neg (tY m Bm b9 ⟨g',hm⟩ eB)]
  exact hw.apart m Bm ⟨g',hm⟩ eB
 ·have h:(if b=B.ax then true else Γ.ro b)=true:=h
  show ∃ o,(if b=B.ax then some (Obj.cells cs g.e fz) else Γ.kp b)=some o
  by_cases hb:b=B.ax
  ·exact ⟨_,by rw [if_pos hb]⟩
  ·rw [if_neg hb] at h ⊢; exact hw.ro b h
theorem v8 {P:Program} {w:World} {t e e2:TypeId} {b o n c:Nat} {cs:Array Value} (ht:P.underlying t=some (.slice e)) (he:P.underlying e=some (.int .u8)) (hc:w.heap[b]? = some (.cells cs e2 (0,0))) :
  ∃ w',(convert t t (.slice (some ⟨b,o,none⟩) n c)).run P w=.ok (.slice (some ⟨b,o,none⟩) n c) w'∧w'.heap[b]? = some (.cells cs e2 (cs.size,cs.size+1))∧(∀ k,k≠b->w'.heap[k]? = w.heap[k]?)∧Wd w w':=by
 have pU:w.shape? b=some (e2,cs.size):=by unfold World.shape?; rw [hc]
 refine ⟨w.freeze ⟨b,cs.size,none⟩ 1,?_,?_,?_,?_⟩
 ·simp [convert,run_underlying ht,run_underlying he,markStringish,pU]
 ·unfold World.freeze
  rw [if_neg (by decide)]
  show (w.heap.modify b _)[b]? = _
  rw [Array.getElem?_modify,if_pos rfl,hc]
  rfl
 ·intro k hk
  unfold World.freeze
  rw [if_neg (by decide)]
  show (w.heap.modify b _)[k]? = _
  rw [Array.getElem?_modify,if_neg (fun h=>hk h.symm)]
 ·unfold World.freeze
  rw [if_neg (by decide)]
  exact ⟨rfl,rfl,rfl,by show w.heap.size<=(w.heap.modify b _).size; rw [Array.size_modify]; exact axB _⟩
theorem CL {P:Program} {s:St} {Γ:Env} {a:Act} {op:BinOp} {t:TypeId} {x y:Operand} {e d:Bool} (dr:cO Γ s.fr a.tmps) (h:tS P s op t x y=some (e,d)) :
  ∃ A n c st,a.eval x=.slice A n c∧a.eval y=.slice none 0 0∧P.underlying t=some (.slice st)∧(op=.eql∧d=false∨op=.neq∧d=true)∧(e=false->A.isSome=true):=by
 unfold tS at h
 split at h
 case h_4=>cases h
 all_goals
  rename_i kk xs st hx hy hu
  have rx:=cD (aS dr x) hx
  have ry:=cD (aS dr y) hy
  obtain ⟨ry,-⟩:=ry
 ·obtain ⟨⟨A,cap,h1,-,h2⟩,-⟩:=rx
  have hA:xs.isEmpty=false->A.isSome=true:=by
   intro he
   rcases h2 with rfl | ⟨ax,off,rfl,-⟩
   ·cases he
   ·rfl
  split at h
  ·cases h; exact ⟨A,_,cap,st,h1,ry,hu,.inl ⟨rfl,rfl⟩,hA⟩
  ·cases h; exact ⟨A,_,cap,st,h1,ry,hu,.inr ⟨rfl,rfl⟩,hA⟩
  ·cases h
 ·obtain ⟨⟨A,cap,h1,-,-,h2⟩,-⟩:=rx
  have hA:xs.isEmpty=false->A.isSome=true:=by
   intro he
   rcases h2 with rfl | ⟨ax,off,rfl,-⟩
   ·cases he
   ·rfl
  split at h
  ·cases h; exact ⟨A,_,cap,st,h1,ry,hu,.inl ⟨rfl,rfl⟩,hA⟩
  ·cases h; exact ⟨A,_,cap,st,h1,ry,hu,.inr ⟨rfl,rfl⟩,hA⟩
  ·cases h
 ·obtain ⟨⟨hn,h1,-⟩ | ⟨B,o,cap,-,h1,-⟩,-⟩:=rx
  ·have hA:(xs==0)=false->(none:Option Addr).isSome=true:=fun he=>by rw [hn] at he; cases he
   split at h
   ·cases h; exact ⟨none,0,0,st,h1,ry,hu,.inl ⟨rfl,rfl⟩,hA⟩
   ·cases h; exact ⟨none,0,0,st,h1,ry,hu,.inr ⟨rfl,rfl⟩,hA⟩
   ·cases h
  ·split at h
   ·cases h; exact ⟨_,_,cap,st,h1,ry,hu,.inl ⟨rfl,rfl⟩,fun _=>rfl⟩
   ·cases h; exact ⟨_,_,cap,st,h1,ry,hu,.inr ⟨rfl,rfl⟩,fun _=>rfl⟩
   ·cases h
theorem sx (ks:List CK) (xs ys:List (List Sc)):aL ks (xs++ys)=aL ks xs++aL ks ys:=by simp [aL]
theorem sA (ks:List CK) (xs ys:List (List Sc)) (o:Nat):aL ks (aw xs o ys)=aw (aL ks xs) (o * ks.length) (aL ks ys):=by
 unfold aw
 rw [sx,sx,<- eF,bB,<- Nat.add_mul,gu]
theorem IT {b:Body} {x:cK} (h:R9 b=some x):b=x.body:=by
 cases b <;> simp only [R9,reduceCtorEq,Option.some.injEq] at h <;> subst h <;> rfl
theorem cK.S6 {x y z:cK} {o n:Nat} (h:x.qk o n y=some z):z.bF=aw x.bF (o * x.w) (y.bF.take (n * x.w))∧z.w=x.w∧y.w=x.w:=by
 cases x <;> cases y <;> simp only [cK.qk,reduceCtorEq] at h
 ·split at h
  ·rename_i e; cases h; subst e
   refine ⟨?_,rfl,rfl⟩
   simp [cK.bF,cK.w,aw,List.map_append,List.map_take,List.map_drop]
  ·cases h
 ·split at h
  ·rename_i e; cases h
   obtain ⟨rfl,-⟩:=e
   refine ⟨?_,rfl,rfl⟩
   simp only [cK.bF,cK.w]
   rw [sA,eF]
  ·cases h
theorem cK.S7 {Γ:Env} {x y z:cK} {o n st:Nat} (h:x.qk o n y=some z) {l:List Value} (hb:bG Γ st x.body l):st=x.w∧0<x.w∧(∃ l2,l=x.bF++l2)∧∀ l2,bG Γ st z.body (z.bF++l2):=by
 cases x <;> cases y <;> simp only [cK.qk,reduceCtorEq] at h
 ·split at h
  ·cases h
   obtain ⟨h1,l2,h2⟩:=hb
   exact ⟨h1,Nat.one_pos,⟨l2,h2⟩,fun l2=>⟨h1,l2,rfl⟩⟩
  ·cases h
 ·split at h
  ·cases h
   obtain ⟨h1,h0,l2,h2⟩:=hb
   exact ⟨h1,h0,⟨l2,h2⟩,fun l2=>⟨h1,h0,l2,rfl⟩⟩
  ·cases h
theorem cK.S8 (x:cK):x.body.len=none:=by cases x <;> rfl
theorem CM {P:Program} {s:St} {Γ:Env} {w:World} {t u ty e:TypeId} {r off len:Nat} {y:NC} {vx vy:Value} {nm:Nat} {R:fQ->Prop} (hu:P.underlying t=some (.slice e)) (hw:aQ Γ s.rg w) (hx:CR Γ (.h r off len) vx) (hy:CR Γ y vy) (h:(Cd P s e r off len y).run R) :
  ∃ ef v w',R ef∧(Builtin.copy_ #[t,u] ty #[vx,vy]).run P w=.ok v w'∧bp Γ s w nm ef v w':=by
 unfold Cd at h
 split at h
 case h_2=>exact h.elim
 rename_i g c ys hg Ey
 split at h
 case h_2=>exact h.elim
 rename_i xs jd
 split at h
 case h_2=>exact h.elim
 rename_i zs wN
 split at h
 case isFalse=>exact h.elim
 rename_i cS
 obtain ⟨hcs,hR⟩:=(bC _ _ _).1 h
 obtain ⟨uZ,qt⟩:=jk hcs
 have eS:off+len<=xs.length:=of_decide_eq_true (qt _ (by simp))
 obtain ⟨⟨B,o,cap,hB,rfl,eQ,nV,hor⟩,-⟩:=hx
 obtain ⟨a',sk,rfl,IJ,auA⟩:=iG hw hy Ey uZ
 have gS:=(bS s r g).1 hg
 have Cz:=Env.gY hB
 have Ft:=Env.Sf hB
 have hbx:=IT jd
 obtain ⟨cs,hA⟩:=hw.at Cz gS (by rw [hbx]; cases xs <;> rfl)
 have aH:=hA.body
 rw [hbx] at aH
 obtain ⟨fv,h0,⟨l2,hl⟩,hzb⟩:=cK.S7 wN aH
 obtain ⟨xG,hzw,hyw⟩:=cK.S6 wN
 have EX : B.st=xs.w:=hA.st.trans fv
 rw [Ft,axZ] at hl
 have wM:=xs.fj
 have O1:=ys.fj
 rw [hyw] at O1
 generalize hvs:ys.bF.take (len * xs.w)=bF at xG
 have ID:∀ v∈bF,v.oneCell'=true:=fun v hv=>ys.E9 v (by rw [<- hvs] at hv; exact List.mem_of_mem_take hv)
 have xy:bF.length=(ayI ys.length len) * xs.w:=by
  rw [<- hvs,List.length_take,O1,Nat.min_comm]
  show min (ys.length * xs.w) (len * xs.w)=(min ys.length len) * xs.w
  rw [Nat.mul_min_mul_right]
 have hmul:(off+len) * xs.w<=xs.length * xs.w:=ax' _ eS
 rw [Nat.add_mul] at hmul
 have axn:(ayI ys.length len) * xs.w<=len * xs.w:=ax' _ (Nat.min_le_right _ _)
 have AS:cs.toList.length=xs.bF.length+l2.length:=by rw [hl,axG]
 have qw:off * xs.w+bF.length<=cs.toList.length:=by omega
 have Af:∀ w',(∀ b,b≠B.ax->w'.heap[b]? = w.heap[b]?)->Wd w w'->w'.heap[B.ax]? = some (.cells (aw cs.toList (off * xs.w) bF).toArray B.e (0,0))->
   bp Γ s w nm {up:=[(r,some {g with body:=zs.body})],v:=.v (.c (.i .i64 ((ayI ys.length len:Nat):Int)))} (goInt (ayI ys.length len)) w':=by
  intro w' tY Fb sB
  refine ⟨Γ,Ext.refl Γ w,⟨rfl,rfl⟩,?_,Fb,fun _ h _=>h⟩
  have hgr:cN Γ {g with body:=zs.body} B w':=by
   refine .inr (.inl ⟨(Env.bt.1 Cz).2,_,sB,hA.st,?_,?_,?_⟩)
   ·simp only [ayJ]
    rw [fT _ _ _ qw]
    simpa using hA.sz
   ·simp only
    rw [Ft,axZ]
    have e1:aw cs.toList (off * xs.w) bF=zs.bF++l2:=by rw [hl,ct _ _ _ _ (by omega),xG]
    rw [e1]
    exact hzb l2
   ·have:=hA.part.aw (g':={g with body:=zs.body}) (ys:=bF) (off:=off * xs.w) rfl (fun n hn=>by rw [hbx,cK.S8] at hn; cases hn) (by rw [Ft]; omega)
    rw [Ft,Nat.zero_add] at this
    exact this
  exact hw.change ⟨g,gS⟩ Cz tY hgr
 obtain ⟨ei,jn,-⟩:=aT (P:=P) (t:=e) (by omega)
 have hse:al P e=xs.w:=cS.trans fv
 by_cases hm0:ayI ys.length len=0
 ·refine ⟨_,goInt (ayI ys.length len),w,hR,?_,Af w (fun _ _=>rfl) (Wd.refl w) ?_⟩
  ·cases a' with
   | none=>simp [Builtin.copy_,run_underlying hu,Builtin.lenOf,Builtin.firstCells,run_sizeOf jn,hm0,storeCells]
   | some a=>simp [Builtin.copy_,run_underlying hu,Builtin.lenOf,Builtin.firstCells,run_sizeOf jn,hm0,storeCells,loadCells,loadCellsFrom]
  ·have hv0:bF=[]:=List.eq_nil_of_length_eq_zero (by rw [xy,hm0,Nat.zero_mul])
   have e0:aw cs.toList (off * xs.w) bF=cs.toList:=by rw [hv0]; simp [aw]
   rw [e0,Array.toArray_toList]
   exact hA.heap
 ·have hmn:ayI ys.length len<=ys.length∧ayI ys.length len<=len:=⟨Nat.min_le_left _ _,Nat.min_le_right _ _⟩
  rcases auA with h1 | ⟨ax,ao,rfl,il⟩
  ·omega
  have ho:o=off * B.st:=by
   rcases hor with h | h
   ·exact h.1
   ·omega
  subst ho
  have Fv:=run_loadCells_list (P:=P) w ⟨ax,ao,none⟩ bF (fun j v hj=>by
   rw [Addr.add_lit]
   refine il j v ?_
   rw [<- hvs,List.getElem?_take] at hj
   split at hj
   ·exact hj
   ·cases hj)
  rw [xy] at Fv
  have Fw:=run_storeCells_at P B.ax (off * xs.w) B.e bF 0 cs w hA.heap (by simpa using qw) ID
  simp only [Nat.add_zero] at Fw
  have bE:(Builtin.copy_ #[t,u] ty #[.slice (some ⟨B.ax,off * B.st,none⟩) len cap,.slice (some ⟨ax,ao,none⟩) ys.length sk]).run P w=.ok (goInt (ayI ys.length len)) (w.setRow B.ax (aw cs.toList (off * xs.w) bF).toArray):=by
   simp [Builtin.copy_,run_underlying hu,Builtin.lenOf,Builtin.firstCells,run_sizeOf jn,hse,EX,Fv]
   show ((storeCells ⟨B.ax,off * xs.w,none⟩ bF).run P w).andThen _=_
   rw [Fw]
   rfl
  exact ⟨_,_,_,hR,bE,Af _ (fun b hb=>setRow_other w _ _ _ hb) ⟨rfl,rfl,rfl,by simp⟩ (setRow_heap w _ _ _ _ _ hA.heap)⟩
theorem Fx {P:Program} {s:St} {Γ:Env} {w:World} {t u ty:TypeId} {x y:NC} {vx vy:Value} {nm:Nat} {R:fQ->Prop} (hw:aQ Γ s.rg w) (hx:CR Γ x vx) (hy:CR Γ y vy) (h:(Ax P s t x y).run R) :
  ∃ ef v w',R ef∧(Builtin.copy_ #[t,u] ty #[vx,vy]).run P w=.ok v w'∧bp Γ s w nm ef v w':=by
 unfold Ax at h
 split at h
 case h_3=>exact h.elim
 case h_2=>exact CM (by assumption) hw hx hy h
 rename_i e r o ww a n r' o' Fy a' n' hu
 split at h
 case h_2=>exact h.elim
 rename_i g g' hg rY
 split at h
 case h_2=>exact h.elim
 rename_i l l' hb hH
 split at h
 case isFalse=>exact h.elim
 rename_i kK
 obtain ⟨cS,rfl,h0,hm0⟩:=kK
 split at h
 case h_2=>exact h.elim
 rename_i c1 v hv
 split at h
 case h_2=>exact h.elim
 rename_i c2 l2 hp
 obtain ⟨hcs,hR⟩:=(bC _ _ _).1 h
 obtain ⟨uZ,qt⟩:=jk hcs
 obtain ⟨⟨B,ad,cap,hB,rfl,eQ,nV,eL⟩,-⟩:=hx
 obtain ⟨⟨B',ad',sk,sj,rfl,IJ,axo,aiW⟩,-⟩:=hy
 generalize hm:ayI n' n=m at *
 have hmn:m<=n'∧m<=n:=by rw [<- hm]; exact ⟨Nat.min_le_left _ _,Nat.min_le_right _ _⟩
 have eL:ad=B.o+(o+a * Fy):=by rcases eL with h | h; exact h; omega
 have aiW : ad'=B'.o+(o'+a' * Fy):=by rcases aiW with h | h; exact h; omega
 subst eL aiW
 have gS:=(bS s r g).1 hg
 have auB:=(bS s r' g').1 rY
 obtain ⟨cs,hA⟩:=hw.at hB gS (by rw [hb]; rfl)
 obtain ⟨cs',hA'⟩:=hw.at sj auB (by rw [hH]; rfl)
 have aH:=hA.body
 have IU:=hA'.body
 have aiX : ∀ {k:Nat} {v:Value},(cs'.toList.drop B'.o)[k]? = some v->w.cell? ⟨B'.ax,B'.o+k,none⟩=some v:=hA'.cell
 have hle:=hA.part.le
 rw [hb] at aH
 rw [hH] at IU
 obtain ⟨g1,g2,g3,g4⟩:=(jC IU.lK hv uZ).all rfl
 have fI:=aH.lK
 obtain ⟨p1,p2,p3⟩:=mO fI g3 hp qt
 rw [Nat.add_zero] at g1 p2 p3
 obtain ⟨k1,k2,hl,hr,-⟩:=aH
 obtain ⟨k1',k2',AG,lz,-⟩:=IU
 have LS:R2 (CR Γ) v.cells ((k1'.drop (o'+a' * Fy)).take (m * Fy)):=g1 ▸ (lz.drop _).take _
 generalize hvs:(k1'.drop (o'+a' * Fy)).take (m * Fy)=bF at LS
 have hlen:bF.length=m * Fy:=by rw [<- LS.length]; exact g2
 have auC:v.size=v.cells.length:=by
  rw [<- NV.dU,aZ g3]
  cases v <;> rfl
 have Ez:=hr.length
 have EY:(cs.toList.drop B.o).length=k1.length+k2.length:=by rw [hl]; simp
 have Fv:=run_loadCells_list (P:=P) w ⟨B'.ax,B'.o+(o'+a' * Fy),none⟩ bF (fun j u hj=>by
  rw [Addr.add_lit,Nat.add_assoc]
  refine aiX ?_
  rw [AG]
  rw [<- hvs] at hj
  exact aV (bU hj))
 rw [hlen] at Fv
 have eS:o+a * Fy+bF.length<=k1.length:=by rw [hlen,<- g2,<- auC,<- Ez]; exact p2
 rw [List.length_drop] at EY
 have qw:B.o+(o+a * Fy)+bF.length<=cs.toList.length:=by omega
 have Fw:=run_storeCells_at P B.ax (B.o+(o+a * Fy)) B.e bF 0 cs w hA.heap (by simpa using qw) LS.sa
 simp only [Nat.add_zero] at Fw
 obtain ⟨ei,jn,-⟩:=aT (P:=P) (t:=e) (by omega)
 have bE:(Builtin.copy_ #[t,u] ty #[.slice (some ⟨B.ax,B.o+(o+a * Fy),none⟩) n cap,.slice (some ⟨B'.ax,B'.o+(o'+a' * Fy),none⟩) n' sk]).run P w=.ok (goInt m) (w.setRow B.ax (aw cs.toList (B.o+(o+a * Fy)) bF).toArray):=by
  simp [Builtin.copy_,run_underlying hu,Builtin.lenOf,Builtin.firstCells,run_sizeOf jn,hm,cS,Fv]
  show ((storeCells ⟨B.ax,B.o+(o+a * Fy),none⟩ bF).run P w).andThen _=_
  rw [Fw]
  rfl
 refine ⟨_,goInt m,_,hR,bE,Γ,Ext.refl Γ w,⟨rfl,rfl⟩,?_,⟨rfl,rfl,rfl,by simp⟩,fun _ h _=>h⟩
 have Sr:=aZ fI
 have hfv:=aZ p1
 have Ss:=congrArg List.length p3
 rw [cY _ _ _ (by omega)] at Ss
 have hgr:cN Γ {g with body:=.sg l2} B (w.setRow B.ax (aw cs.toList (B.o+(o+a * Fy)) bF).toArray):=by
  refine .inr (.inl ⟨(Env.bt.1 hB).2,_,setRow_heap w _ _ _ _ _ hA.heap,hA.st,?_,?_,?_⟩)
  ·simp only [ayJ]
   rw [fT _ _ _ (by simpa using qw)]
   simpa using hA.sz
  ·simp only
   rw [vg _ _ _ _ hle]
   refine ⟨aw k1 (o+a * Fy) bF,k2,?_,?_,p1⟩
   ·rw [hl,ct _ _ _ _ eS]
   ·rw [p3]; exact hr.aw _ LS
  ·refine hA.part.aw rfl (fun n hn=>?_) qw
   rw [hb] at hn
   cases hn
   exact ⟨congrArg some (by omega),by omega⟩
 exact hw.change ⟨g,gS⟩ hB (fun b hb=>setRow_other w _ _ _ hb) hgr
theorem IV (z:Array Value) (q:Nat):(Builtin.zeroCells z q).toList=(axx q z.toList).flatten:=AK z q
theorem CN {P:Program} {s:St} {Γ:Env} {w:World} {t ty:TypeId} {x:NC} {vx:Value} {nm:Nat} {R:fQ->Prop} (hw:aQ Γ s.rg w) (hx:CR Γ x vx) (h:(tR P s t x).run R) :
  ∃ ef w',R ef∧(Builtin.clear_ #[t] ty #[vx]).run P w=.ok (.tuple #[]) w'∧bp Γ s w nm ef (.tuple #[]) w':=by
 unfold tR at h
 split at h
 case h_3=>exact h.elim
 ·rename_i e hu
  obtain ⟨rfl,-⟩:=hx
  exact ⟨_,w,h,by simp [Builtin.clear_,run_underlying hu],.plain hw ⟨[],rfl,.nil⟩⟩
 rename_i e r off len hu
 split at h
 case h_2=>exact h.elim
 rename_i g z hg hz
 split at h
 case h_2=>exact h.elim
 rename_i ks xs hb
 split at h
 case h_2=>exact h.elim
 rename_i row mM
 split at h
 case isFalse=>exact h.elim
 rename_i jc
 obtain ⟨hcs,hR⟩:=(bC _ _ _).1 h
 have eS:off+len<=xs.length:=of_decide_eq_true (hcs _ (by simp))
 obtain ⟨⟨B,o,cap,hB,rfl,eQ,nV,hor⟩,-⟩:=hx
 have gS:=(bS s r g).1 hg
 have Cz:=Env.gY hB
 have Ft:=Env.Sf hB
 obtain ⟨cs,hA⟩:=hw.at Cz gS (by rw [hb]; rfl)
 have aH:=hA.body
 rw [hb] at aH
 obtain ⟨fv,h0,l2,hl⟩:=aH
 have EX : B.st=ks.length:=hA.st.trans fv
 rw [Ft,axZ] at hl
 obtain ⟨i,v,hi,hv,cS,hs⟩:=cr hz
 have hus:=jV (Γ:=Γ) mM (cQ hs)
 have Pb:∀ q,aL ks (axx q row)=(axx q v.cells.toList).flatten:=fun q=>by
  unfold aL
  rw [hus]
  induction q with
  | zero=>rfl
  | succ q ih=>rw [List.replicate_succ,List.replicate_succ,axA,ih,List.flatten_cons]
 have Af:∀ w',(∀ b,b≠B.ax->w'.heap[b]? = w.heap[b]?)->Wd w w'->w'.heap[B.ax]? = some (.cells (aw cs.toList (off * ks.length) (aL ks (axx len row))).toArray B.e (0,0))->
   bp Γ s w nm {up:=[(r,some {g with body:=.aA ks (aw xs off (axx len row))})],v:=.tu []} (.tuple #[]) w':=by
  intro w' tY Fb sB
  refine ⟨Γ,Ext.refl Γ w,⟨[],rfl,.nil⟩,?_,Fb,fun _ h _=>h⟩
  have xy:(aL ks (axx len row)).length=len * ks.length:=by rw [bB,List.length_replicate]
  have wM:=bB ks xs
  have hmul:(off+len) * ks.length<=xs.length * ks.length:=ax' _ eS
  rw [Nat.add_mul] at hmul
  have AS:cs.toList.length=(aL ks xs).length+l2.length:=by rw [hl,axG]
  have qw:off * ks.length+(aL ks (axx len row)).length<=cs.toList.length:=by omega
  have hgr:cN Γ {g with body:=.aA ks (aw xs off (axx len row))} B w':=by
   refine .inr (.inl ⟨(Env.bt.1 Cz).2,_,sB,hA.st,?_,?_,?_⟩)
   ·simp only [ayJ]
    rw [fT _ _ _ qw]
    simpa using hA.sz
   ·simp only
    rw [Ft,axZ]
    refine ⟨fv,h0,l2,?_⟩
    rw [hl,ct _ _ _ _ (by omega),sA]
   ·have:=hA.part.aw (g':={g with body:=.aA ks (aw xs off (axx len row))}) (ys:=aL ks (axx len row)) (off:=off * ks.length) rfl (fun n hn=>by rw [hb] at hn; cases hn) (by rw [Ft]; omega)
    rw [Ft,Nat.zero_add] at this
    exact this
  exact hw.change ⟨g,gS⟩ Cz tY hgr
 cases len with
 | zero=>
   refine ⟨_,w,hR,by simp [Builtin.clear_,run_underlying hu],Af w (fun _ _=>rfl) (Wd.refl w) ?_⟩
   have e:aw cs.toList (off * ks.length) (aL ks (axx 0 row))=cs.toList:=by simp [aw,aL]
   rw [e,Array.toArray_toList]
   exact hA.heap
 | succ n=>
   have ho:o=off * B.st:=by
    rcases hor with h | h
    ·exact h.1
    ·omega
   subst ho
   have xy:(aL ks (axx (n+1) row)).length=(n+1) * ks.length:=by rw [bB,List.length_replicate]
   have wM:=bB ks xs
   have hmul:(off+(n+1)) * ks.length<=xs.length * ks.length:=ax' _ eS
   rw [Nat.add_mul] at hmul
   have AS:cs.toList.length=(aL ks xs).length+l2.length:=by rw [hl,axG]
   have qw:off * ks.length+(aL ks (axx (n+1) row)).length<=cs.size:=by
    have:cs.toList.length=cs.size:=by simp
    omega
   have ID:∀ u∈aL ks (axx (n+1) row),u.oneCell'=true:=by
    intro u hu
    rw [aL,ayK] at hu
    obtain ⟨aoU,-,hu⟩:=hu
    exact (eE Γ ks aoU).sa u hu
   have Fw:=run_storeCells_at P B.ax (off * ks.length) B.e (aL ks (axx (n+1) row)) 0 cs w hA.heap (by simpa using qw) ID
   simp only [Nat.add_zero] at Fw
   have bE:(Builtin.clear_ #[t] ty #[.slice (some ⟨B.ax,off * B.st,none⟩) (n+1) cap]).run P w=.ok (.tuple #[]) (w.setRow B.ax (aw cs.toList (off * ks.length) (aL ks (axx (n+1) row))).toArray):=by
    simp [Builtin.clear_,run_underlying hu,cC hi hv,IV,<- Pb,EX]
    rw [Fw]
    rfl
   exact ⟨_,_,hR,bE,Af _ (fun b hb=>setRow_other w _ _ _ hb) ⟨rfl,rfl,rfl,by simp⟩ (setRow_heap w _ _ _ _ _ hA.heap)⟩
theorem nf {X:Cx} {q:Nat} {aB:List Nat} {f:FuncId} {args:List NV} {nm:Nat} {s:St} {R:fQ->Prop} (h:(iD X q aB f args nm s).run R):∃ T,X.con f=some T:=by
 unfold iD at h
 split at h
 ·exact ⟨_,by assumption⟩
 ·exact h.elim
theorem Pp {X:Cx} {f:FuncId} {args:List NV} {nm:Nat} {s:St} {R:fQ->Prop} (h:(ju X f args nm s).run R):∃ T,X.con f=some T:=by
 unfold ju at h
 split at h
 ·split at h
  ·rcases EK h with h | h
   ·unfold qO at h
    simp only at h
    rw [Tr.run_bind] at h
    exact nf h
   ·exact nf h
  ·exact nf h
 ·exact nf h
theorem xZ {X:Cx} (cy:∀ f T,X.con f=some T->Known X.P X.glob f T) {o:Oper} {nm:Nat} {s:St} {Γ:Env} {w:World} {a:Act} {R:fQ->Prop}
  (hw:aQ Γ s.rg w) (hG:GlobOk X.glob Γ) (dr:cO Γ s.fr a.tmps) (fH:∀ k,nm<=k->k<nm+16->Γ.μ k=none) (h:(ka X o.op nm s).run R) {K:Act->World->Prop} {Q:Exit->Act->World->Prop}
  (hK:∀ x u w',R x->bp Γ s w nm x u w'->K (a.put o.dst u) w'):o.wp X.P a w K Q:=by
 have qW:Γ.μ nm=none:=fH nm (axB _) (by omega)
 have qZ:((fG X.P X.glob s o.op).OV nm).run R->o.wp X.P a w K Q:=fun h=>R1.Pn hw qW (E8 hw hG dr o) h hK
 have dG:∀ (l:List Operand),R2 (b5 Γ) (l.map s.ev) (l.map a.eval):=fun l=>R2.jh _ _ l fun x=>aS dr x
 generalize dk:o.op=op at h qZ
 unfold ka at h
 split at h
 ·rename_i Ic t x y yt
  split at h
  ·rename_i e d hn
   obtain ⟨A,n,c,st,h1,h2,h3,h4,h5⟩:=CL dr hn
   have key:∀ b:Bool,(Ic=.eql∧b=A.isNone∨Ic=.neq∧b=!A.isNone)->R {up:=[],v:=.v (.c (.b b))}->o.wp X.P a w K Q:=by
    intro b hb hR
    unfold Oper.wp
    have bE:(do eqGuard Ic t x y (a.eval x) (a.eval y); binOp Ic t (a.eval x) (a.eval y):Sem Value).run X.P w=.ok (.bool b) w:=by
     rw [h1,h2,eqGuard_at_slice]
     simp only [pure_bind]
     rcases hb with ⟨rfl,rfl⟩ | ⟨rfl,rfl⟩
     ·exact cZ w t st _ _ _ _ _ h3
     ·exact run_neq_slice_nil_any w t st _ _ _ _ _ h3
    have:(execOp a.eval o).run X.P w=.ok (.value (.bool b)) w:=by
     simp only [execOp,dk,Sem.run_bind (x:=(do eqGuard Ic t x y (a.eval x) (a.eval y); binOp Ic t (a.eval x) (a.eval y):Sem Value)),bE,Result.andThen_ok,Sem.run_pure]
    rw [this,Oper.upon_value]
    exact hK _ _ w hR (bp.plain hw ⟨rfl,rfl⟩)
   simp only [Tr.run] at h
   rcases aW.1 h with ⟨-,h⟩ | ⟨he,h⟩
   ·rcases h4 with ⟨hb,-⟩ | ⟨hb,-⟩
    ·exact key _ (.inl ⟨hb,rfl⟩) (h _ trivial)
    ·exact key _ (.inr ⟨hb,rfl⟩) (h _ trivial)
   ·have hA:A.isNone=false:=by
     have:=h5 he
     cases A <;> simp at this ⊢
    rcases h4 with ⟨hb,hd⟩ | ⟨hb,hd⟩
    ·exact key _ (.inl ⟨hb,by rw [hA,hd]⟩) h
    ·exact key _ (.inr ⟨hb,by rw [hA,hd]; rfl⟩) h
  ·split at h
   ·rename_i b hb
    unfold Oper.wp
    have bE:=v7 (w:=w) dr hb
    have:(execOp a.eval o).run X.P w=.ok (.value (.bool b)) w:=by
     simp only [execOp,dk,Sem.run_bind (x:=(do eqGuard Ic t x y (a.eval x) (a.eval y); binOp Ic t (a.eval x) (a.eval y):Sem Value)),bE,Result.andThen_ok,Sem.run_pure]
    rw [this,Oper.upon_value]
    exact hK _ _ w h (bp.plain hw ⟨rfl,rfl⟩)
   ·exact qZ h
 ·rename_i c x y
  split at h
  ·rename_i b hb
   have hc:=aS dr c
   rw [hb] at hc
   obtain ⟨hcv,-⟩:=hc
   have auD : a.eval c=.bool b:=hcv
   have key:∀ (R' : b5 Γ (if b=true then s.ev x else s.ev y) (if b=true then a.eval x else a.eval y)),R {up:=[],v:=if b=true then s.ev x else s.ev y}->o.wp X.P a w K Q:=by
    intro R' hR
    unfold Oper.wp
    have:(execOp a.eval o).run X.P w=.ok (.value (if b=true then a.eval x else a.eval y)) w:=by simp [execOp,dk,auD,asBool]
    rw [this,Oper.upon_value]
    exact hK _ _ w hR (bp.plain hw R')
   simp only [Tr.run] at h
   rcases aW.1 h with ⟨rfl,h⟩ | ⟨rfl,h⟩
   ·exact key (aS dr x) h
   ·exact key (aS dr y) h
  ·exact h.elim
 ·rename_i c
  split at h
  ·rename_i f hcal
   split at h
   case h_2=>exact h.elim
   rename_i g cap l hg hl
   have hf:=aS dr f
   rw [hg] at hf
   obtain ⟨⟨caps,hfv,dh⟩,-⟩:=hf
   have aiY : a.eval f=.func (.func g) #[] caps.toArray:=hfv
   have hall:R2 (cM Γ) (l++cap.map fun x=>NV.c (.p x.1 x.2.1 x.2.2)) (c.args.toList.map a.eval++caps):=by
    refine (pT hl (dG _)).append (R2.om dh ?_)
    rintro x u ⟨B,h1,h2⟩
    exact ⟨⟨B,h1,h2⟩,by rw [h2]; rfl⟩
   have hT:∃ T,X.con g=some T:=Pp h
   obtain ⟨T,hT⟩:=hT
   unfold Oper.wp
   have:(execOp a.eval o).run X.P w=.ok (.enter g (c.args.toList.map a.eval++caps).toArray) w:=by
    have e:(c.args.toList.map a.eval++caps).toArray=c.args.map a.eval++caps.toArray:=by
     apply ayL
     simp
    rw [e,<- (cy g T hT).qV]
    simp [execOp,dk,resolve,hcal,aiY,Deferred.ofValue,invoke]
   rw [this,Oper.upon_enter]
   refine (Fu cy hw hG hall fH h).mono ?_
   rintro e w' ⟨x,v,hR,rfl,hE⟩
   exact hK x v w' hR hE
  ·rename_i hcal
   split at h
   case h_2=>exact h.elim
   rename_i x y t u vV RL
   split at h
   case isFalse=>
    split at h
    case h_2=>exact h.elim
    rename_i xa xb h1 h2
    obtain ⟨ef,u',w',hR,bE,hE⟩:=CA (ty:=o.type) hw qW (cD (aS dr x) h1) (cD (aS dr y) h2) h
    unfold Oper.wp
    have ea:c.args=#[x,y]:=ayL (by simpa using vV)
    have et:c.argTypes=#[t,u]:=ayL (by simpa using RL)
    have:(execOp a.eval o).run X.P w=.ok (.value u') w':=by
     simp [execOp,dk,resolve,hcal,invoke,builtin,ea,et,bE]
    rw [this,Oper.upon_value]
    exact hK ef u' w' hR hE
   rename_i htu
   subst htu
   split at h
   case h_2=>exact h.elim
   rename_i xa xb h1 h2
   have SK:∃ ef u w',R ef∧(Builtin.append_ #[t,t] o.type #[a.eval x,a.eval y]).run X.P w=.ok u w'∧bp Γ s w nm ef u w':=by
    split at h
    ·rename_i tr htr
     exact xY hw qW (cD (aS dr x) h1) (cD (aS dr y) h2) htr h
    ·exact Ac hw qW (cD (aS dr x) h1) (cD (aS dr y) h2) h
   obtain ⟨ef,u,w',hR,bE,hE⟩:=SK
   unfold Oper.wp
   have ea:c.args=#[x,y]:=ayL (by simpa using vV)
   have et:c.argTypes=#[t,t]:=ayL (by simpa using RL)
   have:(execOp a.eval o).run X.P w=.ok (.value u) w':=by
    simp [execOp,dk,resolve,hcal,invoke,builtin,ea,et,bE]
   rw [this,Oper.upon_value]
   exact hK ef u w' hR hE
  ·rename_i hcal
   split at h
   case h_2=>exact h.elim
   rename_i m k t ts vV RL
   split at h
   case h_2=>exact h.elim
   rename_i r g hd
   unfold rT at hd
   split at hd
   case h_2=>cases hd
   rename_i r' g' ks sch xs row et hm
   cases hd
   obtain ⟨B,es,ck,kt,M⟩:=mZ hw dr hm
   obtain ⟨w',bE,hE⟩:=M.del hw nm o.type c.argTypes (by rw [<- ayM,RL]; rfl)
   unfold Oper.wp
   have ea:c.args=#[m,k]:=ayL (by simpa using vV)
   have:(execOp a.eval o).run X.P w=.ok (.value (.tuple #[])) w':=by
    simp [execOp,dk,resolve,hcal,invoke,builtin,ea,bE]
   rw [this,Oper.upon_value]
   exact hK _ _ w' h hE
  ·rename_i hcal
   split at h
   case h_2=>exact h.elim
   rename_i x y t u vV RL
   split at h
   case h_2=>exact h.elim
   rename_i xa xb h1 h2
   obtain ⟨ef,u',w',hR,bE,hE⟩:=Fx (u:=u) (ty:=o.type) (nm:=nm) hw (cD (aS dr x) h1) (cD (aS dr y) h2) h
   unfold Oper.wp
   have ea:c.args=#[x,y]:=ayL (by simpa using vV)
   have et:c.argTypes=#[t,u]:=ayL (by simpa using RL)
   have:(execOp a.eval o).run X.P w=.ok (.value u') w':=by
    simp [execOp,dk,resolve,hcal,invoke,builtin,ea,et,bE]
   rw [this,Oper.upon_value]
   exact hK ef u' w' hR hE
  ·rename_i hcal
   split at h
   case h_2=>exact h.elim
   rename_i x t vV RL
   split at h
   case h_2=>exact h.elim
   rename_i xa h1
   obtain ⟨ef,w',hR,bE,hE⟩:=CN (ty:=o.type) (nm:=nm) hw (cD (aS dr x) h1) h
   unfold Oper.wp
   have ea:c.args=#[x]:=ayL (by simpa using vV)
   have et:c.argTypes=#[t]:=ayL (by simpa using RL)
   have:(execOp a.eval o).run X.P w=.ok (.value (.tuple #[])) w':=by
    simp [execOp,dk,resolve,hcal,invoke,builtin,ea,et,bE]
   rw [this,Oper.upon_value]
   exact hK ef _ w' hR hE
  ·exact qZ h
 ·rename_i src dst x
  split at h
  ·rename_i c z hb
   unfold bytesOf at hb
   split at hb
   case h_3=>cases hb
   case h_2 hx=>
    split at hb
    case h_2=>cases hb
    rename_i e hs hd
    split at hb
    case h_2=>cases hb
    rename_i he
    cases hb
    have h2:=(bC _ _ _).1 h
    have r0:=aS dr x
    rw [hx] at r0
    have r1:a.eval x=.slice none 0 0:=r0.1
    have S9:=run_convert_bytes_nil (P:=X.P) w src e hs he 0 0 dst hd
    have this:(execOp a.eval o).run X.P w=.ok (.value (.string ByteArray.empty)) w:=by
     simp only [execOp,dk,r1,Sem.run_bind,S9,Result.andThen_ok,Sem.run_pure]
    unfold Oper.wp
    rw [this,Oper.upon_value]
    exact hK _ _ w h2.2 (bp.plain hw ⟨rfl,rfl⟩)
   rename_i r off len hx
   split at hb
   case h_2=>cases hb
   rename_i e hs hd
   split at hb
   case h_2=>cases hb
   rename_i c' xs he xJ
   cases hb
   have h2:=(bC _ _ _).1 h
   have r0:=aS dr x
   rw [hx] at r0
   have r1:CR Γ (.h r off len) (a.eval x):=r0
   obtain ⟨a1,axp,hv1,eQ,bO⟩:=iG hw r1 xJ h2.1
   obtain ⟨⟨B,o',sk,hB,hv2,-⟩,-⟩:=r1
   have heq:=hv2.symm.trans hv1
   simp only [Value.slice.injEq] at heq
   obtain ⟨ha1,hlen,dh⟩:=heq
   have hl:xs.length=len:=hlen.symm
   have il:∀ i,i<len->w.cell? ⟨B.ax,o'+i,none⟩=some (.int .u8 (xs.getD i 0)):=by
    intro i hi
    have hix:i<xs.length:=by omega
    rcases bO with h0 | ⟨ax,axq,hae,hc⟩
    ·have:xs.length=0:=h0
     omega
    ·rw [hae] at ha1
     simp only [Option.some.injEq,Addr.mk.injEq] at ha1
     obtain ⟨rfl,rfl,-⟩:=ha1
     refine hc i _ ?_
     show (xs.map (Value.int .u8))[i]? = _
     rw [List.getElem?_map,List.getElem?_eq_getElem hix,axF,List.getElem?_eq_getElem hix]
     rfl
   have S9:=run_convert_bytes_arg (P:=X.P) (w:=w) src e hs he B.ax o' len sk xs hl il dst hd
   have this:(execOp a.eval o).run X.P w=.ok (.value (.string (strOfNums xs))) w:=by
    simp only [execOp,dk,hv2,Sem.run_bind,S9,Result.andThen_ok,Sem.run_pure]
   unfold Oper.wp
   rw [this,Oper.upon_value]
   exact hK _ _ w h2.2 (bp.plain hw ⟨rfl,rfl⟩)
  ·split at h
   ·rename_i r k xs hb
    unfold rW at hb
    split at hb
    case h_2=>cases hb
    rename_i r' len e hx hu
    split at hb
    case h_2=>cases hb
    rename_i g he hg
    split at hb
    case h_2=>cases hb
    rename_i k' xs' aH
    split at hb
    case isFalse=>cases hb
    rename_i kK
    cases hb
    obtain ⟨hsd,hlen,Ch⟩:=kK
    subst hsd
    have r0:=aS dr x
    rw [hx] at r0
    obtain ⟨⟨B,o',cap,hBw,hv,eQ,-,ho⟩,-⟩:=r0
    have Pq : o'=0:=by
     rcases ho with ⟨h1,-⟩ | h1
     ·rw [h1,Nat.zero_mul]
     ·omega
    subst Pq
    obtain ⟨cs,hcs,fv,CB,hbd⟩:=hw.Cg hBw ((bS s r g).1 hg)
    rw [aH] at hbd
    obtain ⟨abt,l2,hl⟩:=hbd
    obtain ⟨w',bE,lJ,xX,Fb⟩:=v8 (P:=X.P) (o:=0) (n:=len) (c:=cap) hu he hcs
    have this:(execOp a.eval o).run X.P w=.ok (.value (.slice (some ⟨B.ax,0,none⟩) len cap)) w':=by
     simp only [execOp,dk,hv,Sem.run_bind,bE,Result.andThen_ok,Sem.run_pure]
    unfold Oper.wp
    rw [this,Oper.upon_value]
    subst hlen
    refine hK _ _ w' h (bp.abr hw ((bS s r g).1 hg) hBw lJ xX Fb eQ fun j u hj=>?_)
    rw [<- ayM,hl]
    exact aV hj
   ·exact qZ h
 ·rename_i t x
  split at h
  ·rename_i r k xs hb
   unfold oe at hb
   split at hb
   case h_2=>cases hb
   rename_i r' n e hx hu
   split at hb
   case h_2=>cases hb
   rename_i g hg
   split at hb
   case h_2=>cases hb
   rename_i k' xs' aH
   split at hb
   case isFalse=>cases hb
   rename_i kK
   cases hb
   have r0:=aS dr x
   rw [hx] at r0
   obtain ⟨⟨B,hB,hv⟩,-⟩:=r0
   have hBw:=hw.whole hB ((bS s r g).1 hg) (by rw [aH]; rfl)
   have hv:a.eval x=.pointer (some ⟨B.ax,0,none⟩):=by rw [hv,Nat.zero_mul,Env.Sf hBw]
   obtain ⟨cs,hcs,fv,CB,hbd⟩:=hw.Cg hBw ((bS s r g).1 hg)
   rw [aH] at hbd
   obtain ⟨abt,l2,hl⟩:=hbd
   obtain ⟨ei,jn,-⟩:=aT (P:=X.P) (t:=e) kK.2.2
   have bE:(Instr.sliceAt t (a.eval x) none none none).run X.P w=.ok (.slice (some ⟨B.ax,0,none⟩) xs.length xs.length) w:=by
    rw [hv,<- kK.1]
    simp [Instr.sliceAt,run_underlying hu,Instr.sureAddr,Instr.sliceBounds,run_sizeOf jn,Addr.add_lit]
   have this:(execOp a.eval o).run X.P w=.ok (.value (.slice (some ⟨B.ax,0,none⟩) xs.length xs.length)) w:=by
    simp only [execOp,dk,Option.map_none,Sem.run_bind,bE,Result.andThen_ok,Sem.run_pure]
   unfold Oper.wp
   rw [this,Oper.upon_value]
   refine hK _ _ w h (bp.freeze hw ((bS s r g).1 hg) hBw hcs fun j u hj=>?_)
   rw [<- ayM,hl]
   exact aV hj
  ·exact qZ h
 ·rename_i t m k ok
  split at h
  case h_2=>exact h.elim
  rename_i has v z hl
  unfold rR at hl
  split at hl
  case h_2=>cases hl
  rename_i r g ks sch xs row et hm
  split at hl
  case h_2=>cases hl
  rename_i z' hz
  cases hl
  obtain ⟨B,es,ck,kt,M⟩:=mZ hw dr hm
  obtain ⟨u,bE,hu⟩:=M.lookup hz ok
  unfold Oper.wp
  have:(execOp a.eval o).run X.P w=.ok (.value (if ok then .tuple #[u,.bool (gW ks row xs)] else u)) w:=by
   simp only [execOp,dk,Sem.run_bind,bE,Result.andThen_ok,Sem.run_pure]
  rw [this,Oper.upon_value]
  have tu:∀ {y:NV} {b:Bool},cM Γ y u->b5 Γ (.tu [y,.c (.b b)]) (.tuple #[u,.bool b]):=fun {y b} hy=>⟨[u,.bool b],rfl,.cons hy (.cons ⟨rfl,rfl⟩ .nil)⟩
  cases ok with
  | true=>
    rcases hu with ⟨hb,hr⟩ | ⟨hb,hr⟩
    ·rw [hb] at h ⊢
     exact hK _ _ w h (bp.plain hw (tu (hr.rel _)))
    ·rw [hb] at h ⊢
     exact hK _ _ w h (bp.plain hw (tu hr))
  | false=>
    rcases hu with ⟨hb,hr⟩ | ⟨hb,hr⟩
    ·rw [hb] at h
     exact hK _ _ w h (bp.plain hw (hr.rel _))
    ·rw [hb] at h
     exact hK _ _ w h (bp.plain hw hr)
 ·rename_i t m k v
  split at h
  case h_2=>exact h.elim
  rename_i r g hs
  unfold rS at hs
  split at hs
  case h_2=>cases hs
  rename_i r' g' ks sch xs row et hm
  split at hs
  case h_2=>cases hs
  rename_i y hy
  split at hs
  case h_2=>cases hs
  rename_i vr hvr
  cases hs
  obtain ⟨B,es,ck,kt,M⟩:=mZ hw dr hm
  obtain ⟨w',bE,hE⟩:=M.set hw (jj hvr (iE (aS dr v) hy)) nm
  unfold Oper.wp
  have:(execOp a.eval o).run X.P w=.ok .skip w':=by
   simp only [execOp,dk,Sem.run_bind,bE,Result.andThen_ok,Sem.run_pure]
  rw [this,Oper.upon_skip]
  exact hK _ undef w' h hE
 ·rename_i t len parts
  split at h
  ·rename_i g hg
   obtain ⟨u,w',bE,hE⟩:=Ag hw qW dr hg
   unfold Oper.wp
   have:(execOp a.eval o).run X.P w=.ok (.value u) w':=by
    simp only [execOp,dk,Sem.run_bind,bE,Result.andThen_ok,Sem.run_pure]
   rw [this,Oper.upon_value]
   exact hK _ _ w' h hE
  ·exact qZ h
 ·rename_i t
  split at h
  case h_2=>exact h.elim
  rename_i g hg
  unfold EF at hg
  split at hg
  case h_2=>cases hg
  split at hg
  case h_2=>cases hg
  rename_i ks sch _ _ _ _
  split at hg
  case isFalse=>cases hg
  cases hg
  have bE:(execOp a.eval o).run X.P w=.ok (.value (.map (some w.heap.size))) (w.alloc (.map #[] 0)):=by
   simp only [execOp,dk,Option.map_none]
   rfl
  unfold Oper.wp
  rw [bE,Oper.upon_value]
  refine hK _ _ _ h ⟨_,Ext.add qW (fun _=>.inl (axB _)),⟨⟨_,Env.mH rfl,rfl⟩,rfl⟩,hw.aiG (g:={st:=0,e:=t,body:=.mp ks sch []}) qW rfl rfl,⟨rfl,rfl,rfl,by simp⟩,hJ (mV (g:=some ({st:=0,e:=t,body:=.mp ks sch []}:aG)) (by simp))⟩
 ·exact qZ h
theorem Inv.app {gl:List Nat} {N:Nat} {Γ:Env} {s:St} {a:Act} {w w' : World} {x:fQ} {u:Value} {dst:Option Tmp} (h:Inv gl N Γ s a w) (hE:bp Γ s w s.rg.length x u w'):∃ Γ',Ext Γ w Γ'∧Wd w w'∧Inv gl N Γ' (s.app x dst) (a.put dst u) w':=by
 obtain ⟨Γ',h1,h2,h3,h4,h5⟩:=hE
 refine ⟨Γ',h1,h4,by rw [St.app,iH]; exact h3,?_,h.gl.mono h1.le,fun n hn=>?_,by rw [put_defers]; exact h.df.mono h1.le⟩
 ·refine cO.put ?_ dst h2
  rw [ua]; exact h.fr.mono h1.le
 ·rw [St.app,iH] at hn
  exact h5 n (h.nw n (Nat.le_trans (Cy s x.up) hn)) (by omega)
theorem Inv.put {gl:List Nat} {N:Nat} {Γ:Env} {s:St} {a:Act} {w:World} {x:NS} {u:Value} {dst:Option Tmp} (h:Inv gl N Γ s a w) (r:b5 Γ x u):Inv gl N Γ (s.put dst x) (a.put dst u) w:=
 ⟨by rw [iH]; exact h.wr,h.fr.put dst r,h.gl,by rw [iH]; exact h.nw,by rw [put_defers]; exact h.df⟩
theorem Inv.lit {gl:List Nat} {N:Nat} {Γ:Env} {s:St} {a:Act} {w:World} {d:Tmp} {x:Bool} (h:Inv gl N Γ s a w) (hd:s.fr[d]? = some (.v (.c (.b x)))):Inv gl N Γ (s.put (some d) (lit x)) a w:=by
 have:s.put (some d) (Nx.lit x)=s:=by
  show St.mk (s.fr.set d _) s.rg=s
  have:s.fr.set d (Nx.lit x)=s.fr:=List.ext_getElem? fun j=>by
   rw [List.getElem?_set]
   split
   ·rename_i e; subst e
    split
    ·rw [hd]; rfl
    ·rename_i hl; rw [axD (by omega)] at hd; cases hd
   ·rfl
  rw [this]
 rw [this]; exact h
theorem Fz {X:Cx} (cy:∀ f T,X.con f=some T->Known X.P X.glob f T) {o:Oper} {nm:Nat} {s:St} {Γ:Env} {w:World} {a:Act} {R:fQ->Prop}
  (hw:aQ Γ s.rg w) (hG:GlobOk X.glob Γ) (dr:cO Γ s.fr a.tmps) (fH:∀ k,nm<=k->k<nm+16->Γ.μ k=none) (h:(Ay X o.op nm s).run R) {K:Act->World->Prop} {Q:Exit->Act->World->Prop}
  (hK:∀ x u w',R x->bp Γ s w nm x u w'->K (a.put o.dst u) w'):o.wp X.P a w K Q:=by
 unfold Ay at h
 split at h
 case h_2=>exact xZ cy hw hG dr fH h hK
 generalize dk:o.op=op at h
 unfold EL at h
 split at h
 case h_2=>exact h.elim
 rename_i c
 split at h
 case h_2=>exact h.elim
 rename_i f hcal
 split at h
 case h_2=>exact h.elim
 rename_i g cap l hg hl
 have dG:∀ (l:List Operand),R2 (b5 Γ) (l.map s.ev) (l.map a.eval):=fun l=>R2.jh _ _ l fun x=>aS dr x
 have hf:=aS dr f
 rw [hg] at hf
 obtain ⟨⟨caps,hfv,dh⟩,-⟩:=hf
 have aiY : a.eval f=.func (.func g) #[] caps.toArray:=hfv
 have hall:R2 (cM Γ) (l++cap.map fun x=>NV.c (.p x.1 x.2.1 x.2.2)) (c.args.toList.map a.eval++caps):=by
  refine (pT hl (dG _)).append (R2.om dh ?_)
  rintro x u ⟨B,h1,h2⟩
  exact ⟨⟨B,h1,h2⟩,by rw [h2]; rfl⟩
 have hT:∃ T,X.con g=some T:=by
  unfold iD at h
  split at h
  ·exact ⟨_,by assumption⟩
  ·exact h.elim
 obtain ⟨T,hT⟩:=hT
 unfold Oper.wp
 have:(execOp a.eval o).run X.P w=.ok (.enter g (c.args.toList.map a.eval++caps).toArray) w:=by
  have e:(c.args.toList.map a.eval++caps).toArray=c.args.map a.eval++caps.toArray:=by
   apply ayL
   simp
  rw [e,<- (cy g T hT).qV]
  simp [execOp,dk,resolve,hcal,aiY,Deferred.ofValue,invoke]
 rw [this,Oper.upon_enter]
 refine (hU cy (dL s _ _ _ (by simp)) hw hG hall fH h).mono ?_
 rintro e w' ⟨x,v,hR,rfl,hE⟩
 exact hK x v w' hR hE
theorem oD {β:Type} {N:Nat} {X:Cx} (cy:∀ f T,X.con f=some T->Known X.P X.glob f T) {ops:Array Oper} {o:Oper} {s:St} {Γ:Env} {w:World} {a:Act} {K:St->Tr β} {R:β->Prop} {K' : Act->World->Prop} {Q:Exit->Act->World->Prop} (hI:Inv X.glob N Γ s a w)
  (h:(xp ops o (Ay X o.op s.rg.length) s K).run R)
  (hK:∀ s' a' w' Γ',(K s').run R->Ext Γ w Γ'->Wd w w'->Inv X.glob N Γ' s' a' w'->K' a' w') :
  if Region.wanted o (yielded ops a.tmps) then o.wp X.P a w K' Q∨(o.asks X.P a w∧LetsOut Q) else K' (a.put o.dst undef) w:=by
 have run:∀ (s1:St),s1.rg.length=s.rg.length->Inv X.glob N Γ s1 a w->((Ay X o.op s.rg.length s1).bind fun x=>K (s1.app x o.dst)).run R->o.wp X.P a w K' Q:=by
  intro s1 hl h1 h2
  rw [<- hl,Tr.run_bind] at h2
  refine Fz cy h1.wr h1.gl h1.fr (fun k hk _=>h1.nw k hk) h2 fun x u w' hR hE=>?_
  obtain ⟨Γ',h3,h4,h5⟩:=h1.app hE
  exact hK _ _ _ Γ' hR h3 h4 h5
 unfold xp at h
 split at h
 ·rename_i hg
  have:Region.wanted o (yielded ops a.tmps)=true:=by simp [Region.wanted,hg]
  rw [if_pos this]
  exact .inl (run s rfl hI h)
 ·rename_i j want hg
  split at h
  case h_2=>exact h.elim
  rename_i d hd
  split at h
  case h_3=>exact h.elim
  case h_2 hx=>
   have hy:yielded ops a.tmps j=Option.none:=by
    obtain ⟨v,h1,h2⟩:=R2.get hI.fr hx
    obtain ⟨vs,rfl,h2⟩:=h2
    cases h2
    have h3:a.tmps[d]? = some (.tuple #[]):=by simpa using h1
    have h4:(ops[j]?).bind (·.dst)=some d:=hd
    unfold yielded
    rw [h4,ayN,h3]
   have x0:Region.wanted o (yielded ops a.tmps)=false:=by simp [Region.wanted,hg,hy]
   rw [x0,if_neg (by decide)]
   exact hK _ _ _ Γ h (Ext.refl Γ w) (Wd.refl w) (hI.put ⟨[],rfl,.nil⟩)
  rename_i x hx
  have hy:yielded ops a.tmps j=some x:=by
   obtain ⟨v,h1,h2⟩:=R2.get hI.fr hx
   obtain ⟨h2,-⟩:=h2
   have h2' : v=.bool x:=h2
   subst h2'
   have h3:a.tmps[d]? = some (.bool x):=by simpa using h1
   have h4:(ops[j]?).bind (·.dst)=some d:=hd
   unfold yielded
   rw [h4,ayN,h3]
  have x0:Region.wanted o (yielded ops a.tmps)=(x==want):=by simp [Region.wanted,hg,hy]
  rw [x0]
  have skip:∀ (s1:St),Inv X.glob N Γ s1 a w->(K (s1.put o.dst (.tu []))).run R->K' (a.put o.dst undef) w:=fun s1 h1 h2=>hK _ _ _ Γ h2 (Ext.refl Γ w) (Wd.refl w) (h1.put ⟨[],rfl,.nil⟩)
  rcases aW.1 h with ⟨rfl,h⟩ | ⟨rfl,h⟩
  ·cases want with
   | true=>exact .inl (run _ (by rw [iH]) (hI.lit hx) h)
   | false=>exact skip _ (hI.lit hx) h
  ·cases want with
   | false=>exact .inl (run _ (by rw [iH]) (hI.lit hx) h)
   | true=>exact skip _ (hI.lit hx) h
theorem x3 {β:Type} {N:Nat} {X:Cx} (cy:∀ f T,X.con f=some T->Known X.P X.glob f T) {ops:Array Oper} {Q:Exit->Act->World->Prop}:∀ (l:List Oper) {s:St} {Γ:Env} {w:World} {a:Act} {K:St->Tr β} {R:β->Prop},Inv X.glob N Γ s a w->(abd X ops l s K).run R->
  (∀ s' a' w' Γ',(K s').run R->Ext Γ w Γ'->Wd w w'->Inv X.glob N Γ' s' a' w'->Q .normal a' w')->wpList X.P ops Q l a w
 | [],s,Γ,w,a,K,R,hI,h,hK=>hK s a w Γ h (Ext.refl Γ w) (Wd.refl w) hI
 | o::rest,s,Γ,w,a,K,R,hI,h,hK=>by
   unfold wpList
   exact oD cy hI h fun s' a' w' Γ' h1 h2 h3 h4=>x3 cy rest h4 h1 fun s2 a2 w2 eG k1 k2 k3 k4=>hK s2 a2 w2 eG k1 (h2.trans h3 k2) (h3.trans k3) k4
theorem x4 {n:NS} {x:NC} (h:n.nc=some x):n.names=names x:=by
 unfold NS.nc at h
 split at h
 ·cases h; simp [NS.names,NV.names,NV.gU]
 ·cases h
section
variable {P:Program} {gl:List Nat} {s s' : St}
theorem IW {t:TypeId} {a:NC} (h:∀ n∈names a,s.bK n=s'.bK n):uW P gl s t a=uW P gl s' t a:=by
 cases a <;> simp only [uW]
 ·rename_i r i c
  rw [h r (by simp [names])]
 ·rename_i r o w i c
  rw [h r (by simp [names])]
theorem FA {t:TypeId} {a:NC} {x:NV} (h:∀ n∈names a,s.bK n=s'.bK n):oa P s t a x=oa P s' t a x:=by
 unfold oa
 split
 ·cases a <;> simp only []
  ·rename_i r i c
   rw [h r (by simp [names])]
  ·rename_i r o w i c
   rw [h r (by simp [names])]
 ·rfl
theorem wa {t:TypeId} {a b:NC} (h:∀ n∈names a,s.bK n=s'.bK n):iz P s t a b=iz P s' t a b:=by
 unfold iz
 split
 ·split
  ·rfl
  ·rfl
  ·rw [h _ (by simp [names])]
  ·rw [h _ (by simp [names])]
  ·rw [h _ (by simp [names])]
  ·rfl
  ·rfl
  ·rfl
  ·rfl
 ·rfl
theorem FB {t:TypeId} {a:NC} {lo hi:Option NC} (h:∀ n∈names a,s.bK n=s'.bK n):tN P s t a lo hi=tN P s' t a lo hi:=by
 unfold tN
 split
 ·rfl
 ·rw [h _ (by simp [names])]
 ·rfl
 ·rw [h _ (by simp [names])]
 ·rw [h _ (by simp [names])]
 ·rfl
 ·rfl
 ·rfl
 ·rfl
 ·rfl
 ·rfl
theorem jW {a:NC} (h:∀ n∈names a,s.bK n=s'.bK n):nL s a=nL s' a:=by
 cases a
 case h r i c=>
  have:=h r (by simp [names])
  unfold nL
  simp only [this]
 case hq r o w i n=>
  have:=h r (by simp [names])
  unfold nL
  simp only [this]
 case hz r n=>
  have:=h r (by simp [names])
  unfold nL
  simp only [this]
 all_goals rfl
theorem x5 {x:Option Operand} (h:∀ y∈x.toList,s.ev y=s'.ev y):xk s x=xk s' x:=by
 cases x with
 | none=>rfl
 | some x=>simp only [xk,h x (by simp)]
theorem Pr {args:List Operand} {ts:List TypeId} (h:∀ y∈args,s.ev y=s'.ev y):R7 P s args ts=R7 P s' args ts:=by
 unfold R7
 split
 ·rename_i x t
  rw [h x (by simp)]
 ·rfl
theorem Ps {args:List Operand} {ts:List TypeId} (h:∀ y∈args,s.ev y=s'.ev y):OU P s args ts=OU P s' args ts:=by
 unfold OU
 split
 ·rename_i x t
  rw [h x (by simp)]
 ·rfl
theorem x6 {x:NC} (h:∀ n∈names x,s.bK n=s'.bK n):cW s x=cW s' x:=by
 unfold cW
 split
 ·rfl
 ·rfl
 ·rfl
 ·rfl
 ·rename_i r o n
  rw [h r (by simp [names])]
 ·rfl
theorem FD {less:Bool} {args:List Operand} (h:∀ y∈args,s.ev y=s'.ev y):nmm less s args=nmm less s' args:=by
 unfold nmm
 split
 ·rename_i x y
  rw [h x (by simp),h y (by simp)]
 ·rfl
theorem x7 {parts:Array (Nat × Operand)} (h:∀ y∈parts.toList.map (·.2),s.ev y=s'.ev y):(parts.toList.map fun (i,x)=>(i,s.ev x))=(parts.toList.map fun (i,x)=>(i,s'.ev x)):=by
 apply ayO
 rintro ⟨i,x⟩ hx
 simp only [Prod.mk.injEq,true_and]
 exact h x (List.mem_map.2 ⟨(i,x),hx,rfl⟩)
theorem x9 {op:Op} (eY:∀ x∈op.operands.toList,s.ev x=s'.ev x) (kb:still op=true∨∀ n∈op.operands.toList.flatMap (fun x=>(s.ev x).names),s.bK n=s'.bK n):fG P gl s op=fG P gl s' op:=by
 have hn:∀ (x:Operand) (y:NC),x∈op.operands.toList->(s.ev x).nc=some y->(still op=true∨∀ n∈names y,s.bK n=s'.bK n):=by
  intro x y hx hy
  refine kb.imp id fun h n hm=>h n ?_
  rw [ayK]
  exact ⟨x,hx,by rw [x4 hy]; exact hm⟩
 cases op <;> simp only [Op.operands] at eY hn <;> simp only [fG]
 case load t a=>
  rw [<- eY a (by simp)]
  split
  ·rename_i x _ hx
   rcases hn a x (by simp) hx with h | h
   ·cases a <;> simp [still] at h
    rename_i g
    have:x=.g g:=by simp only [St.ev,NS.nc,Option.some.injEq] at hx; exact hx.symm
    subst this
    rfl
   ·rw [IW h]
  ·rfl
 case store t a x=>
  rw [<- eY a (by simp),<- eY x (by simp)]
  split
  ·rename_i y z _ hy hz
   rcases hn a y (by simp) hy with h | h
   ·simp [still] at h
   ·rw [FA h]
  ·rfl
 case indexAddr t x ix=>
  rw [<- eY x (by simp),<- eY ix (by simp)]
  split
  ·rename_i y z hy hz
   rcases hn x y (by simp) hy with h | h
   ·simp [still] at h
   ·rw [wa h]
  ·rfl
 case sliceToArrayPointer t x=>rw [<- eY x (by simp)]
 case slice t x lo hi m=>
  cases m with
  | some m=>rfl
  | none=>
    simp only []
    rw [<- eY x (by simp),<- x5 (x:=lo) (fun y hy=>eY y (by cases lo <;> simp_all)),<- x5 (x:=hi) (fun y hy=>eY y (by cases hi <;> simp_all))]
    split
    ·rename_i y l u hy hl hu
     rcases hn x y (by simp) hy with h | h
     ·simp [still] at h
     ·rw [FB h]
    ·rfl
 case call c=>
  split
  ·rw [Pr fun y hy=>eY y (by simp [Call.operands]; right; simpa using hy)]
  ·rw [Ps fun y hy=>eY y (by simp [Call.operands]; right; simpa using hy)]
  ·rw [FD fun y hy=>eY y (by simp [Call.operands]; right; simpa using hy)]
  ·rw [FD fun y hy=>eY y (by simp [Call.operands]; right; simpa using hy)]
  ·rfl
 case makeFunc fn first caps=>
  cases fn
  case func f=>
   have e:caps.toList.map s.ev=caps.toList.map s'.ev:=ayO fun x hx=>eY x (by simp; right; simpa using hx)
   simp only [e]
  all_goals rfl
 case typeAssert x xt asserted ok=>
  cases ok
  ·rfl
  ·simp only []
   rw [<- eY x (by simp)]
 case build t parts=>rw [x7 (fun y hy=>eY y (by simpa using hy))]
 case buildSlice t n parts=>rw [x7 (fun y hy=>eY y (by simpa using hy))]
 all_goals first
  | rfl
  | (simp only [<- eY _ (by simp:_∈#[_].toList)]; done)
  | (simp_all; done)
theorem ng (h:∀ n,s.bK n=s'.bK n):∀ (k:Nat) (l acc:List Nat),reach s k l acc=reach s' k l acc
 | 0,_,_=>rfl
 | k+1,[],_=>rfl
 | k+1,n::l,acc=>by
   simp only [reach,h n]
   split
   ·exact ng h k _ _
   ·split
    ·exact ng h k _ _
    ·exact ng h k _ _
theorem uh {a:NC} (h:∀ n∈names a,s.bK n=s'.bK n):lE s a=lE s' a:=by
 unfold lE
 split
 ·rename_i r o n
  rw [h r (by simp [names])]
 ·rename_i r n
  rw [h r (by simp [names])]
 ·rfl
 ·rfl
theorem x' {aB:List Nat} {t:Option TypeId} {x:NC} (h:∀ n∈names x,s.bK n=s'.bK n):kq P s aB t x=kq P s' aB t x:=by
 unfold kq
 split
 ·split
  ·rfl
  ·rw [jW h,uh h]
 ·split
  ·rfl
  ·rw [jW h]
 ·split
  ·rfl
  ·rw [jW h,uh h]
 ·rfl
 ·rfl
theorem ui {aB:List Nat} {t:Option TypeId}:∀ {xs:List NC},(∀ n∈xs.flatMap names,s.bK n=s'.bK n)->Ca (kq P s aB t) xs=Ca (kq P s' aB t) xs
 | [],_=>rfl
 | x::xs,h=>by
   simp only [Ca]
   rw [x' (fun n hn=>h n (by simp [hn])),ui (fun n hn=>h n (by simp only [axA,ayC]; exact .inr hn))]
theorem sC {aB:List Nat} {t:Option TypeId}:∀ {l:List bq},(∀ n∈(dt l).flatMap names,s.bK n=s'.bK n)->kr (kq P s aB t) l=kr (kq P s' aB t) l
 | [],_=>rfl
 | x::l,h=>by
   simp only [kr]
   rw [sC (l:=l) (fun n hn=>h n (by simp only [dt,ayP,ayC]; exact .inr hn))]
   cases x with
   | cells xs=>
     simp only [xn]
     rw [ui (xs:=xs) (fun n hn=>h n (by simp only [dt,bq.gU,ayP,ayC]; exact .inl hn))]
   | ints k n xs=>rfl
   | aA ks n xs=>rfl
theorem IX {aB:List Nat} {t:Option TypeId} {x:NV} (h:∀ n∈x.names,s.bK n=s'.bK n):qm P s aB t x=qm P s' aB t x:=by
 cases x with
 | c x=>simp only [qm]; rw [x' (fun n hn=>h n (by simp [NV.names,NV.gU,hn]))]
 | ag xs=>simp only [qm]; rw [ui (xs:=xs) (fun n hn=>h n hn)]
 | sg l=>simp only [qm]; rw [sC (l:=l) (fun n hn=>h n hn)]
theorem kL {aB:List Nat}:∀ {ts:List TypeId} {xs:List NV},(∀ n∈xs.flatMap NV.names,s.bK n=s'.bK n)->od P s aB ts xs=od P s' aB ts xs
 | _,[],_=>rfl
 | ts,x::xs,h=>by
   simp only [od]
   rw [IX (fun n hn=>h n (by simp only [axA,ayC]; exact .inl hn)),kL (fun n hn=>h n (by simp only [axA,ayC]; exact .inr hn))]
theorem pV {args:List NV} (h:∀ n∈args.flatMap NV.names,s.bK n=s'.bK n):args.flatMap (fun x=>x.gU.flatMap (cW s))=args.flatMap (fun x=>x.gU.flatMap (cW s')):=by
 induction args with
 | nil=>rfl
 | cons a l ih=>
   simp only [axA]
   rw [ih fun n hn=>h n (by rw [axA,ayC]; exact .inr hn)]
   congr 1
   have h' : ∀ n∈a.gU.flatMap names,s.bK n=s'.bK n:=fun n hn=>h n (by rw [axA,ayC]; exact .inl hn)
   generalize a.gU=cs at h'
   induction cs with
   | nil=>rfl
   | cons c cs ihc=>
     simp only [axA]
     rw [ihc fun n hn=>h' n (by rw [axA,ayC]; exact .inr hn),x6 fun n hn=>h' n (by rw [axA,ayC]; exact .inl hn)]
theorem kM {X:Cx} {q:Nat} {f:FuncId} {args:List NV} {nm:Nat} (h:∀ n,s.bK n=s'.bK n) :
  iD X q (reach s 64 (args.flatMap fun x=>x.gU.flatMap (cW s)) []) f args nm s=iD X q (reach s' 64 (args.flatMap fun x=>x.gU.flatMap (cW s')) []) f args nm s':=by
 unfold iD
 simp only [ng h,pV (s:=s) (s':=s') (args:=args) (fun n _=>h n),kL (P:=X.P) (fun n _=>h n),h]
theorem nh {t:Option TypeId} {x:NV} (h:∀ n∈x.names,s.bK n=s'.bK n):gX P s t x=gX P s' t x:=by
 unfold gX
 split
 ·rename_i t r i c
  rw [h r (by simp [NV.names,NV.gU,names])]
 ·rename_i t r a w i c
  rw [h r (by simp [NV.names,NV.gU,names])]
 ·rfl
theorem wP (s:St) (m:Nat) (x:Option aG) (n:Nat):({s with rg:=putAt s.rg m x}:St).bK n=if n=m then x else s.bK n:=by
 have key:∀ y:aG,({s with rg:=putAt s.rg m x}:St).bK n=some y↔(if n=m then x else s.bK n)=some y:=by
  intro y
  rw [bS]
  show (putAt s.rg m x)[n]? = _↔_
  rw [bn]
  split
  ·rename_i e; simp [e]
  ·rename_i e
   simp only [e,false_and,ne_eq,not_false_eq_true,true_and,false_or]
   exact (bS s n y).symm
 cases h:(if n=m then x else s.bK n) with
 | some y=>exact (key y).2 h
 | none=>
   cases h2:({s with rg:=putAt s.rg m x}:St).bK n with
   | none=>rfl
   | some y=>have:=(key y).1 h2; rw [h] at this; cases this
theorem FE {X:Cx} {f:FuncId} {r:Nat} {g:aG} {o:Nat} {p:aG} {rest:List NV} {nm:Nat} (h:∀ n,s.bK n=s'.bK n):qO X f r g o p rest nm s=qO X f r g o p rest nm s':=by
 unfold qO
 simp only []
 have h1:∀ n,({s with rg:=putAt s.rg r none}:St).bK n=({s' with rg:=putAt s'.rg r none}:St).bK n:=fun n=>by rw [wP,wP,h]
 have h2:∀ n,({s with rg:=putAt (putAt s.rg r none) nm (some p)}:St).bK n=({s' with rg:=putAt (putAt s'.rg r none) nm (some p)}:St).bK n:=fun n=>by
  have e1:=wP {s with rg:=putAt s.rg r none} nm (some p) n
  have e2:=wP {s' with rg:=putAt s'.rg r none} nm (some p) n
  rw [h1 n] at e1
  exact e1.trans e2.symm
 rw [kM h2]
theorem IY {X:Cx} {f:FuncId} {args:List NV} {nm:Nat} (h:∀ n,s.bK n=s'.bK n):ju X f args nm s=ju X f args nm s':=by
 unfold ju
 split
 ·rename_i x rest
  rw [nh (s:=s) (s':=s') fun n _=>h n]
  split
  ·rw [FE h]; exact congrArg (abb _) (kM h)
  ·exact kM h
 ·exact kM h
theorem FF {X:Cx} {f:FuncId} {args:List NV} {nm:Nat} (h:∀ n∈args.flatMap NV.names,s.bK n=s'.bK n) (h0:args.flatMap (fun x=>x.gU.flatMap (cW s))=[]):ju X f args nm s=ju X f args nm s':=by
 have h1:=(pV h).symm.trans h0
 have hn:∀ {s0:St} {t:Option TypeId} {x:NV} {rest:List NV},(x::rest).flatMap (fun x=>x.gU.flatMap (cW s0))=[]->gX X.P s0 t x=none:=fun {s0 t x rest} hs=>by
  unfold gX
  split
  ·rename_i t r i c
   simp [NV.gU,cW] at hs
  ·rename_i t r a w i c
   simp [NV.gU,cW] at hs
  ·rfl
 have k0:mD X f args nm s=mD X f args nm s':=by
  unfold mD iD
  have e:∀ s:St,reach s 64 [] []=[]:=fun s=>rfl
  simp only [h0,h1,e,kL (P:=X.P) h,dJ]
 unfold ju
 split
 ·rw [hn h0,hn h1]
  exact k0
 ·exact k0
theorem oE {t:TypeId} {m k:Operand} (hm:s.ev m=s'.ev m) (hk:s.ev k=s'.ev k) (h:∀ n∈(s.ev m).names,s.bK n=s'.bK n):oc P s t m k=oc P s' t m k:=by
 unfold oc
 rw [<- hm,<- hk]
 split
 ·rename_i kt et r key hu hr hkv
  have:s.bK r=s'.bK r:=h r (by rw [x4 hr]; simp [names])
  rw [this]
 ·rfl
theorem vw {sch:List Part}:∀ {parts:List (Nat × Operand)} {j:Nat},(∀ p∈parts,s.ev p.2=s'.ev p.2)->mC sch s j parts=mC sch s' j parts
 | [],_,_=>rfl
 | (i,x)::l,j,h=>by
   simp only [mC]
   rw [h (i,x) (by simp),vw fun p hp=>h p (by simp [hp])]
theorem CO {t:TypeId} {len:Nat} {parts:List (Nat × Operand)} (h:∀ p∈parts,s.ev p.2=s'.ev p.2):kj P s t len parts=kj P s' t len parts:=by
 have e:∀ sch,mC sch s 0 parts=mC sch s' 0 parts:=fun sch=>vw h
 unfold kj
 simp only [e]
theorem Ah {t:TypeId} {x y:NC} {nm:Nat} (h:∀ n,s.bK n=s'.bK n):lG P s t x y nm=lG P s' t x y nm:=by
 have e:∀ z,lE s z=lE s' z:=fun z=>uh fun n _=>h n
 unfold lG
 simp only [e,h]
theorem CP {t:TypeId} {x y:NC} {nm:Nat} (h:∀ n,s.bK n=s'.bK n):pK P s t x y nm=pK P s' t x y nm:=by
 unfold pK
 have e:∀ a,nL s a=nL s' a:=fun a=>jW fun n _=>h n
 simp only [h,e]
theorem IZ {t:TypeId} {x y:NC} (h:∀ n,s.bK n=s'.bK n):Ax P s t x y=Ax P s' t x y:=by
 have e:∀ a,nL s a=nL s' a:=fun a=>jW fun n _=>h n
 unfold Ax Cd
 simp only [h,e]
theorem FG {t:TypeId} {x:NC} (h:∀ n,s.bK n=s'.bK n):tR P s t x=tR P s' t x:=by
 unfold tR
 simp only [h]
theorem FH {t u:TypeId} {x y:NC} {nm:Nat} (h:∀ n,s.bK n=s'.bK n):tQ P s t u x y nm=tQ P s' t u x y nm:=by
 unfold tQ
 have e:∀ a,nL s a=nL s' a:=fun a=>jW fun n _=>h n
 simp only [h,e]
theorem oF:∀ {l:List NS} {xs:List NV},ku l=some xs->l.flatMap NS.names=xs.flatMap NV.names∧l.flatMap (NS.cW s)=xs.flatMap (fun x=>x.gU.flatMap (cW s))
 | [],xs,h=>by simp [ku] at h; subst h; exact ⟨rfl,rfl⟩
 | x::l,xs,h=>by
   simp only [ku] at h
   split at h
   ·rename_i a b h1 h2
    cases h
    obtain ⟨h3,h4⟩:=oF h2
    have h5:x=.v a:=by
     unfold NS.nv at h1
     split at h1
     ·cases h1; rfl
     ·cases h1
    subst h5
    simp only [axA,h3,h4]
    exact ⟨rfl,rfl⟩
   ·cases h
theorem iI {X:Cx} {op:Op} {nm:Nat} (eY:∀ x∈op.operands.toList,s.ev x=s'.ev x)
  (kb:still op=true∨(∀ n,s.bK n=s'.bK n)∨
    (jR X.P op=true∧(cT op=true->op.operands.toList.flatMap (fun x=>(s.ev x).cW s)=[])∧∀ n∈op.operands.toList.flatMap (fun x=>(s.ev x).names),s.bK n=s'.bK n)) :
  ka X op nm s=ka X op nm s':=by
 have hl:fG X.P X.glob s op=fG X.P X.glob s' op:=by
  refine x9 eY ?_
  rcases kb with h | h | ⟨-,-,h⟩
  ·exact .inl h
  ·exact .inr fun n _=>h n
  ·exact .inr h
 unfold ka
 split
 ·rename_i Ic t x y yt
  simp only [Op.operands] at eY
  have e:tS X.P s Ic t x y=tS X.P s' Ic t x y:=by unfold tS; rw [eY x (by simp),eY y (by simp)]
  have e2:jI X.P s Ic t x y=jI X.P s' Ic t x y:=by unfold jI; rw [eY x (by simp),eY y (by simp)]
  rw [e,e2]
  split
  ·rfl
  ·split
   ·rfl
   ·rw [hl]
 ·rename_i c a b
  simp only [Op.operands] at eY
  rw [eY c (by simp),eY a (by simp),eY b (by simp)]
 ·rename_i c
  have dG:c.args.toList.map s.ev=c.args.toList.map s'.ev:=ayO fun x hx=>eY x (by simp [Op.operands,Call.operands]; right; simpa using hx)
  split
  ·rename_i f hcal
   have hf:s.ev f=s'.ev f:=eY f (by simp [Op.operands,Call.operands,hcal])
   rw [<- hf,<- dG]
   split
   ·rename_i g cap l hg AG
    rcases kb with h | h | ⟨hm,hp,h⟩
    ·unfold still at h
     split at h <;> first | (cases h; done) | (simp_all; done)
    ·exact IY h
    ·have hp:=hp (by
      unfold cT
      split
      ·rfl
      ·rename_i Pd
       exfalso
       obtain ⟨cal,a1,a2⟩:=c
       simp only at hcal
       subst hcal
       exact Pd _ _ _ rfl)
     obtain ⟨e1,e2⟩:=oF AG
     have S':(Op.call c).operands.toList=f::c.args.toList:=by simp [Op.operands,Call.operands,hcal]
     have dh:cap=[]:=by
      rw [S',axA,hg] at hp
      have:=(List.append_eq_nil_iff.1 hp).1
      simpa [NS.cW,NV.gU,cW] using this
     subst dh
     refine FF (fun n hn=>h n ?_) ?_
     ·rw [S',axA,ayC]
      right
      rw [List.map_nil,List.append_nil,<- e1,ayQ] at hn
      exact hn
     ·rw [List.map_nil,List.append_nil,<- e2,ayQ]
      rw [S',axA] at hp
      exact (List.append_eq_nil_iff.1 hp).2
   ·rfl
  ·rename_i hcal
   split
   ·rename_i x y t u vV RL
    have hx:s.ev x=s'.ev x:=eY x (by simp [Op.operands,Call.operands,hcal]; exact Array.mem_toList_iff.1 (by rw [vV]; simp))
    have hy:s.ev y=s'.ev y:=eY y (by simp [Op.operands,Call.operands,hcal]; exact Array.mem_toList_iff.1 (by rw [vV]; simp))
    rw [<- hx,<- hy]
    split
    ·split
     ·rcases kb with h | h | ⟨hm,-,-⟩
      ·unfold still at h
       split at h <;> first | (cases h; done) | (simp_all; done)
      ·rw [Ah h,CP h]
      ·unfold jR at hm
       split at hm <;> first | (cases hm; done) | (simp_all; done)
     ·rfl
    ·split
     ·rcases kb with h | h | ⟨hm,-,-⟩
      ·unfold still at h
       split at h <;> first | (cases h; done) | (simp_all; done)
      ·exact FH h
      ·unfold jR at hm
       split at hm <;> first | (cases hm; done) | (simp_all; done)
     ·rfl
   ·rfl
  ·rename_i hcal
   split
   ·rename_i m k t ts vV RL
    have hx:s.ev m=s'.ev m:=eY m (by simp [Op.operands,Call.operands,hcal]; exact Array.mem_toList_iff.1 (by rw [vV]; simp))
    have hy:s.ev k=s'.ev k:=eY k (by simp [Op.operands,Call.operands,hcal]; exact Array.mem_toList_iff.1 (by rw [vV]; simp))
    have e:rT X.P s t m k=rT X.P s' t m k:=by
     unfold rT
     rw [oE hx hy]
     intro n hn
     rcases kb with h | h | ⟨hm,-,-⟩
     ·unfold still at h
      split at h <;> first | (cases h; done) | (simp_all; done)
     ·exact h n
     ·unfold jR at hm
      split at hm <;> first | (cases hm; done) | (simp_all; done)
    rw [e]
   ·rfl
  ·rename_i hcal
   split
   ·rename_i x y t u vV RL
    have hx:s.ev x=s'.ev x:=eY x (by simp [Op.operands,Call.operands,hcal]; exact Array.mem_toList_iff.1 (by rw [vV]; simp))
    have hy:s.ev y=s'.ev y:=eY y (by simp [Op.operands,Call.operands,hcal]; exact Array.mem_toList_iff.1 (by rw [vV]; simp))
    rw [<- hx,<- hy]
    split
    ·rcases kb with h | h | ⟨hm,-,-⟩
     ·unfold still at h
      split at h <;> first | (cases h; done) | (simp_all; done)
     ·exact IZ h
     ·unfold jR at hm
      split at hm <;> first | (cases hm; done) | (simp_all; done)
    ·rfl
   ·rfl
  ·rename_i hcal
   split
   ·rename_i x t vV RL
    have hx:s.ev x=s'.ev x:=eY x (by simp [Op.operands,Call.operands,hcal]; exact Array.mem_toList_iff.1 (by rw [vV]; simp))
    rw [<- hx]
    split
    ·rcases kb with h | h | ⟨hm,-,-⟩
     ·unfold still at h
      split at h <;> first | (cases h; done) | (simp_all; done)
     ·exact FG h
     ·unfold jR at hm
      split at hm <;> first | (cases hm; done) | (simp_all; done)
    ·rfl
   ·rfl
  ·rw [hl]
 ·rename_i src dst x
  have hx:s.ev x=s'.ev x:=eY x (by simp [Op.operands])
  have hb:bytesOf X.P s src dst x=bytesOf X.P s' src dst x:=by
   unfold bytesOf
   rw [<- hx]
   split
   ·rename_i r off len hv
    have he:nL s (.h r off len)=nL s' (.h r off len):=by
     apply jW
     intro n hn
     rcases kb with h | h | ⟨-,-,h⟩
     ·simp [still] at h
     ·exact h n
     ·refine h n (List.mem_flatMap.2 ⟨x,by simp [Op.operands],?_⟩)
      rw [hv]
      simpa [NS.names,NV.names,NV.gU] using hn
    rw [he]
   ·rfl
   ·rfl
  have hc:rW X.P s src dst x=rW X.P s' src dst x:=by
   unfold rW
   rw [<- hx]
   split
   ·rename_i r len e hv _
    have he:s.bK r=s'.bK r:=by
     rcases kb with h | h | ⟨-,-,h⟩
     ·simp [still] at h
     ·exact h r
     ·refine h r (List.mem_flatMap.2 ⟨x,by simp [Op.operands],?_⟩)
      rw [hv]
      simp [NS.names,NV.names,NV.gU,names]
    rw [he]
   ·rfl
  rw [<- hb,<- hc,hl]
 ·rename_i t x
  have hx:s.ev x=s'.ev x:=eY x (by simp [Op.operands])
  have hb:oe X.P s t x=oe X.P s' t x:=by
   unfold oe
   rw [<- hx]
   split
   ·rename_i r n e hv _
    have he:s.bK r=s'.bK r:=by
     rcases kb with h | h | ⟨-,-,h⟩
     ·simp [still] at h
     ·exact h r
     ·refine h r (List.mem_flatMap.2 ⟨x,by simp [Op.operands],?_⟩)
      rw [hv]
      simp [NS.names,NV.names,NV.gU,names]
    rw [he]
   ·rfl
  rw [<- hb,hl]
 ·rename_i t m k ok
  have hx:s.ev m=s'.ev m:=eY m (by simp [Op.operands])
  have hy:s.ev k=s'.ev k:=eY k (by simp [Op.operands])
  have e:rR X.P s t m k=rR X.P s' t m k:=by
   unfold rR
   rw [oE hx hy]
   intro n hn
   rcases kb with h | h | ⟨-,-,h⟩
   ·simp [still] at h
   ·exact h n
   ·exact h n (List.mem_flatMap.2 ⟨m,by simp [Op.operands],hn⟩)
  rw [e]
 ·rename_i t m k v
  have hx:s.ev m=s'.ev m:=eY m (by simp [Op.operands])
  have hy:s.ev k=s'.ev k:=eY k (by simp [Op.operands])
  have hz:s.ev v=s'.ev v:=eY v (by simp [Op.operands])
  have e:rS X.P s t m k v=rS X.P s' t m k v:=by
   unfold rS
   rw [oE hx hy,hz]
   intro n hn
   rcases kb with h | h | ⟨-,-,h⟩
   ·simp [still] at h
   ·exact h n
   ·exact h n (List.mem_flatMap.2 ⟨m,by simp [Op.operands],hn⟩)
  rw [e]
 ·rename_i t len parts
  have e:kj X.P s t len parts.toList=kj X.P s' t len parts.toList:=CO fun p hp=>eY p.2 (by
   simp only [Op.operands,List.mem_map]
   exact ⟨p,hp,rfl⟩)
  rw [e,hl]
 ·rfl
 ·rw [hl]
theorem ya {α β:Type} {f g:α->Option β}:∀ {l:List α},(∀ x∈l,f x=g x)->dJ f l=dJ g l
 | [],_=>rfl
 | x::l,h=>by
   simp only [dJ]
   rw [h x (by simp),ya fun y hy=>h y (by simp [hy])]
theorem kN {C:Nat->Prop} (hC:∀ n,C n->s.bK n=s'.bK n) (AS:∀ n g,C n->s.bK n=some g->∀ m∈g.body.names,C m) :
  ∀ (k:Nat) (l acc:List Nat),(∀ n∈l,C n)->reach s k l acc=reach s' k l acc∧((∀ n∈acc,C n)->∀ n∈reach s k l acc,C n)
 | 0,_,_,_=>⟨rfl,fun h=>h⟩
 | k+1,[],_,_=>⟨rfl,fun h=>h⟩
 | k+1,n::l,acc,hl=>by
   have hn:=hl n (by simp)
   have AG : ∀ m∈l,C m:=fun m hm=>hl m (by simp [hm])
   simp only [reach,<- hC n hn]
   split
   ·exact kN hC AS k l acc AG
   ·split
    ·rename_i g hg
     have hh:∀ m∈g.body.names++l,C m:=fun m hm=>(List.mem_append.1 hm).elim (AS n g hn hg m) (AG m)
     obtain ⟨h1,h2⟩:=kN hC AS k (g.body.names++l) (acc++[n]) hh
     refine ⟨h1,fun ha=>h2 fun m hm=>?_⟩
     rcases List.mem_append.1 hm with hm | hm
     ·exact ha m hm
     ·rw [ayx] at hm
      rw [hm]; exact hn
    ·exact kN hC AS k l acc AG
theorem FI {X:Cx} {f:FuncId} {args:List NV} {nm:Nat} {C:Nat->Prop} (h:∀ n∈args.flatMap NV.names,s.bK n=s'.bK n) (hC:∀ n,C n->s.bK n=s'.bK n)
  (AS:∀ n g,C n->s.bK n=some g->∀ m∈g.body.names,C m) (hs:∀ n∈args.flatMap (fun x=>x.gU.flatMap (cW s)),C n)
  (hf:∀ x rest,args=x::rest->gX X.P s ((X.P.funcs[f]?).bind fun fn=>fn.params.toList.head?) x=none):ju X f args nm s=ju X f args nm s':=by
 obtain ⟨h1,h2⟩:=kN hC AS 64 _ [] hs
 have k0:mD X f args nm s=mD X f args nm s':=by
  unfold mD iD
  rw [<- pV h,<- h1]
  have e:dJ (fun n=>(s.bK n).bind (cX (bZ (dz (reach s 64 (args.flatMap fun x=>x.gU.flatMap (cW s)) []))))) (reach s 64 (args.flatMap fun x=>x.gU.flatMap (cW s)) []) =
    dJ (fun n=>(s'.bK n).bind (cX (bZ (dz (reach s 64 (args.flatMap fun x=>x.gU.flatMap (cW s)) []))))) (reach s 64 (args.flatMap fun x=>x.gU.flatMap (cW s)) []):=
   ya fun n hn=>by rw [hC n (h2 (fun _ h=>by cases h) n hn)]
  simp only [e,kL (P:=X.P) h]
 unfold ju
 split
 ·rename_i x rest
  have hfx:gX X.P s' ((X.P.funcs[f]?).bind fun fn=>fn.params.toList.head?) x=none:=by
   rw [<- nh (s:=s) (s':=s') (fun n hn=>h n (by rw [axA,ayC]; exact .inl hn))]
   exact hf x rest rfl
  rw [hf x rest rfl,hfx]
  exact k0
 ·exact k0
theorem Ai {op:Op} (eY:∀ x∈op.operands.toList,s.ev x=s'.ev x):jT s op=jT s' op:=by
 unfold jT
 split
 ·rename_i f args ats
  have dG:args.toList.map s.ev=args.toList.map s'.ev:=ayO fun x hx=>eY x (by simp [Op.operands,Call.operands]; right; simpa using hx)
  rw [eY f (by simp [Op.operands,Call.operands]),dG]
 ·rfl
theorem oJ {op:Op} {f:FuncId} {args:List NV} (h:jT s op=some (f,args)) {n:Nat} (hn:n∈args.flatMap NV.names):n∈op.operands.toList.flatMap fun x=>(s.ev x).names:=by
 unfold jT at h
 split at h
 case h_2=>cases h
 rename_i f' xo ats
 split at h
 case h_2=>cases h
 rename_i g cap l hg hl
 cases h
 obtain ⟨e1,-⟩:=oF (s:=s) hl
 have S':(Op.call {callee:=.value f',args:=xo,argTypes:=ats}).operands.toList=f'::xo.toList:=by simp [Op.operands,Call.operands]
 rw [S',axA,ayC]
 rw [ayP,ayC] at hn
 rcases hn with hn | hn
 ·right
  rw [<- e1,ayQ] at hn
  exact hn
 ·left
  rw [hg]
  rw [ayQ,ayK] at hn
  obtain ⟨y,hy,hn⟩:=hn
  have hn:n=y.1:=by simpa [NV.names,NV.gU,names] using hn
  simp only [NS.names,NV.names,NV.gU,axA,List.flatMap_nil,List.append_nil,names]
  rw [hn]
  exact List.mem_map.2 ⟨y,hy,rfl⟩
theorem sD {P:Program} {base:Nat} {op:Op} (eY:∀ x∈op.operands.toList,s.ev x=s'.ev x) (h:∀ n∈op.operands.toList.flatMap (fun x=>(s.ev x).names),s.bK n=s'.bK n) (hb:∀ n,n<base->s.bK n=s'.bK n) :
  kz P base s op=kz P base s' op:=by
 unfold kz
 rw [<- Ai eY]
 split
 ·rename_i f args ha
  have hn:∀ n∈args.flatMap NV.names,s.bK n=s'.bK n:=fun n hn=>h n (oJ ha hn)
  congr 1
  ·congr 1
   ·rw [pV hn]
   ·have e:∀ l:List Nat,(∀ n∈l,n<base)->(l.all fun n=>match s.bK n with | some g=>g.body.names.all fun m=>decide (m<base) | none=>true)=(l.all fun n=>match s'.bK n with | some g=>g.body.names.all fun m=>decide (m<base) | none=>true):=by
     intro l hl
     induction l with
     | nil=>rfl
     | cons n l ih=>
       rw [List.all_cons,List.all_cons,hb n (hl n (by simp)),ih fun m hm=>hl m (by simp [hm])]
    exact e _ fun n hn=>List.mem_range.1 hn
  ·split
   ·rename_i x rest
    rw [nh (s:=s) (s':=s') fun n hm=>hn n (by rw [axA,ayC]; exact .inl hm)]
   ·rfl
 ·rfl
theorem I0 {X:Cx} {op:Op} {nm base:Nat} (dk:cT op=true) (eY:∀ x∈op.operands.toList,s.ev x=s'.ev x) (h:∀ n∈op.operands.toList.flatMap (fun x=>(s.ev x).names),s.bK n=s'.bK n) (hb:∀ n,n<base->s.bK n=s'.bK n)
  (fI:kz X.P base s op=true):ka X op nm s=ka X op nm s':=by
 unfold cT at dk
 split at dk
 case h_2=>cases dk
 rename_i f args ats
 have dG:args.toList.map s.ev=args.toList.map s'.ev:=ayO fun x hx=>eY x (by simp [Op.operands,Call.operands]; right; simpa using hx)
 have hf:=eY f (by simp [Op.operands,Call.operands])
 show (match s.ev f,ku (args.toList.map s.ev) with
  | .v (.c (.cl f cap)),some l=>ju X f (l++cap.map fun (x:Nat × Nat × Nat)=>NV.c (.p x.1 x.2.1 x.2.2)) nm s
  | _,_=>Tr.fail)=(match s'.ev f,ku (args.toList.map s'.ev) with
  | .v (.c (.cl f cap)),some l=>ju X f (l++cap.map fun (x:Nat × Nat × Nat)=>NV.c (.p x.1 x.2.1 x.2.2)) nm s'
  | _,_=>Tr.fail)
 rw [<- hf,<- dG]
 split
 ·rename_i g cap l hg hl
  have ha:jT s (.call {callee:=.value f,args:=args,argTypes:=ats})=some (g,l++cap.map fun x=>.c (.p x.1 x.2.1 x.2.2)):=by
   show (match s.ev f,ku (args.toList.map s.ev) with
    | .v (.c (.cl f cap)),some l=>some (f,l++cap.map fun (x:Nat × Nat × Nat)=>NV.c (.p x.1 x.2.1 x.2.2))
    | _,_=>none)=_
   rw [hg,hl]
  unfold kz at fI
  rw [ha] at fI
  simp only [ayu] at fI
  obtain ⟨⟨h1,h2⟩,h3⟩:=fI
  refine FI (C:=fun n=>n<base) (fun n hn=>h n (oJ ha hn)) hb (fun n g' hn rY m hm=>?_) (fun n hn=>of_decide_eq_true (List.all_eq_true.1 h1 n hn)) fun x rest hx=>?_
  ·have h4:=List.all_eq_true.1 h2 n (List.mem_range.2 hn)
   rw [rY] at h4
   exact of_decide_eq_true (List.all_eq_true.1 h4 m hm)
  ·rw [hx] at h3
   simpa using h3
 ·rfl
theorem wb {X:Cx} {t:TypeId} {a v:Operand} {nm:Nat} (eY:∀ x∈(Op.store t a v).operands.toList,s.ev x=s'.ev x)
  (kb:∀ n∈(Op.store t a v).operands.toList.flatMap (fun x=>(s.ev x).names),s.bK n=s'.bK n):ka X (.store t a v) nm s=ka X (.store t a v) nm s':=by
 have hl:=x9 (P:=X.P) (gl:=X.glob) eY (.inr kb)
 show (fG X.P X.glob s (.store t a v)).OV nm=(fG X.P X.glob s' (.store t a v)).OV nm
 rw [hl]
end
def A1 (ops:Array Oper) (o:Oper) (E:St->Tr fQ) (s:St):Tr fQ:=
 match o.guard with
 | none=>E s
 | some (j,want)=>
   match pL ops j with
   | some d=>
     (match s.fr[d]? with
      | some (.v (.c (.b x)))=>if x=want then E s else .ret {up:=[],v:=.tu []}
      | some (.tu [])=>.ret {up:=[],v:=.tu []}
      | _=>.fail)
   | none=>.fail
theorem ni {s:St} {d:Tmp} {x:Bool} (hd:s.fr[d]? = some (.v (.c (.b x)))):s.put (some d) (lit x)=s:=by
 show St.mk (s.fr.set d _) s.rg=s
 have:s.fr.set d (Nx.lit x)=s.fr:=List.ext_getElem? fun j=>by
  rw [List.getElem?_set]
  split
  ·rename_i e; subst e
   split
   ·rw [hd]; rfl
   ·rename_i hl; rw [axD (by omega)] at hd; cases hd
  ·rfl
 rw [this]
theorem FJ {β:Type} {ops:Array Oper} {o:Oper} {E:St->Tr fQ} {s:St} {K:St->Tr β} {R:β->Prop} (h:(xp ops o E s K).run R):(A1 ops o E s).run fun e=>(K (s.app e o.dst)).run R:=by
 unfold xp at h
 unfold A1
 split at h
 ·rename_i hg; rw [hg]; rw [Tr.run_bind] at h; exact h
 ·rename_i j want hg
  rw [hg]
  simp only
  split at h
  case h_2=>exact h.elim
  rename_i d hd
  rw [hd]
  simp only
  split at h
  case h_3=>exact h.elim
  case h_2 hx=>
   rw [hx]
   exact h
  rename_i x hx
  rw [hx]
  simp only
  have h':=aW.1 h
  clear h
  rcases h' with ⟨rfl,h⟩ | ⟨rfl,h⟩ <;> rw [ni hx] at h <;> cases want <;> simp only [if_true,if_false,Bool.false_eq_true,Bool.true_eq_false] <;> first | exact h | (rw [Tr.run_bind] at h; exact h)
theorem ia {α β:Type} {f g:α->List β}:∀ {l:List α},(∀ x∈l,f x=g x)->l.flatMap f=l.flatMap g
 | [],_=>rfl
 | x::l,h=>by rw [axA,axA,h x (by simp),ia fun y hy=>h y (by simp [hy])]
section
variable {X:Cx} {ops:Array Oper} {base:Nat}
def TD (X:Cx) (ops:Array Oper) (base i:Nat) (o:Oper) (s:St):Tr fQ:=A1 ops o (oh X ops base i o) s
def nj (X:Cx) (ops:Array Oper) (base:Nat):List Nat->St->(St->Prop)->Prop
 | [],s,K=>K s
 | i::rest,s,K=>∃ o,ops[i]? = some o∧(TD X ops base i o s).run fun e=>nj X ops base rest (s.app e o.dst) K
theorem FK {β:Type}:∀ {l:List Nat} {s:St} {K:St->Tr β} {R:β->Prop},(xu X ops base l s K).run R->nj X ops base l s (fun s'=>(K s').run R)
 | [],_,_,_,h=>h
 | i::l,s,K,R,h=>by
   simp only [xu] at h
   split at h
   ·rename_i o ho
    exact ⟨o,ho,Tr.aN _ (fun e he=>FK he) (FJ h)⟩
   ·exact h.elim
def Good (P:Program) (ops:Array Oper) (base i:Nat) (o:Oper) (s:St) (e:fQ):Prop:=
 ((still o.op||look o.op)=true->e.up=[])∧(jS P ops i o=true->iV base i e=true)∧(∀ t,storeAt ops o=some t->∀ p∈e.up,p.1∈(s.ev (.tmp t)).names∧p.1<base∧p.1∈o.op.operands.toList.flatMap fun x=>(s.ev x).names)∧(e.up=[]∨fW P ops base s i o=true)∧(uX P ops i o=true∨beside P ops i o=true->∀ p∈e.up,base<=p.1∧p.1<base+16 * ops.size)∧(beside P ops i o=true->rX ops i=true->iV base i e=true)∧(∀ t,kv ops o=some t->lone ops i=false->∀ p∈e.up,(p.1∈(s.ev (.tmp t)).names∧p.1<base)∨(base+16 * i<=p.1∧p.1<base+16 * i+16))
theorem gJ:∀ {f:Nat} {t u:Tmp},rootOf ops f t=some u->∀ (k:Nat) (x:Oper),ops[k]? = some x->x.dst≠some u
 | 0,_,_,h=>by simp [rootOf] at h
 | f+1,t,u,h=>by
   simp only [rootOf] at h
   split at h
   ·rename_i hn
    cases h
    intro k x hx hd
    have:=List.find?_eq_none.1 hn x (by rw [<- ayM] at hx; exact List.mem_of_getElem? hx)
    simp [hd] at this
   ·split at h
    ·exact gJ h
    ·exact gJ h
    ·exact gJ h
    ·exact gJ h
    ·cases h
theorem fD {o:Oper} {t:Tmp} (h:storeAt ops o=some t):(∃ ty a v,o.op=.store ty a v)∧∀ (k:Nat) (x:Oper),ops[k]? = some x->x.dst≠some t:=by
 unfold storeAt at h
 split at h
 ·rename_i ty u v ho
  exact ⟨⟨ty,_,v,ho⟩,gJ h⟩
 ·cases h
theorem I1 {o:Oper} {t:Tmp} (h:kv ops o=some t):cT o.op=false∧look o.op=false∧still o.op=false∧∀ (k:Nat) (x:Oper),ops[k]? = some x->x.dst≠some t:=by
 unfold kv at h
 split at h
 ·rename_i ho
  split at h
  ·rw [ho]
   exact ⟨rfl,rfl,rfl,gJ h⟩
  ·cases h
 ·cases h
theorem vz {i:Nat} {s:St} {o:Oper} {e:fQ} (h:jB ops base i s o e=true):∀ t,kv ops o=some t->lone ops i=false->∀ p∈e.up,(p.1∈(s.ev (.tmp t)).names∧p.1<base)∨(base+16 * i<=p.1∧p.1<base+16 * i+16):=by
 intro t ht hl p hp
 unfold jB at h
 rw [ht] at h
 simp only [hl,ayR] at h
 have:=List.all_eq_true.1 h p hp
 rw [ayq,ayu,ayu,decide_eq_true_eq,decide_eq_true_eq,decide_eq_true_eq] at this
 exact this.imp (fun h=>⟨List.contains_iff_mem.1 h.1,h.2⟩) id
theorem Pt {P:Program} {s:St} {t:TypeId} {a:NC} {x:NV} {c:List Bool} {n:Nat} {g:aG} (h:oa P s t a x=some (c,n,g)):n∈names a:=by
 unfold oa at h
 split at h
 case isFalse=>cases h
 split at h
 case h_3=>cases h
 case h_1=>
  rename_i r o w i cc
  split at h
  case h_2=>cases h
  show n∈[r]
  rw [ayx]
  repeat' (first | (cases h; done) | (cases h; rfl) | split at h)
 rename_i r i cc
 split at h
 case h_2=>cases h
 show n∈[r]
 rw [ayx]
 repeat' (first | (cases h; done) | (cases h; rfl) | split at h)
theorem Pu {t:TypeId} {a v:Operand} {nm:Nat} {s:St} {R:fQ->Prop} (hr:(ka X (.store t a v) nm s).run R):(ka X (.store t a v) nm s).run fun e=>(∀ p∈e.up,p.1∈(s.ev a).names)∧R e:=by
 have e:ka X (.store t a v) nm s=(fG X.P X.glob s (.store t a v)).OV nm:=rfl
 rw [e] at hr ⊢
 simp only [fG] at hr ⊢
 split at hr
 ·rename_i ti y z h1 h2 h3
  split at hr
  ·rename_i c n g hn
   obtain ⟨h4,h5⟩:=(bC _ _ _).1 hr
   refine (bC _ _ _).2 ⟨h4,fun p hp=>?_,h5⟩
   rw [ayx] at hp
   rw [hp,x4 h2]
   exact Pt hn
  ·exact hr
 ·exact hr
theorem Pv {op:Op} {nm:Nat} {s:St} {R:fQ->Prop} (h0:(still op||look op)=true) (hr:(ka X op nm s).run R):(ka X op nm s).run fun e=>e.up=[]∧R e:=by
 have val:∀ {r:R1},(∀ c g v,r≠.new c g v)->(∀ c n g,r≠.pH c n g)->(r.OV nm).run R->(r.OV nm).run fun e=>e.up=[]∧R e:=by
  intro r h1 h2 h
  cases r with
  | no=>exact h
  | val c v=>obtain ⟨h3,h4⟩:=(bC _ _ _).1 h; exact (bC _ _ _).2 ⟨h3,rfl,h4⟩
  | new c g v=>exact (h1 _ _ _ rfl).elim
  | pH c n g=>exact (h2 _ _ _ rfl).elim
 have ofv:∀ x,(∀ c g v,zU x≠.new c g v)∧(∀ c n g,zU x≠.pH c n g):=by
  intro x
  cases x with
  | none=>exact ⟨fun _ _ _ h=>by simp [zU] at h,fun _ _ _ h=>by simp [zU] at h⟩
  | some x=>exact ⟨fun _ _ _ h=>by simp [zU] at h,fun _ _ _ h=>by simp [zU] at h⟩
 have hl:(∀ c g v,fG X.P X.glob s op≠.new c g v)∧(∀ c n g,fG X.P X.glob s op≠.pH c n g):=by
  rw [ayq] at h0
  rcases h0 with h | h
  ·unfold still at h
   split at h <;> first
    | (cases h; done)
    | (simp only [fG]; constructor <;> intro a b c <;> repeat' (first | (exact (ofv _).1 _ _ _) | (exact (ofv _).2 _ _ _) | (intro h'; cases h'; done) | split))
  ·unfold look at h
   split at h <;> first
    | (cases h; done)
    | (simp only [fG]; constructor <;> intro a b c <;> repeat' (first | (exact (ofv _).1 _ _ _) | (exact (ofv _).2 _ _ _) | (intro h'; cases h'; done) | split))
 unfold ka at hr ⊢
 split at hr
 ·split at hr
  ·simp only [Tr.run] at hr ⊢
   rcases aW.1 hr with ⟨h1,h2⟩ | ⟨h1,h2⟩
   ·exact aW.2 (.inl ⟨h1,fun i hi=>⟨trivial,h2 i hi⟩⟩)
   ·exact aW.2 (.inr ⟨h1,trivial,h2⟩)
  ·split at hr
   ·exact ⟨rfl,hr⟩
   ·exact val hl.1 hl.2 hr
 ·split at hr
  ·simp only [Tr.run] at hr ⊢
   rcases aW.1 hr with ⟨h1,h2⟩ | ⟨h1,h2⟩
   ·exact aW.2 (.inl ⟨h1,trivial,h2⟩)
   ·exact aW.2 (.inr ⟨h1,trivial,h2⟩)
  ·exact hr
 ·rename_i c
  split at hr
  ·exfalso
   rw [ayq] at h0
   rcases h0 with h | h
   ·unfold still at h
    split at h <;> first | (cases h; done) | (simp_all; done)
   ·unfold look at h
    split at h <;> first | (cases h; done) | (simp_all; done)
  ·exfalso
   rw [ayq] at h0
   rcases h0 with h | h
   ·unfold still at h
    split at h <;> first | (cases h; done) | (simp_all; done)
   ·unfold look at h
    split at h <;> first | (cases h; done) | (simp_all; done)
  ·exfalso
   rw [ayq] at h0
   rcases h0 with h | h
   ·unfold still at h
    split at h <;> first | (cases h; done) | (simp_all; done)
   ·unfold look at h
    split at h <;> first | (cases h; done) | (simp_all; done)
  ·exfalso
   rw [ayq] at h0
   rcases h0 with h | h
   ·unfold still at h
    split at h <;> first | (cases h; done) | (simp_all; done)
   ·unfold look at h
    split at h <;> first | (cases h; done) | (simp_all; done)
  ·exfalso
   rw [ayq] at h0
   rcases h0 with h | h
   ·unfold still at h
    split at h <;> first | (cases h; done) | (simp_all; done)
   ·unfold look at h
    split at h <;> first | (cases h; done) | (simp_all; done)
  ·exact val hl.1 hl.2 hr
 ·simp [still,look] at h0
 ·simp [still,look] at h0
 ·simp [still,look] at h0
 ·simp [still,look] at h0
 ·simp [still,look] at h0
 ·simp [still,look] at h0
 ·exact val hl.1 hl.2 hr
theorem sE {β:Type} {s:St} {k:Tr β} {R:β->Prop}:∀ {l:List (Nat × Option aG)},(xr base s l k).run R->(∀ u∈l,u.1<base->s.rg[u.1]? = some u.2)∧k.run R
 | [],h=>⟨fun _ hu=>(by cases hu),h⟩
 | (n,g)::l,h=>by
   unfold xr at h
   split at h
   ·rename_i hn
    split at h
    ·rename_i g' hg
     have he:g'=g:=h.1
     have hk:(xr base s l k).run R:=h.2
     subst he
     obtain ⟨h1,h2⟩:=sE hk
     refine ⟨fun u hu hb=>?_,h2⟩
     rcases List.mem_cons.1 hu with rfl | hu
     ·exact hg
     ·exact h1 u hu hb
    ·exact h.elim
   ·rename_i hn
    obtain ⟨h1,h2⟩:=sE h
    refine ⟨fun u hu hb=>?_,h2⟩
    rcases List.mem_cons.1 hu with rfl | hu
    ·exact absurd hb (of_decide_eq_false hn)
    ·exact h1 u hu hb
theorem I2 {l:List (Option aG)} {n:Nat} {g:Option aG} (h:l[n]? = some g):putAt l n g=l:=by
 obtain ⟨hn,he⟩:=List.getElem?_eq_some_iff.1 h
 unfold putAt
 rw [if_pos hn]
 apply List.ext_getElem?
 intro q
 rw [List.getElem?_set]
 split
 ·rename_i e; subst e
  first | exact h.symm | (rw [if_pos hn]; exact h.symm)
 ·rfl
theorem Pw {l:List (Option aG)} {n m:Nat} {g x:Option aG} (h:l[m]? = some x) (b9:m≠n):(putAt l n g)[m]? = some x:=by
 obtain ⟨hm,-⟩:=List.getElem?_eq_some_iff.1 h
 unfold putAt
 split
 ·rw [ayS (fun e=>b9 e.symm)]; exact h
 ·rw [List.append_assoc,ax6 hm]; exact h
theorem CQ:∀ {l:List (Nat × Option aG)} {s:St},(∀ u∈l,u.1<base->s.rg[u.1]? = some u.2)->s.fR (l.filter fun u=>decide (base<=u.1))=s.fR l
 | [],_,_=>rfl
 | (n,g)::l,s,h=>by
   by_cases hn:base<=n
   ·rw [List.filter_cons_of_pos (by simpa using hn)]
    show (s.cn n g).fR _=(s.cn n g).fR l
    refine CQ fun u hu hb=>?_
    exact Pw (h u (ayT _ hu) hb) (by omega)
   ·rw [List.filter_cons_of_neg (by simpa using hn)]
    have e:s.cn n g=s:=by
     unfold St.cn
     rw [I2 (h (n,g) (List.mem_cons_self ..) (by omega))]
    show s.fR _=(s.cn n g).fR l
    rw [e]
    exact CQ fun u hu hb=>h u (ayT _ hu) hb
theorem CS {β:Type} {s:St} {k:Tr β} {R:β->Prop}:∀ {l:List (Nat × Option aG)},(∀ u∈l,u.1<base->s.rg[u.1]? = some u.2)->k.run R->(xr base s l k).run R
 | [],_,hk=>hk
 | (n,g)::l,h,hk=>by
   unfold xr
   by_cases hn:n<base
   ·rw [axv hn,h (n,g) (List.mem_cons_self ..) hn]
    exact ⟨rfl,CS (fun u hu=>h u (ayT _ hu)) hk⟩
   ·rw [axw hn]
    exact CS (fun u hu=>h u (ayT _ hu)) hk
theorem I3 {P:Program} {i:Nat} {o:Oper} {s:St} {e:fQ} {R:fQ->Prop} (h1:(still o.op||look o.op)=true->e.up=[]) (h2:jS P ops i o=true->iV base i e=true)
  (h3:∀ t,storeAt ops o=some t->∀ p∈e.up,p.1∈(s.ev (.tmp t)).names∧p.1<base∧p.1∈o.op.operands.toList.flatMap fun x=>(s.ev x).names) (h4:fW P ops base s i o=true)
  (h5:uX P ops i o=true->∀ p∈e.up,base<=p.1∧p.1<base+16 * ops.size) (h7:jB ops base i s o e=true) (h:(qn P ops base i o s e).run R):(qn P ops base i o s e).run fun e=>Good P ops base i o s e∧R e:=by
 unfold qn at h ⊢
 split at h
 ·rename_i hb
  split at h
  ·rename_i hl
   rw [ayu] at hl
   obtain ⟨hl,LG⟩:=hl
   obtain ⟨k1,k2⟩:=sE h
   refine CS k1 ⟨⟨fun hs=>?_,fun hm=>?_,fun t ht p hp=>h3 t ht p (List.mem_filter.1 hp).1,.inr h4,fun _ p hp=>?_,fun _ ha=>?_,fun t ht hl p hp=>vz h7 t ht hl p (List.mem_filter.1 hp).1⟩,k2⟩
   ·show e.up.filter _=[]
    rw [h1 hs]
    rfl
   ·have:=h2 hm
    unfold iV at this ⊢
    rw [ayU] at this ⊢
    exact fun p hp=>this p (List.mem_filter.1 hp).1
   ·obtain ⟨q1,q2⟩:=List.mem_filter.1 hp
    unfold aoy at hl
    exact ⟨of_decide_eq_true q2,of_decide_eq_true (List.all_eq_true.1 hl p q1)⟩
   ·rw [ha] at LG
    simpa using LG
  ·exact h.elim
 ·rename_i hb
  exact ⟨⟨h1,h2,h3,.inr h4,fun hm p hp=>hm.elim (fun hm=>h5 hm p hp) fun hm=>by (rw [hb] at hm; cases hm),fun hm=>by (rw [hb] at hm; cases hm),vz h7⟩,h⟩
theorem yb {i:Nat} {o:Oper} {s:St} {R:fQ->Prop} (hr:(oh X ops base i o s).run R):(oh X ops base i o s).run fun e=>Good X.P ops base i o s e∧R e:=by
 unfold oh at hr ⊢
 split at hr
 ·rename_i kK
  have fI:fW X.P ops base s i o=true:=by
   rw [ayu,ayu,ayu] at kK
   exact kK.1.1.2
  rw [Tr.run_bind] at hr ⊢
  have key:(ka X o.op (base+16 * i) s).run fun e=>(((still o.op||look o.op)=true->e.up=[])∧(∀ t,storeAt ops o=some t->∀ p∈e.up,p.1∈(s.ev (.tmp t)).names∧p.1<base∧p.1∈o.op.operands.toList.flatMap fun x=>(s.ev x).names))∧(match (!jS X.P ops i o||iV base i e)&&(!uX X.P ops i o||Sd base ops.size e)&&jB ops base i s o e with | true=>qn X.P ops base i o s e | false=>Tr.fail).run R:=by
   by_cases hs:(still o.op||look o.op)=true
   ·refine Tr.aN _ (fun e he=>⟨⟨fun _=>he.1,fun t ht=>?_⟩,he.2⟩) (Pv hs hr)
    obtain ⟨⟨ty,a,v,dk⟩,-⟩:=fD ht
    rw [dk] at hs
    cases hs
   ·cases fv:storeAt ops o with
    | none=>exact Tr.aN _ (fun e he=>⟨⟨fun h=>(hs h).elim,fun t ht=>by cases ht⟩,he⟩) hr
    | some t=>
      obtain ⟨⟨ty,a,v,dk⟩,-⟩:=fD fv
      have ff:(∀ n∈(s.ev (.tmp t)).names,n<base)∧∀ n∈(s.ev a).names,n∈(s.ev (.tmp t)).names:=by
       unfold fW at fI
       have hn:mE X.P ops o=true:=by unfold mE; rw [fv]; rfl
       have S1 : still o.op=false:=by rw [dk]; rfl
       rw [S1,hn,fv,dk] at fI
       simp only [ayV,ayW,ayR,ayu,ayU,decide_eq_true_eq] at fI
       exact ⟨fI.1.1,fun n hn=>List.contains_iff_mem.1 (fI.1.2 n hn)⟩
      rw [dk] at hr ⊢
      refine Tr.aN _ (fun e he=>⟨⟨fun h=>absurd h Bool.false_ne_true,fun t' E7 p hp=>?_⟩,he.2⟩) (Pu hr)
      cases E7
      have hm:=ff.2 _ (he.1 p hp)
      exact ⟨hm,ff.1 _ hm,by simp [Op.operands,he.1 p hp]⟩
  refine Tr.aN _ (fun e he=>?_) key
  obtain ⟨⟨h1,h1'⟩,h2⟩:=he
  cases hm:((!jS X.P ops i o||iV base i e)&&(!uX X.P ops i o||Sd base ops.size e)&&jB ops base i s o e) with
  | false=>rw [hm] at h2; exact h2
  | true=>
    rw [hm] at h2
    rw [ayu,ayu] at hm
    obtain ⟨hm,hgr⟩:=hm
    refine I3 h1 (fun h=>?_) h1' fI (fun h p hp=>?_) hgr h2
    ·have hm:=hm.1
     rw [h] at hm
     simpa using hm
    ·have hm:=hm.2
     rw [h] at hm
     have hm:Sd base ops.size e=true:=by simpa using hm
     unfold Sd at hm
     have:=List.all_eq_true.1 hm p hp
     simpa [ayu] using this
 ·exact hr
theorem LU {i:Nat} {o:Oper} {s:St} {R:fQ->Prop} (hr:(TD X ops base i o s).run R):(TD X ops base i o s).run fun e=>Good X.P ops base i o s e∧R e:=by
 unfold TD A1 at hr ⊢
 split at hr
 ·exact yb hr
 ·split at hr
  ·split at hr
   ·split at hr
    ·rename_i h; rw [if_pos h]; exact yb hr
    ·rename_i h
     rw [if_neg h]
     exact ⟨⟨fun _=>rfl,fun _=>rfl,fun _ _ _ hp=>absurd hp (by simp),.inl rfl,fun _ p hp=>absurd hp (by simp),fun _ _=>rfl,fun _ _ _ _ hp=>absurd hp (by simp)⟩,hr⟩
   ·exact ⟨⟨fun _=>rfl,fun _=>rfl,fun _ _ _ hp=>absurd hp (by simp),.inl rfl,fun _ p hp=>absurd hp (by simp),fun _ _=>rfl,fun _ _ _ _ hp=>absurd hp (by simp)⟩,hr⟩
   ·exact hr
  ·exact hr
theorem I4 {l:List (Option aG)} {n m:Nat} {x y:Option aG} (hn:n<l.length) (hm:m<l.length) (b9:n≠m):putAt (putAt l n x) m y=putAt (putAt l m y) n x:=by
 simp only [putAt,hn,hm,if_true,List.length_set]
 exact List.set_comm _ _ b9
theorem lS {l:List (Option aG)} {n:Nat} {x:Option aG} (hn:n<l.length):(putAt l n x).length=l.length:=by simp [putAt,hn]
theorem CT {s:St} {u:List (Nat × Option aG)} {n:Nat} {x:Option aG} (hn:n<s.rg.length) (hu:∀ p∈u,p.1<s.rg.length∧p.1≠n):(s.cn n x).fR u=(s.fR u).cn n x:=by
 induction u generalizing s with
 | nil=>rfl
 | cons p u ih=>
   obtain ⟨m,y⟩:=p
   obtain ⟨h1,h2⟩:=hu (m,y) (by simp)
   simp only [St.fR]
   have e:(s.cn n x).cn m y=(s.cn m y).cn n x:=by
    show St.mk s.fr (putAt (putAt s.rg n x) m y)=St.mk s.fr (putAt (putAt s.rg m y) n x)
    rw [I4 hn h1 (Ne.symm h2)]
   rw [e]
   refine ih (s:=s.cn m y) ?_ fun p hp=>?_
   ·show n<(putAt s.rg m y).length
    rw [lS h1]; exact hn
   ·show p.1<(putAt s.rg m y).length∧_
    rw [lS h1]; exact hu p (by simp [hp])
theorem jX {s:St} {u v:List (Nat × Option aG)} (hu:∀ p∈u,p.1<s.rg.length) (hv:∀ p∈v,p.1<s.rg.length) (hd:∀ p∈u,∀ q∈v,q.1≠p.1):(s.fR u).fR v=(s.fR v).fR u:=by
 induction u generalizing s with
 | nil=>rfl
 | cons p u ih=>
   obtain ⟨n,x⟩:=p
   have hn:=hu (n,x) (by simp)
   simp only [St.fR]
   have hl:∀ m,m<s.rg.length->m<(s.cn n x).rg.length:=fun m hm=>by
    show m<(putAt s.rg n x).length
    rw [lS hn]; exact hm
   rw [ih (s:=s.cn n x) (fun p hp=>hl _ (hu p (by simp [hp]))) (fun q hq=>hl _ (hv q hq)) (fun p hp=>hd p (by simp [hp])),
    CT hn fun q hq=>⟨hv q hq,hd (n,x) (by simp) q hq⟩]
theorem pW {s:St} {u:List (Nat × Option aG)} {n:Nat} (hu:∀ p∈u,p.1<s.rg.length) (h:∀ p∈u,p.1≠n):(s.fR u).bK n=s.bK n:=by
 induction u generalizing s with
 | nil=>rfl
 | cons p u ih=>
   obtain ⟨m,x⟩:=p
   have hm:=hu (m,x) (by simp)
   have h1:=h (m,x) (by simp)
   simp only [St.fR]
   rw [ih (s:=s.cn m x) (fun p hp=>by
    show p.1<(putAt s.rg m x).length
    rw [lS hm]; exact hu p (by simp [hp])) (fun p hp=>h p (by simp [hp]))]
   unfold St.bK St.cn
   simp only [putAt]
   rw [if_pos hm,ayS h1]
theorem aiZ {s:St} {u:List (Nat × Option aG)} {n:Nat} (hu:∀ p∈u,p.1<s.rg.length) (h:∀ p∈u,p.1≠n):(s.fR u).rg[n]? = s.rg[n]?:=by
 induction u generalizing s with
 | nil=>rfl
 | cons p u ih=>
   obtain ⟨m,x⟩:=p
   have hm:=hu (m,x) (by simp)
   have h1:=h (m,x) (by simp)
   simp only [St.fR]
   rw [ih (s:=s.cn m x) (fun p hp=>by
    show p.1<(putAt s.rg m x).length
    rw [lS hm]; exact hu p (by simp [hp])) (fun p hp=>h p (by simp [hp]))]
   unfold St.cn
   simp only [putAt]
   rw [if_pos hm,ayS h1]
theorem I5 {s:St} {e:fQ} {dst:Option Tmp} {x:Operand} (h:∀ d,dst=some d->x≠.tmp d):(s.app e dst).ev x=s.ev x:=by
 unfold St.app
 cases x with
 | tmp t=>
   cases dst with
   | none=>simp only [St.ev,St.put,ua]
   | some d=>
     have:d≠t:=fun hh=>h d rfl (by rw [hh])
     simp only [St.ev,St.put,ua,axF]
     rw [ayS this]
 | _=>cases dst <;> rfl
theorem FL {o:Oper} {t:Tmp} (h:Operand.tmp t∈o.op.operands.toList):t∈o.looksAt ops:=
 List.mem_append_left _ (List.mem_filterMap.2 ⟨.tmp t,h,rfl⟩)
theorem Aj {o:Oper} {j:Nat} {want:Bool} {d:Tmp} (h:o.guard=some (j,want)) (hd:pL ops j=some d):d∈o.looksAt ops:=by
 refine List.mem_append_right _ ?_
 rw [h]
 have hd' : (ops[j]?).bind (·.dst)=some d:=hd
 simp only [hd',Option.toList]
 simp
theorem fX (s:St) (e:fQ) (dst:Option Tmp) (n:Nat):(s.app e dst).bK n=(s.fR e.up).bK n:=by cases dst <;> rfl
theorem CU {s s' : St} {x:NS} (h:∀ n∈x.names,s.bK n=s'.bK n):x.cW s=x.cW s':=by
 cases x with
 | v x=>
   show x.gU.flatMap (cW s)=x.gU.flatMap (cW s')
   refine ia fun c hc=>x6 fun n hn=>h n ?_
   show n∈x.gU.flatMap names
   rw [ayK]
   exact ⟨c,hc,hn⟩
 | _=>rfl
def I6 (P:Program) (ops:Array Oper) (x y:Oper):Prop:=
 still x.op=true∨still y.op=true∨(jR P x.op=true∧jR P y.op=true)∨((storeAt ops x).isSome=true∧mE P ops y=true)∨((storeAt ops y).isSome=true∧mE P ops x=true)∨(gC P x.op=true∧look y.op=true)∨(look x.op=true∧gC P y.op=true)∨(gC P x.op=true∧xq y.op=true)∨(xq x.op=true∧gC P y.op=true)∨((kv ops x).isSome=true∧look y.op=true)∨(look x.op=true∧(kv ops y).isSome=true)
theorem I6.swap {P:Program} {x y:Oper} (h:I6 P ops x y):I6 P ops y x:=by
 rcases h with h | h | ⟨h,h'⟩ | h | h | ⟨h,h'⟩ | ⟨h,h'⟩ | ⟨h,h'⟩ | ⟨h,h'⟩ | ⟨h,h'⟩ | ⟨h,h'⟩
 ·exact .inr (.inl h)
 ·exact .inl h
 ·exact .inr (.inr (.inl ⟨h',h⟩))
 ·exact .inr (.inr (.inr (.inr (.inl h))))
 ·exact .inr (.inr (.inr (.inl h)))
 ·exact .inr (.inr (.inr (.inr (.inr (.inr (.inl ⟨h',h⟩))))))
 ·exact .inr (.inr (.inr (.inr (.inr (.inl ⟨h',h⟩)))))
 ·exact .inr (.inr (.inr (.inr (.inr (.inr (.inr (.inr (.inl ⟨h',h⟩))))))))
 ·exact .inr (.inr (.inr (.inr (.inr (.inr (.inr (.inl ⟨h',h⟩)))))))
 ·exact .inr (.inr (.inr (.inr (.inr (.inr (.inr (.inr (.inr (.inr ⟨h',h⟩)))))))))
 ·exact .inr (.inr (.inr (.inr (.inr (.inr (.inr (.inr (.inr (.inl ⟨h',h⟩)))))))))
theorem nn {P:Program} {o:Oper} (h:mE P ops o=true):(∃ t,storeAt ops o=some t)∨(jR P o.op=true∧cT o.op=false):=by
 unfold mE at h
 rw [ayq,ayu] at h
 rcases h with h | h
 ·exact .inl (Option.isSome_iff_exists.1 h)
 ·exact .inr ⟨h.1,by simpa using h.2⟩
theorem vA {P:Program} {s:St} {i k:Nat} {o x:Oper} {t:Tmp} (h:fW P ops base s i o=true) (hn:mE P ops o=true) (hs:still o.op=false) (hx:ops[k]? = some x) (ht:storeAt ops x=some t) (tK:k≠i)
  (h1:ahead ops ops.size k i=false) (h2:ahead ops ops.size i k=false):∀ n∈(s.ev (.tmp t)).names,n<base∧n ∉ o.op.operands.toList.flatMap fun x=>(s.ev x).names:=by
 unfold fW at h
 rw [hs,hn] at h
 simp only [ayV,ayW,ayR,ayu] at h
 have h3:=List.all_eq_true.1 h.2 k (List.mem_range.2 (Array.getElem?_eq_some_iff.1 hx).1)
 have we : (k==i)=false:=by simpa using tK
 rw [hx] at h3
 simp only [ht,we,h1,h2,ayW,ayR] at h3
 intro n xT
 have h4:=List.all_eq_true.1 h3 n xT
 simp only [ayu,decide_eq_true_eq,Bool.not_eq_true'] at h4
 refine ⟨h4.1,fun hc=>?_⟩
 have h5:=List.contains_iff_mem.2 hc
 rw [h4.2] at h5
 cases h5
theorem I7 {i k:Nat} {x y:Oper} {t:Tmp} {s:St} (h:og ops s i y=true) (hl:look y.op=true) (hx:ops[k]? = some x) (ht:kv ops x=some t) (tK:k≠i) (h1:ahead ops ops.size k i=false) (h2:ahead ops ops.size i k=false) :
  ∀ n∈(s.ev (.tmp t)).names,n ∉ y.op.operands.toList.flatMap fun x=>(s.ev x).names:=by
 unfold og at h
 rw [hl] at h
 simp only [ayV,ayR] at h
 have h3:=List.all_eq_true.1 h k (List.mem_range.2 (Array.getElem?_eq_some_iff.1 hx).1)
 have we : (k==i)=false:=by simpa using tK
 rw [hx] at h3
 simp only [ht,we,h1,h2,ayW,ayR] at h3
 intro n xT hc
 have h4:=List.all_eq_true.1 h3 n xT
 rw [Bool.not_eq_true'] at h4
 have h5:=List.contains_iff_mem.2 hc
 rw [h4] at h5
 cases h5
theorem dR {i:Nat} {e:fQ} (h:iV base i e=true):∀ p∈e.up,base+16 * i<=p.1∧p.1<base+16 * i+16:=by
 intro p hp
 unfold iV at h
 have:=List.all_eq_true.1 h p hp
 simp only [ayu,decide_eq_true_eq] at this
 exact this.1
theorem oK {i k:Nat} {x:Oper} (hx:ops[k]? = some x) (hs:still x.op=false) (tK:k≠i) (h1:ahead ops ops.size k i=false) (h2:ahead ops ops.size i k=false):lone ops i=false:=by
 cases h:lone ops i with
 | false=>rfl
 | true=>
   unfold lone at h
   have h3:=List.all_eq_true.1 h k (List.mem_range.2 (Array.getElem?_eq_some_iff.1 hx).1)
   have we : (k==i)=false:=by simpa using tK
   rw [hx] at h3
   simp only [we,h1,h2,hs,ayW] at h3
   cases h3
theorem sG {P:Program} {i k:Nat} {x o:Oper} (hx:ops[k]? = some x) (hs:still x.op=false) (tK:k≠i) (h1:ahead ops ops.size k i=false) (h2:ahead ops ops.size i k=false) (hm:jR P o.op=true):jS P ops i o=true∨(look x.op=true∧uX P ops i o=true∧deep P o.op=true):=by
 unfold jS uX
 rw [hm,oK hx hs tK h1 h2]
 cases hd:(deep P o.op&&Sb ops i) with
 | false=>exact .inl rfl
 | true=>
   rw [ayu] at hd
   refine .inr ⟨?_,rfl,hd.1⟩
   have h3:=List.all_eq_true.1 hd.2 k (List.mem_range.2 (Array.getElem?_eq_some_iff.1 hx).1)
   have we : (k==i)=false:=by simpa using tK
   rw [hx] at h3
   simp only [we,h1,h2,hs,ayW,ayR] at h3
   exact h3
theorem yc {P:Program} {i k:Nat} {x y:Oper} {s:St} (h:mF P ops base s i y=true) (hl:look y.op=true) (hx:ops[k]? = some x) (hd:deep P x.op=true∨gC P x.op=true) (tK:k≠i) (h1:ahead ops ops.size k i=false) (h2:ahead ops ops.size i k=false) :
  ∀ n∈y.op.operands.toList.flatMap (fun z=>(s.ev z).names),n<base:=by
 unfold mF at h
 rw [ayu] at h
 replace h:=h.1
 unfold Ce at h
 rw [hl] at h
 simp only [ayV,ayR,ayq] at h
 rcases h with h | h
 ·have h3:=List.all_eq_true.1 h k (List.mem_range.2 (Array.getElem?_eq_some_iff.1 hx).1)
  have we : (k==i)=false:=by simpa using tK
  rw [hx] at h3
  rcases hd with hd | hd
  ·simp only [we,h1,h2,hd,ayW,ayV,Bool.false_and] at h3
   cases h3
  ·simp only [we,h1,h2,hd,ayW,ayV,Bool.and_false] at h3
   cases h3
 ·intro n hn
  exact of_decide_eq_true (List.all_eq_true.1 h n hn)
theorem ib {P:Program} {y:Oper} (h:gC P y.op=true):cT y.op=true∧jR P y.op=false∧still y.op=false∧look y.op=false∧storeAt ops y=none:=by
 unfold gC at h
 rw [ayu] at h
 refine ⟨h.1,by simpa using h.2,?_⟩
 have hc:=h.1
 cases dk:y.op <;> first | (rw [dk] at hc; simp [cT] at hc; done) | skip
 rename_i c
 obtain ⟨cal,a1,a2⟩:=c
 rw [dk] at hc
 cases cal with
 | builtin b=>simp [cT] at hc
 | invoke r m=>simp [cT] at hc
 | value f=>exact ⟨rfl,rfl,by unfold storeAt; rw [dk]⟩
theorem iJ {P:Program} {y:Oper} (h:xq y.op=true):cT y.op=false∧jR P y.op=true∧still y.op=false∧look y.op=false∧storeAt ops y=none∧y.op.operands.toList=[]:=by
 unfold xq at h
 split at h
 ·rename_i t ht
  rw [ht]
  exact ⟨rfl,rfl,rfl,rfl,by unfold storeAt; rw [ht],rfl⟩
 ·cases h
theorem q4 {i k:Nat} {x:Oper} (hx:ops[k]? = some x) (ha:xq x.op=true) (tK:k≠i) (h1:ahead ops ops.size k i=false) (h2:ahead ops ops.size i k=false):rX ops i=true:=by
 unfold rX
 rw [List.any_eq_true]
 refine ⟨k,List.mem_range.2 (Array.getElem?_eq_some_iff.1 hx).1,?_⟩
 have we : (k==i)=false:=by simpa using tK
 rw [hx,h1,h2,we]
 simpa using ha
theorem A4 {P:Program} {op:Op} (h:look op=true):jR P op=true:=by
 cases op <;> first | rfl | (simp [look] at h)
theorem uj {P:Program} {x y:Oper} (h:I6 P ops x y) (hy:gC P y.op=true):(still x.op||look x.op)=true∨xq x.op=true:=by
 obtain ⟨h1,h2,h3,h4,h5⟩:=ib (ops:=ops) hy
 rcases h with h | h | ⟨-,h⟩ | ⟨-,h⟩ | ⟨h,-⟩ | ⟨-,h⟩ | ⟨h,-⟩ | ⟨-,h⟩ | ⟨h,-⟩ | ⟨-,h⟩ | ⟨h,-⟩
 ·rw [h]; exact .inl rfl
 ·rw [h3] at h; cases h
 ·rw [h2] at h; cases h
 ·unfold mE at h; rw [h5,h2] at h; simp at h
 ·rw [h5] at h; cases h
 ·rw [h4] at h; cases h
 ·rw [h,ayX]; exact .inl rfl
 ·rw [(iJ (P:=P) (ops:=ops) h).1] at h1; cases h1
 ·exact .inr h
 ·rw [h4] at h; cases h
 ·rw [h,ayX]; exact .inl rfl
theorem LV {i k:Nat} {x y:Oper} {s:St} {e:fQ} (hlen:base+16 * ops.size<=s.rg.length) (hx:ops[k]? = some x) (hy:ops[i]? = some y) (tK:k≠i) (hap:∀ d,x.dst=some d->d ∉ y.looksAt ops)
  (lQ:I6 X.P ops x y) (hg:Good X.P ops base k x s e) (yd:ahead ops ops.size k i=false) (Ak:ahead ops ops.size i k=false) :
  TD X ops base i y (s.app e x.dst)=TD X ops base i y s:=by
 have hk:k<ops.size:=(Array.getElem?_eq_some_iff.1 hx).1
 have eY:∀ z∈y.op.operands.toList,(s.app e x.dst).ev z=s.ev z:=fun z hz=>I5 fun d hd hzd=>hap d hd (FL (by rw [<- hzd]; exact hz))
 have aoV:∀ (j:Nat) (o:Oper) (t:Tmp),ops[j]? = some o->storeAt ops o=some t->(s.app e x.dst).ev (.tmp t)=s.ev (.tmp t):=fun j o t _ ht=>I5 fun d hd hzd=>by
  cases hzd
  exact (fD ht).2 k x hx hd
 have aoW:∀ (o:Oper) (t:Tmp),kv ops o=some t->(s.app e x.dst).ev (.tmp t)=s.ev (.tmp t):=fun o t ht=>I5 fun d hd hzd=>by
  cases hzd
  exact (I1 ht).2.2.2 k x hx hd
 have e3:(y.op.operands.toList.flatMap fun z=>((s.app e x.dst).ev z).names)=(y.op.operands.toList.flatMap fun z=>(s.ev z).names):=ia fun z hz=>by rw [eY z hz]
 have mx:still y.op=false->jR X.P x.op=true->jS X.P ops k x=true∨(look y.op=true∧uX X.P ops k x=true∧deep X.P x.op=true):=fun hs hm=>sG hy hs (Ne.symm tK) Ak yd hm
 have hD:oh X ops base i y (s.app e x.dst)=oh X ops base i y s:=by
  have e1:fw ops base (s.app e x.dst) i y=fw ops base s i y:=by
   unfold fw
   congr 1
  have CW:fw ops base s i y=true->jS X.P ops k x=true->∀ n∈y.op.operands.toList.flatMap (fun z=>(s.ev z).names),(s.app e x.dst).bK n=s.bK n:=by
   intro uZ h1 n hn
   rw [fX]
   unfold fw at uZ
   rw [ayU] at uZ
   have hn2:=uZ n hn
   have hb:=dR (hg.2.1 h1)
   refine pW (fun p hp=>?_) fun p hp hpn=>?_
   ·have:=hb p hp; omega
   ·obtain ⟨h3,h4⟩:=hb p hp
    rw [hpn] at h3 h4
    rw [ayq,decide_eq_true_eq] at hn2
    rcases hn2 with h5 | h5
    ·omega
    ·have:(n - base) / 16=k:=by omega
     rw [this,yd] at h5
     cases h5
  have e2:fw ops base s i y=true->(!(jS X.P ops i y&&cT y.op)||(y.op.operands.toList.flatMap fun z=>((s.app e x.dst).ev z).cW (s.app e x.dst)).isEmpty)=(!(jS X.P ops i y&&cT y.op)||(y.op.operands.toList.flatMap fun z=>(s.ev z).cW s).isEmpty):=by
   intro hn
   cases FM:(jS X.P ops i y&&cT y.op) with
   | false=>rfl
   | true=>
     rw [ayu] at FM
     have fv:storeAt ops y=none:=by
      unfold storeAt
      cases dk:y.op <;> first | rfl | (rw [dk] at FM; simp [cT] at FM)
     have aoX:mE X.P ops y=false:=by
      unfold mE
      rw [fv,FM.2]
      simp
     have I8:still y.op=false:=by
      cases dk:y.op <;> first | rfl | (rw [dk] at FM; simp [cT] at FM; done) | skip
      rename_i c
      obtain ⟨cal,a1,a2⟩:=c
      rw [dk] at FM
      cases cal with
      | builtin b=>simp [cT] at FM
      | invoke r m=>simp [cT] at FM
      | value f=>rfl
     have auE:∀ n∈y.op.operands.toList.flatMap (fun z=>(s.ev z).names),(s.app e x.dst).bK n=s.bK n:=by
      rcases lQ with h | h | ⟨h1,-⟩ | ⟨-,h⟩ | ⟨h,-⟩ | ⟨-,h5⟩ | ⟨h,-⟩ | ⟨-,h5⟩ | ⟨h,h5⟩ | ⟨-,h5⟩ | ⟨h,-⟩
      rotate_right 4
      ·rw [(iJ (P:=X.P) (ops:=ops) h5).1] at FM; cases FM.2
      ·exact CW hn ((mx I8 (iJ (P:=X.P) (ops:=ops) h).2.1).elim id fun h6=>by rw [(ib (ops:=ops) h5).2.2.2.1] at h6; cases h6.1)
      ·exfalso
       cases dk:y.op <;> rw [dk] at h5 FM <;> first | (cases h5; done) | (simp [cT] at FM)
      ·intro n _
       rw [fX,hg.1 (by rw [h,ayX])]; rfl
      ·intro n _
       rw [fX,hg.1 (by rw [h]; rfl)]; rfl
      ·rw [I8] at h; cases h
      ·rcases mx I8 h1 with h5 | ⟨h5,-⟩
       ·exact CW hn h5
       ·exfalso
        cases dk:y.op <;> rw [dk] at h5 FM <;> first | (cases h5; done) | (simp [cT] at FM)
      ·rw [aoX] at h; cases h
      ·rw [fv] at h; cases h
      ·exfalso
       cases dk:y.op <;> rw [dk] at h5 FM <;> first | (cases h5; done) | (simp [cT] at FM)
      ·intro n _
       rw [fX,hg.1 (by rw [h,ayX])]; rfl
     have e5:(y.op.operands.toList.flatMap fun z=>((s.app e x.dst).ev z).cW (s.app e x.dst))=(y.op.operands.toList.flatMap fun z=>(s.ev z).cW s):=by
      refine ia fun z hz=>?_
      rw [eY z hz]
      refine CU fun n hn=>auE n ?_
      rw [ayK]
      exact ⟨z,hz,hn⟩
     rw [e5]
  have e4:fW X.P ops base (s.app e x.dst) i y=fW X.P ops base s i y:=by
   unfold fW
   rw [e3]
   congr 1
   congr 1
   ·cases hsy:storeAt ops y with
    | none=>rfl
    | some t=>
      obtain ⟨⟨ty,a,v,dk⟩,-⟩:=fD hsy
      simp only [dk]
      rw [aoV i y t hy hsy,eY a (by rw [dk]; simp [Op.operands])]
   ·refine List.all_congr rfl fun j=>?_
    cases hj:ops[j]? with
    | none=>rfl
    | some o=>
      cases ho:storeAt ops o with
      | none=>simp only [ho]
      | some t=>simp only [ho]; rw [aoV j o t hj ho]
  have ai0:gC X.P y.op=true->∀ n,n<base->(s.app e x.dst).bK n=s.bK n:=by
   intro hcs n hn
   rcases uj lQ hcs with h | h
   ·rw [fX,hg.1 h]; rfl
   ·have fv:=(ib (ops:=ops) hcs).2.2.1
    have hlk:=(ib (ops:=ops) hcs).2.2.2.1
    have hm:=(mx fv (iJ (P:=X.P) (ops:=ops) h).2.1).elim id fun h6=>by rw [hlk] at h6; cases h6.1
    have hb:=dR (hg.2.1 hm)
    rw [fX]
    refine pW (fun p hp=>?_) fun p hp=>?_
    ·have:=hb p hp; omega
    ·have:=hb p hp; omega
  have ai1:fw ops base s i y=true->gC X.P y.op=true->∀ n∈y.op.operands.toList.flatMap (fun z=>(s.ev z).names),(s.app e x.dst).bK n=s.bK n:=by
   intro hn hcs n fH
   rcases uj lQ hcs with h | h
   ·rw [fX,hg.1 h]; rfl
   ·have fv:=(ib (ops:=ops) hcs).2.2.1
    have hlk:=(ib (ops:=ops) hcs).2.2.2.1
    exact CW hn ((mx fv (iJ (P:=X.P) (ops:=ops) h).2.1).elim id fun h6=>by rw [hlk] at h6; cases h6.1) n fH
  have e7:fw ops base s i y=true->mF X.P ops base (s.app e x.dst) i y=mF X.P ops base s i y:=by
   intro hn
   unfold mF Ce
   rw [e3]
   congr 1
   cases hcs:gC X.P y.op with
   | false=>rfl
   | true=>
     rw [sD eY (fun n hm=>ai1 hn hcs n (by rw [<- e3]; exact hm)) (ai0 hcs)]
  have e8:og ops (s.app e x.dst) i y=og ops s i y:=by
   unfold og
   rw [e3]
   congr 1
   refine List.all_congr rfl fun j=>?_
   cases hj:ops[j]? with
   | none=>rfl
   | some o=>
     cases ho:kv ops o with
     | none=>simp only [ho]
     | some t=>simp only [ho]; rw [aoW o t ho]
  have e6:(fw ops base (s.app e x.dst) i y&&(!(jS X.P ops i y&&cT y.op)||(y.op.operands.toList.flatMap fun z=>((s.app e x.dst).ev z).cW (s.app e x.dst)).isEmpty)&&fW X.P ops base (s.app e x.dst) i y&&mF X.P ops base (s.app e x.dst) i y&&og ops (s.app e x.dst) i y)=(fw ops base s i y&&(!(jS X.P ops i y&&cT y.op)||(y.op.operands.toList.flatMap fun z=>(s.ev z).cW s).isEmpty)&&fW X.P ops base s i y&&mF X.P ops base s i y&&og ops s i y):=by
   rw [e1,e4,e8]
   cases hn:fw ops base s i y with
   | false=>rfl
   | true=>rw [e2 hn,e7 hn]
  unfold oh
  rw [e6]
  split
  ·rename_i hc
   rw [ayu,ayu,ayu,ayu] at hc
   obtain ⟨⟨⟨⟨uZ,qt⟩,AT⟩,CC⟩,hc5⟩:=hc
   have fresh:=CW uZ
   have stored:∀ t,storeAt ops x=some t->mE X.P ops y=true->still y.op=false->∀ n∈y.op.operands.toList.flatMap (fun z=>(s.ev z).names),(s.app e x.dst).bK n=s.bK n:=by
    intro t ht hn hs n xT
    rw [fX]
    have hd:=vA AT hn hs hx ht tK yd Ak
    refine pW (fun p hp=>?_) fun p hp hpn=>?_
    ·have:=(hg.2.2.1 t ht p hp).2.1; omega
    ·have h1:=(hg.2.2.1 t ht p hp).1
     rw [hpn] at h1
     exact (hd n h1).2 xT
   have fin:(∀ n∈y.op.operands.toList.flatMap (fun z=>(s.ev z).names),(s.app e x.dst).bK n=s.bK n)->mE X.P ops y=true->ka X y.op (base+16 * i) (s.app e x.dst)=ka X y.op (base+16 * i) s:=by
    intro hr hn
    rcases nn hn with ⟨t,ht⟩ | ⟨h1,h2⟩
    ·obtain ⟨⟨ty,a,v,dk⟩,-⟩:=fD ht
     rw [dk] at eY hr e3 ⊢
     exact wb eY fun n hn=>hr n (by rw [<- e3]; exact hn)
    ·exact iI eY (.inr (.inr ⟨h1,fun h=>absurd (h2.symm.trans h) Bool.false_ne_true,fun n hn=>hr n (by rw [<- e3]; exact hn)⟩))
   have aoY:ka X y.op (base+16 * i) (s.app e x.dst)=ka X y.op (base+16 * i) s:=by
    by_cases hs:still y.op=true
    ·exact iI eY (.inl hs)
    have S1 : still y.op=false:=by simpa using hs
    by_cases hsx:(still x.op||look x.op)=true
    ·refine iI eY (.inr (.inl fun n=>?_))
     rw [fX,hg.1 hsx]; rfl
    have abu:still x.op=false∧look x.op=false:=by simpa using hsx
    have abv : still x.op=false:=abu.1
    have Ta:jR X.P x.op=true->∀ n∈y.op.operands.toList.flatMap (fun z=>(s.ev z).names),(s.app e x.dst).bK n=s.bK n:=by
     intro hm
     rcases mx S1 hm with h5 | ⟨h5,h6,h7⟩
     ·exact fresh h5
     ·intro n hn
      have hb:=yc CC h5 hx (.inl h7) tK yd Ak n hn
      have hu:=hg.2.2.2.2.1 (.inl h6)
      rw [fX]
      refine pW (fun p hp=>?_) fun p hp=>?_
      ·have:=hu p hp
       omega
      ·have:=hu p hp
       omega
    rcases lQ with h | h | ⟨h1,h2⟩ | ⟨h1,h2⟩ | ⟨h1,h2⟩ | ⟨h1,h2⟩ | ⟨h1,h2⟩ | ⟨h1,h2⟩ | ⟨h1,h2⟩ | ⟨h1,h2⟩ | ⟨h1,h2⟩
    rotate_right 2
    ·obtain ⟨t,ht⟩:=Option.isSome_iff_exists.1 h1
     refine iI eY (.inr (.inr ⟨A4 h2,fun ye=>?_,fun n hn=>?_⟩))
     ·exfalso
      cases dk:y.op <;> rw [dk] at h2 ye <;> first | (cases h2; done) | (simp [cT] at ye)
     ·have hu:=hg.2.2.2.2.2.2 t ht (oK hy S1 (Ne.symm tK) Ak yd)
      have hnn:n∈y.op.operands.toList.flatMap fun z=>(s.ev z).names:=by rw [<- e3]; exact hn
      rw [fX]
      refine pW (fun p hp=>?_) fun p hp hpn=>?_
      ·rcases hu p hp with h3 | h3 <;> omega
      ·rcases hu p hp with ⟨h3,-⟩ | h3
       ·exact I7 hc5 h2 hx ht tK yd Ak p.1 h3 (hpn ▸ hnn)
       ·have hcn:=uZ
        unfold fw at hcn
        rw [ayU] at hcn
        have hn2:=hcn n hnn
        rw [ayq,decide_eq_true_eq] at hn2
        rcases hn2 with h5 | h5
        ·omega
        ·have:(n - base) / 16=k:=by omega
         rw [this,yd] at h5
         cases h5
    ·rw [abu.2] at h1; cases h1
    rotate_right 2
    ·obtain ⟨a1,a2,-,-,-,a6⟩:=iJ (P:=X.P) (ops:=ops) h2
     refine iI eY (.inr (.inr ⟨a2,fun hc=>absurd (a1.symm.trans hc) Bool.false_ne_true,fun n hn=>?_⟩))
     rw [a6] at hn
     cases hn
    ·have hb:kz X.P base s y.op=true:=by
      have h6:=CC
      unfold mF at h6
      rw [ayu,h2,q4 hx h1 tK yd Ak] at h6
      simpa using h6.2
     have hH : kz X.P base (s.app e x.dst) y.op=true:=by
      rw [sD eY (fun n hm=>ai1 uZ h2 n (by rw [<- e3]; exact hm)) (ai0 h2)]
      exact hb
     exact I0 (ib (ops:=ops) h2).1 eY (fun n hm=>ai1 uZ h2 n (by rw [<- e3]; exact hm)) (ai0 h2) hH
    ·rw [abv] at h; cases h
    ·exact (hs h).elim
    ·refine iI eY (.inr (.inr ⟨h2,fun ye=>?_,fun n hn=>Ta h1 n (by rw [<- e3]; exact hn)⟩))
     have AT:=(e2 uZ).trans qt
     rcases sG hx abv tK yd Ak h2 with h5 | ⟨h5,-⟩
     ·rw [h5,ye] at AT
      simpa using AT
     ·rw [abu.2] at h5
      cases h5
    ·obtain ⟨t,ht⟩:=Option.isSome_iff_exists.1 h1
     exact fin (stored t ht h2 S1) h2
    ·have hny:mE X.P ops y=true:=by unfold mE; rw [h1]; rfl
     rcases nn h2 with ⟨t,ht⟩ | ⟨hm,-⟩
     ·exact fin (stored t ht hny S1) hny
     ·exact fin (Ta hm) hny
    ·refine iI eY (.inr (.inr ⟨A4 h2,fun ye=>?_,fun n hn=>?_⟩))
     ·exfalso
      cases dk:y.op <;> rw [dk] at h2 ye <;> first | (cases h2; done) | (simp [cT] at ye)
     ·have hb:=yc CC h2 hx (.inr h1) tK yd Ak n (by rw [<- e3]; exact hn)
      have hu:=hg.2.2.2.2.1 (.inr (by unfold beside; rw [h1,oK hy S1 (Ne.symm tK) Ak yd]; rfl))
      rw [fX]
      refine pW (fun p hp=>?_) fun p hp=>?_
      ·have:=hu p hp
       omega
      ·have:=hu p hp
       omega
    ·rw [abu.2] at h1; cases h1
   have hE:∀ f,qn X.P ops base i y (s.app e x.dst) f=qn X.P ops base i y s f:=fun f=>by
    unfold qn
    split
    ·rename_i hb
     unfold beside at hb
     rw [ayu] at hb
     have kb:∀ n,n<base->(s.app e x.dst).rg[n]? = s.rg[n]?:=fun n hn=>by
      rw [St.app,iH]
      rcases uj lQ hb.1 with h | h
      ·rw [hg.1 h]; rfl
      ·have fv:=(ib (ops:=ops) hb.1).2.2.1
       have hlk:=(ib (ops:=ops) hb.1).2.2.2.1
       have hm:=(mx fv (iJ (P:=X.P) (ops:=ops) h).2.1).elim id fun h6=>by rw [hlk] at h6; cases h6.1
       have hr:=dR (hg.2.1 hm)
       exact aiZ (fun p hp=>by have:=hr p hp; omega) fun p hp=>by have:=hr p hp; omega
     have Tb:∀ (l:List (Nat × Option aG)) (k:Tr fQ),xr base (s.app e x.dst) l k=xr base s l k:=by
      intro l k
      induction l with
      | nil=>rfl
      | cons p l ih=>
        obtain ⟨n,g⟩:=p
        unfold xr
        rw [ih]
        split
        ·rename_i hn
         rw [kb n (of_decide_eq_true hn)]
        ·rfl
     rw [Tb]
    ·rfl
   have hGr:∀ f,jB ops base i (s.app e x.dst) y f=jB ops base i s y f:=fun f=>by
    unfold jB
    cases ha:kv ops y with
    | none=>rfl
    | some t=>simp only; rw [aoW y t ha]
   rw [aoY]
   congr 1
   funext f
   rw [hE f,hGr f]
  ·rfl
 unfold TD A1
 rw [hD]
 split
 ·rfl
 ·rename_i j want CX
  split
  ·rename_i d hd
   have hdl:=Aj CX hd
   have:(s.app e x.dst).fr[d]? = s.fr[d]?:=by
    unfold St.app
    cases hx:x.dst with
    | none=>simp only [St.put,ua]
    | some d'=>
      have:d'≠d:=fun hh=>hap d' hx (hh ▸ hdl)
      simp only [St.put,ua]
      rw [ayS this]
   rw [this]
  ·rfl
theorem I9 {P:Program} {x y:Oper} (h:Az P ops x y=true):I6 P ops x y∧Oper.apart ops x y=true:=by
 unfold Az at h
 simp only [ayu,ayq] at h
 refine ⟨?_,h.2⟩
 rcases h.1 with (((((((((h | h) | h) | h) | h) | h) | h) | h) | h) | h) | h
 ·exact .inl h
 ·exact .inr (.inl h)
 ·exact .inr (.inr (.inl h))
 ·exact .inr (.inr (.inr (.inl h)))
 ·exact .inr (.inr (.inr (.inr (.inl h))))
 ·exact .inr (.inr (.inr (.inr (.inr (.inl h)))))
 ·exact .inr (.inr (.inr (.inr (.inr (.inr (.inl h))))))
 ·exact .inr (.inr (.inr (.inr (.inr (.inr (.inr (.inl h)))))))
 ·exact .inr (.inr (.inr (.inr (.inr (.inr (.inr (.inr (.inl h))))))))
 ·exact .inr (.inr (.inr (.inr (.inr (.inr (.inr (.inr (.inr (.inl h)))))))))
 ·exact .inr (.inr (.inr (.inr (.inr (.inr (.inr (.inr (.inr (.inr h)))))))))
theorem Tc {i k:Nat} {x y:Oper} {s:St} {e f:fQ} (hlen:base+16 * ops.size<=s.rg.length) (hx:ops[k]? = some x) (hy:ops[i]? = some y) (b9:k≠i) (hd:∀ d,x.dst=some d->y.dst≠some d)
  (yd:ahead ops ops.size k i=false) (Ak:ahead ops ops.size i k=false) (lQ:I6 X.P ops x y) (hg:Good X.P ops base k x s e) (rY : Good X.P ops base i y s f) :
  (s.app e x.dst).app f y.dst=(s.app f y.dst).app e x.dst:=by
 have hk:k<ops.size:=(Array.getElem?_eq_some_iff.1 hx).1
 have hi:i<ops.size:=(Array.getElem?_eq_some_iff.1 hy).1
 have e1:∀ (t:St) (u:List (Nat × Option aG)) (d:Option Tmp) (v:NS),(t.put d v).fR u=(t.fR u).put d v:=by
  intro t u d v
  induction u generalizing t with
  | nil=>rfl
  | cons p u ih=>
    obtain ⟨n,g⟩:=p
    simp only [St.fR]
    have:(t.put d v).cn n g=(t.cn n g).put d v:=by cases d <;> rfl
    rw [this,ih]
 have e2:∀ (t:St) (v u:NS),(t.put x.dst v).put y.dst u=(t.put y.dst u).put x.dst v:=by
  intro t v u
  cases hx:x.dst with
  | none=>rfl
  | some d=>
    cases hy:y.dst with
    | none=>rfl
    | some d'=>
      have:d≠d':=fun hh=>hd d hx (by rw [hy,hh])
      simp only [St.put]
      rw [List.set_comm _ _ this]
 have b1:(still y.op||look y.op)=false->jR X.P x.op=true->∀ p∈e.up,base+16 * k<=p.1∧p.1<base+16 * k+16:=fun hs h=>by
  rw [Bool.or_eq_false_iff] at hs
  rcases sG hy hs.1 (Ne.symm b9) Ak yd h with h5 | ⟨h5,-⟩
  ·exact dR (hg.2.1 h5)
  ·rw [hs.2] at h5; cases h5
 have b2:(still x.op||look x.op)=false->jR X.P y.op=true->∀ p∈f.up,base+16 * i<=p.1∧p.1<base+16 * i+16:=fun hs h=>by
  rw [Bool.or_eq_false_iff] at hs
  rcases sG hx hs.1 b9 yd Ak h with h5 | ⟨h5,-⟩
  ·exact dR (rY.2.1 h5)
  ·rw [hs.2] at h5; cases h5
 have two:∀ t t',storeAt ops x=some t->storeAt ops y=some t'->∀ p∈e.up,∀ q∈f.up,q.1≠p.1:=by
  intro t t' ht E7 p hp q hq hpq
  rcases rY.2.2.2.1 with h0 | fI
  ·rw [h0] at hq; cases hq
  ·obtain ⟨⟨ty,a,v,dk⟩,-⟩:=fD E7
   have hn:mE X.P ops y=true:=by unfold mE; rw [E7]; rfl
   have hs:still y.op=false:=by rw [dk]; rfl
   refine (vA fI hn hs hx ht b9 yd Ak p.1 (hg.2.2.1 t ht p hp).1).2 ?_
   rw [<- hpq]
   exact (rY.2.2.1 t' E7 q hq).2.2
 have hu:(s.fR e.up).fR f.up=(s.fR f.up).fR e.up:=by
  by_cases hsx:(still x.op||look x.op)=true
  ·rw [hg.1 hsx]; rfl
  by_cases hsy:(still y.op||look y.op)=true
  ·rw [rY.1 hsy]; rfl
  have b1:=b1 (by simpa using hsy)
  have b2:=b2 (by simpa using hsx)
  have c1:gC X.P x.op=true->xq y.op=true->∀ p∈e.up,base+16 * k<=p.1∧p.1<base+16 * k+16:=fun h h'=>by
   have auF : still y.op=false:=(iJ (P:=X.P) (ops:=ops) h').2.2.1
   exact dR (hg.2.2.2.2.2.1 (by unfold beside; rw [h,oK hy auF (Ne.symm b9) Ak yd]; rfl) (q4 hy h' (Ne.symm b9) Ak yd))
  have c2:gC X.P y.op=true->xq x.op=true->∀ p∈f.up,base+16 * i<=p.1∧p.1<base+16 * i+16:=fun h h'=>by
   have abv : still x.op=false:=(iJ (P:=X.P) (ops:=ops) h').2.2.1
   exact dR (rY.2.2.2.2.2.1 (by unfold beside; rw [h,oK hx abv b9 yd Ak]; rfl) (q4 hx h' b9 yd Ak))
  rcases lQ with h | h | ⟨h1,h2⟩ | ⟨h1,h2⟩ | ⟨h1,h2⟩ | ⟨h1,h2⟩ | ⟨h1,h2⟩ | ⟨h1,h2⟩ | ⟨h1,h2⟩ | ⟨h1,h2⟩ | ⟨h1,h2⟩
  rotate_right 2
  ·exact absurd (by rw [h2,ayX]) hsy
  ·exact absurd (by rw [h1,ayX]) hsx
  rotate_right 2
  ·refine jX (fun p hp=>?_) (fun p hp=>?_) fun p hp q hq=>?_
   ·have:=c1 h1 h2 p hp; omega
   ·have:=b2 (iJ (P:=X.P) (ops:=ops) h2).2.1 p hp; omega
   ·have h3:=c1 h1 h2 p hp; have h4:=b2 (iJ (P:=X.P) (ops:=ops) h2).2.1 q hq; omega
  ·refine jX (fun p hp=>?_) (fun p hp=>?_) fun p hp q hq=>?_
   ·have:=b1 (iJ (P:=X.P) (ops:=ops) h1).2.1 p hp; omega
   ·have:=c2 h2 h1 p hp; omega
   ·have h3:=b1 (iJ (P:=X.P) (ops:=ops) h1).2.1 p hp; have h4:=c2 h2 h1 q hq; omega
  rotate_right 2
  ·exact absurd (by rw [h2,ayX]) hsy
  ·exact absurd (by rw [h1,ayX]) hsx
  ·rw [hg.1 (by rw [h]; rfl)]; rfl
  ·rw [rY.1 (by rw [h]; rfl)]; rfl
  ·refine jX (fun p hp=>?_) (fun p hp=>?_) fun p hp q hq=>?_
   ·have:=b1 h1 p hp; omega
   ·have:=b2 h2 p hp; omega
   ·have h3:=b1 h1 p hp; have h4:=b2 h2 q hq; omega
  ·obtain ⟨t,ht⟩:=Option.isSome_iff_exists.1 h1
   rcases nn h2 with ⟨t',E7⟩ | ⟨hm,-⟩
   ·refine jX (fun p hp=>?_) (fun p hp=>?_) (two t t' ht E7)
    ·have:=(hg.2.2.1 t ht p hp).2; omega
    ·have:=(rY.2.2.1 t' E7 p hp).2; omega
   ·refine jX (fun p hp=>?_) (fun p hp=>?_) fun p hp q hq=>?_
    ·have:=(hg.2.2.1 t ht p hp).2; omega
    ·have:=b2 hm p hp; omega
    ·have h3:=(hg.2.2.1 t ht p hp).2; have h4:=b2 hm q hq; omega
  ·obtain ⟨t',E7⟩:=Option.isSome_iff_exists.1 h1
   rcases nn h2 with ⟨t,ht⟩ | ⟨hm,-⟩
   ·refine jX (fun p hp=>?_) (fun p hp=>?_) (two t t' ht E7)
    ·have:=(hg.2.2.1 t ht p hp).2; omega
    ·have:=(rY.2.2.1 t' E7 p hp).2; omega
   ·refine jX (fun p hp=>?_) (fun p hp=>?_) fun p hp q hq=>?_
    ·have:=b1 hm p hp; omega
    ·have:=(rY.2.2.1 t' E7 p hp).2; omega
    ·have h3:=(rY.2.2.1 t' E7 q hq).2; have h4:=b1 hm p hp; omega
 simp only [St.app]
 rw [e1,e1,hu,e2]
theorem LW (s:St) (e:fQ) (d:Option Tmp):s.rg.length<=(s.app e d).rg.length:=by
 rw [St.app,iH]; exact Cy _ _
theorem FN {k i:Nat} {l:List Nat} {s:St} {K:St->Prop} (hlen:base+16 * ops.size<=s.rg.length) (tK:k<i) (yd:ahead ops ops.size k i=false) (Ak:ahead ops ops.size i k=false)
  (lQ:∀ x y,ops[k]? = some x->ops[i]? = some y->Az X.P ops x y=true) (h:nj X ops base (k::i::l) s K):nj X ops base (i::k::l) s K:=by
 obtain ⟨x,hx,h⟩:=h
 cases hy:ops[i]? with
 | none=>
   refine (Tr.OX _ (Tr.aN _ (fun e he=>?_) h)).elim
   obtain ⟨y,hy',-⟩:=he
   rw [hy] at hy'; cases hy'
 | some y=>
   obtain ⟨hf,hap⟩:=I9 (lQ x y hx hy)
   obtain ⟨a1,a2,a3⟩:=Oper.apart_spec hap
   have h1:(TD X ops base k x s).run fun e=>(TD X ops base i y s).run fun f=>Good X.P ops base k x s e∧nj X ops base l ((s.app e x.dst).app f y.dst) K:=by
    refine Tr.aN _ (fun e he=>?_) (LU h)
    obtain ⟨tI,y',hy',h2⟩:=he
    rw [hy] at hy'; cases hy'
    rw [LV hlen hx hy (Nat.ne_of_lt tK) a1 hf tI yd Ak] at h2
    exact Tr.aN _ (fun f hf=>⟨tI,hf⟩) h2
   refine ⟨y,hy,Tr.aN _ (fun f hf'=>?_) (LU (Tr.Sg _ _ h1))⟩
   obtain ⟨hgf,h4⟩:=hf'
   refine ⟨x,hx,?_⟩
   rw [LV hlen hy hx (Nat.ne_of_gt tK) a3 hf.swap hgf Ak yd]
   refine Tr.aN _ (fun e he=>?_) h4
   rw [<- Tc hlen hx hy (Nat.ne_of_lt tK) a2 yd Ak hf he.1 hgf]
   exact he.2
theorem sH {i:Nat} {l2:List Nat}:∀ {l1:List Nat} {s:St} {K:St->Prop},base+16 * ops.size<=s.rg.length->(∀ k∈l1,k<i∧ahead ops ops.size k i=false∧ahead ops ops.size i k=false∧∀ x y,ops[k]? = some x->ops[i]? = some y->Az X.P ops x y=true)->
  nj X ops base (l1++i::l2) s K->nj X ops base (i::(l1++l2)) s K
 | [],_,_,_,_,h=>h
 | k::l1,s,K,hlen,hk,h=>by
   obtain ⟨h1,h2,h3,h4⟩:=hk k (by simp)
   refine FN hlen h1 h2 h3 h4 ?_
   obtain ⟨x,hx,h⟩:=h
   exact ⟨x,hx,Tr.aN _ (fun e he=>sH (Nat.le_trans hlen (LW _ _ _)) (fun k Ie=>hk k (by simp [Ie])) he) h⟩
end
structure Al (gl:List Nat) (ops:Array Oper) (base:Nat) (todo:Nat->Prop) (N:Nat) (Γ:Env) (s:St) (a:Act) (w:World):Prop where
 wr:aQ Γ s.rg w
 fr:cO Γ s.fr a.tmps
 gl:GlobOk gl Γ
 nw:∀ n,base+16 * ops.size<=n->Γ.μ n=none
 fresh:∀ i,todo i->∀ n,base+16 * i<=n->n<base+16 * i+16->Γ.μ n=none
 df:Df N Γ a.defers
 len:base+16 * ops.size<=s.rg.length
section
variable {X:Cx} {ops:Array Oper} {base N:Nat}
theorem Py {P:Program} {i:Nat} {o:Oper} {s:St} {x:fQ} {R:fQ->Prop} (h:(qn P ops base i o s x).run R):∃ y,R y∧y.v=x.v∧s.fR y.up=s.fR x.up:=by
 unfold qn at h
 split at h
 ·split at h
  ·obtain ⟨h1,h2⟩:=sE h
   exact ⟨_,h2,rfl,CQ h1⟩
  ·exact h.elim
 ·exact ⟨x,h,rfl,rfl⟩
theorem FO (cy:∀ f T,X.con f=some T->Known X.P X.glob f T) {i:Nat} {o:Oper} {s:St} {Γ:Env} {w:World} {a:Act} {R:fQ->Prop}
  (hw:aQ Γ s.rg w) (hG:GlobOk X.glob Γ) (dr:cO Γ s.fr a.tmps) (fH:∀ k,base+16 * i<=k->k<base+16 * i+16->Γ.μ k=none) (h:(oh X ops base i o s).run R) {K:Act->World->Prop} {Q:Exit->Act->World->Prop}
  (hK:∀ x u w',R x->bp Γ s w (base+16 * i) x u w'->K (a.put o.dst u) w'):o.wp X.P a w K Q:=by
 unfold oh at h
 split at h
 ·rw [Tr.run_bind] at h
  refine xZ cy hw hG dr fH h fun x u w' hR hE=>?_
  split at hR
  ·obtain ⟨y,h1,h2,h3⟩:=Py hR
   refine hK y u w' h1 ?_
   unfold bp aiJ at hE ⊢
   rw [h2,h3]
   exact hE
  ·exact hR.elim
 ·exact h.elim
theorem Al.app {gl:List Nat} {N:Nat} {todo:Nat->Prop} {Γ:Env} {s:St} {a:Act} {w w' : World} {x:fQ} {u:Value} {dst:Option Tmp} {i:Nat} (h:Al gl ops base todo N Γ s a w) (hi:i<ops.size) (hE:bp Γ s w (base+16 * i) x u w') :
  ∃ Γ',Ext Γ w Γ'∧Wd w w'∧Al gl ops base (fun j=>todo j∧j≠i) N Γ' (s.app x dst) (a.put dst u) w':=by
 obtain ⟨Γ',h1,h2,h3,h4,h5⟩:=hE
 refine ⟨Γ',h1,h4,by rw [St.app,iH]; exact h3,?_,h.gl.mono h1.le,fun n hn=>h5 n (h.nw n hn) (by omega),fun j hj n hn xQ=>h5 n (h.fresh j hj.1 n hn xQ) (by have:=hj.2; omega),by rw [put_defers]; exact h.df.mono h1.le,Nat.le_trans h.len (LW _ _ _)⟩
 refine cO.put ?_ dst h2
 rw [ua]; exact h.fr.mono h1.le
theorem Al.put {gl:List Nat} {N:Nat} {todo agn : Nat->Prop} {Γ:Env} {s:St} {a:Act} {w:World} {x:NS} {u:Value} {dst:Option Tmp} (h:Al gl ops base todo N Γ s a w) (r:b5 Γ x u) (ht:∀ j,agn j->todo j):Al gl ops base agn N Γ (s.put dst x) (a.put dst u) w:=
 ⟨by rw [iH]; exact h.wr,h.fr.put dst r,h.gl,h.nw,fun j hj=>h.fresh j (ht j hj),by rw [put_defers]; exact h.df,by rw [iH]; exact h.len⟩
theorem Td (cy:∀ f T,X.con f=some T->Known X.P X.glob f T) {i:Nat} {o:Oper} {s:St} {Γ:Env} {w:World} {a:Act} {todo:Nat->Prop} {R:St->Prop} {K' : Act->World->Prop} {Q:Exit->Act->World->Prop} (ho:ops[i]? = some o) (ht:todo i)
  (hI:Al X.glob ops base todo N Γ s a w) (h:(TD X ops base i o s).run fun e=>R (s.app e o.dst))
  (hK:∀ s' a' w' Γ',R s'->Ext Γ w Γ'->Wd w w'->Al X.glob ops base (fun j=>todo j∧j≠i) N Γ' s' a' w'->K' a' w') :
  wpOp X.P ops Q i K' a w:=by
 have hi:i<ops.size:=(Array.getElem?_eq_some_iff.1 ho).1
 have run:((oh X ops base i o s).run fun e=>R (s.app e o.dst))->o.wp X.P a w K' Q:=by
  intro h2
  refine FO cy hI.wr hI.gl hI.fr (hI.fresh i ht) h2 fun x u w' hR hE=>?_
  obtain ⟨Γ',h3,h4,h5⟩:=hI.app hi hE
  exact hK _ _ _ Γ' hR h3 h4 h5
 unfold wpOp
 rw [ho]
 simp only
 unfold TD A1 at h
 split at h
 ·rename_i hg
  have:Region.wanted o (yielded ops a.tmps)=true:=by simp [Region.wanted,hg]
  rw [if_pos this]
  exact .inl (run h)
 ·rename_i j want hg
  split at h
  case h_2=>exact h.elim
  rename_i d hd
  split at h
  case h_3=>exact h.elim
  case h_2 hx=>
   have hy:yielded ops a.tmps j=Option.none:=by
    obtain ⟨v,h1,h2⟩:=R2.get hI.fr hx
    obtain ⟨vs,rfl,h2⟩:=h2
    cases h2
    have h3:a.tmps[d]? = some (.tuple #[]):=by simpa using h1
    have h4:(ops[j]?).bind (·.dst)=some d:=hd
    unfold yielded
    rw [h4,ayN,h3]
   have x0:Region.wanted o (yielded ops a.tmps)=false:=by simp [Region.wanted,hg,hy]
   rw [x0,if_neg (by decide)]
   exact hK _ _ _ Γ h (Ext.refl Γ w) (Wd.refl w) (hI.put ⟨[],rfl,.nil⟩ fun _ hj=>hj.1)
  rename_i x hx
  have hy:yielded ops a.tmps j=some x:=by
   obtain ⟨v,h1,h2⟩:=R2.get hI.fr hx
   obtain ⟨h2,-⟩:=h2
   have h2' : v=.bool x:=h2
   subst h2'
   have h3:a.tmps[d]? = some (.bool x):=by simpa using h1
   have h4:(ops[j]?).bind (·.dst)=some d:=hd
   unfold yielded
   rw [h4,ayN,h3]
  have x0:Region.wanted o (yielded ops a.tmps)=(x==want):=by simp [Region.wanted,hg,hy]
  rw [x0]
  split at h
  ·rename_i e
   rw [if_pos (by simp [e])]
   exact .inl (run h)
  ·rename_i e
   rw [if_neg (by simp [e])]
   exact hK _ _ _ Γ h (Ext.refl Γ w) (Wd.refl w) (hI.put ⟨[],rfl,.nil⟩ fun j hj=>hj.1)
theorem FP (hd:∀ (i:Nat) (o:Oper),ops[i]? = some o->∀ m∈k9 o,m<i):∀ (fuel:Nat) {k i:Nat},ahead ops fuel k i=true->k<i
 | 0,_,_,h=>by simp [ahead] at h
 | fuel+1,k,i,h=>by
   simp only [ahead] at h
   split at h
   ·rename_i o ho
    rw [List.any_eq_true] at h
    obtain ⟨m,hm,h⟩:=h
    have h1:=hd i o ho m hm
    rw [ayq,beq_iff_eq] at h
    rcases h with rfl | h
    ·exact h1
    ·exact Nat.lt_trans (FP hd fuel h) h1
   ·cases h
theorem sI {L:Nat->Prop} (A5:∀ (i:Nat) (o:Oper),L i->ops[i]? = some o->∀ m∈k9 o,L m):∀ (fuel:Nat) {k i:Nat},(∀ o,ops[i]? = some o->∀ m∈k9 o,L m)->ahead ops fuel k i=true->L k
 | 0,_,_,_,h=>by simp [ahead] at h
 | fuel+1,k,i,hi,h=>by
   simp only [ahead] at h
   split at h
   ·rename_i o ho
    rw [List.any_eq_true] at h
    obtain ⟨m,hm,h⟩:=h
    have h1:=hi o ho m hm
    rw [ayq,beq_iff_eq] at h
    rcases h with rfl | h
    ·exact h1
    ·exact sI A5 fuel (fun o' Pq=>A5 m o' h1 Pq) h
   ·cases h
theorem yf {o:Oper} {m:Nat}:m∈k9 o↔∃ e∈o.after,Region.binds .any e=true∧e.on=m:=by
 unfold k9
 simp only [List.mem_map,List.mem_filter,Array.mem_toList_iff,and_assoc]
def iK (ops:Array Oper) (listed:Array Bool):List Nat:=(axy ops.size).filter fun i=>!listed.getD i true
theorem np {listed:Array Bool} {i:Nat}:i∈iK ops listed↔i<ops.size∧listed.getD i true=false:=by
 unfold iK
 rw [List.mem_filter,List.mem_range,Bool.not_eq_eq_eq_not,ayV]
theorem sJ {p q:Nat->Bool} {i:Nat}:∀ {l:List Nat},l.Pairwise (·<·)->i∈l->p i=true->(∀ j,q j=(p j&&decide (j≠i)))->∃ l1 l2,l.filter p=l1++i::l2∧l.filter q=l1++l2∧∀ k∈l1,k<i∧p k=true
 | [],_,hi,_,_=>by cases hi
 | x::l,hl,hi,hp,hq=>by
   rw [List.pairwise_cons] at hl
   by_cases hx:x=i
   ·subst hx
    refine ⟨[],l.filter p,by simp [hp],?_,by simp⟩
    have:(x::l).filter q=l.filter q:=by simp [hq]
    rw [this,List.nil_append]
    refine List.filter_congr fun j hj=>?_
    have:j≠x:=by have:=hl.1 j hj; omega
    simp [hq,this]
   ·have hi' : i∈l:=by simpa [Ne.symm hx] using hi
    obtain ⟨l1,l2,h1,h2,h3⟩:=sJ hl.2 hi' hp hq
    by_cases hpx:p x=true
    ·refine ⟨x::l1,l2,by simp [hpx,h1],by simp [hq,hpx,hx,h2],fun k hk=>?_⟩
     rcases List.mem_cons.1 hk with rfl | hk
     ·exact ⟨hl.1 i hi',hpx⟩
     ·exact h3 k hk
    ·exact ⟨l1,l2,by simp [hpx,h1],by simp [hq,hpx,h2],h3⟩
theorem FQ {P:Program} (h:qP P ops=true):(∀ (i:Nat) (o:Oper),ops[i]? = some o->∀ m∈k9 o,m<i)∧
  ∀ k i,k<i->i<ops.size->ahead ops ops.size k i=false->∀ x y,ops[k]? = some x->ops[i]? = some y->Az P ops x y=true:=by
 unfold qP at h
 rw [ayU] at h
 refine ⟨fun i o ho m hm=>?_,fun k i tK hi ha x y hx hy=>?_⟩
 ·have:=h i (List.mem_range.2 (Array.getElem?_eq_some_iff.1 ho).1)
  rw [ho] at this
  simp only [ayu,ayU,decide_eq_true_eq] at this
  exact this.1 m hm
 ·have:=h i (List.mem_range.2 hi)
  rw [hy] at this
  simp only [ayu,ayU,decide_eq_true_eq] at this
  have:=this.2 k (List.mem_range.2 tK)
  rw [ha,hx] at this
  simpa using this
theorem Te (cy:∀ f T,X.con f=some T->Known X.P X.glob f T) (fI:qP X.P ops=true) {Q:Exit->Act->World->Prop} :
  ∀ (fuel:Nat) {listed:Array Bool} {s:St} {Γ:Env} {a:Act} {w:World} {K:St->Prop},listed.size=ops.size->(∀ (i:Nat) (o:Oper),listed.getD i false=true->ops[i]? = some o->∀ m∈k9 o,listed.getD m false=true)->
   (iK ops listed).length<=fuel->Al X.glob ops base (fun i=>i∈iK ops listed) N Γ s a w->nj X ops base (iK ops listed) s K->
   (∀ s' a' w' Γ',K s'->Ext Γ w Γ'->Wd w w'->Al X.glob ops base (fun _=>False) N Γ' s' a' w'->Q .normal a' w')->
   wpAny X.P .any ops Q fuel listed a w:=by
 obtain ⟨aoZ,lQ⟩:=FQ fI
 intro fuel
 induction fuel with
 | zero=>
   intro listed s Γ a w K cS A5 hlen hI h hK
   have h0:iK ops listed=[]:=List.length_eq_zero_iff.1 (by omega)
   rw [h0] at h hI
   refine ⟨?_,hK s a w Γ h (Ext.refl Γ w) (Wd.refl w) ⟨hI.wr,hI.fr,hI.gl,hI.nw,fun _ h=>h.elim,hI.df,hI.len⟩⟩
   refine List.eq_nil_iff_forall_not_mem.2 fun i hi=>?_
   obtain ⟨h1,o,ho,-⟩:=mem_ready.1 hi
   have:i∈iK ops listed:=np.2 ⟨(Array.getElem?_eq_some_iff.1 ho).1,h1⟩
   rw [h0] at this
   cases this
 | succ fuel ih=>
   intro listed s Γ a w K cS A5 hlen hI h hK
   refine ⟨fun hr=>?_,fun i hi=>?_⟩
   ·-- nothing is ready: nothing is to axr
    have h0:iK ops listed=[]:=by
     refine List.eq_nil_iff_forall_not_mem.2 fun i=>?_
     induction i using Nat.strongRecOn with
     | _ i ihi=>
       intro hi
       obtain ⟨h1,h2⟩:=np.1 hi
       have:i∈Region.ready .any ops listed:=by
        refine mem_ready.2 ⟨h2,ops[i],ayY h1,fun e he hb=>?_⟩
        have ff:=aoZ i _ (ayY h1) e.on (yf.2 ⟨e,he,hb,rfl⟩)
        have ao0:=ihi e.on ff
        rw [np] at ao0
        have auG:e.on<listed.size:=by omega
        have Pd:¬ listed.getD e.on true=false:=fun h=>ao0 ⟨by omega,h⟩
        simp only [ayZ,ayY auG,Option.getD_some] at Pd ⊢
        simpa using Pd
       rw [hr] at this
       cases this
    rw [h0] at h hI
    exact hK s a w Γ h (Ext.refl Γ w) (Wd.refl w) ⟨hI.wr,hI.fr,hI.gl,hI.nw,fun _ h=>h.elim,hI.df,hI.len⟩
   ·obtain ⟨hun,o,ho,hall⟩:=mem_ready.1 hi
    have his:i<ops.size:=(Array.getElem?_eq_some_iff.1 ho).1
    have hil:i<listed.size:=by omega
    have hid:∀ m∈k9 o,listed.getD m false=true:=fun m hm=>by
     obtain ⟨e,he,hb,rfl⟩:=yf.1 hm
     exact hall e he hb
    obtain ⟨l1,l2,e1,e2,e3⟩:=sJ (p:=fun j=>!listed.getD j true) (q:=fun j=>!(listed.setIfInBounds i true).getD j true) (i:=i) (l:=axy ops.size) List.pairwise_lt_range (List.mem_range.2 his) (by rw [hun]; rfl) (fun j=>by
     by_cases hj:j=i
     ·subst hj; simp [hil]
     ·rw [getD_set_ne true (Ne.symm hj)]; simp [hj])
    have e2' : iK ops (listed.setIfInBounds i true)=l1++l2:=e2
    have e1' : iK ops listed=l1++i::l2:=e1
    rw [e1'] at h
    have h1:=sH hI.len (fun k hk=>?_) h
    ·obtain ⟨o',Pq,h2⟩:=h1
     rw [ho] at Pq; cases Pq
     refine Td cy (todo:=fun j=>j∈iK ops listed) (R:=fun s'=>nj X ops base (l1++l2) s' K) ho (by rw [e1']; simp) hI h2 fun s' a' w' Γ' k1 k2 k3 k4=>?_
     refine ih (listed:=listed.setIfInBounds i true) (s:=s') (Γ:=Γ') (K:=K) (by simpa using cS) ?_ ?_ ?_ ?_ fun s2 a2 w2 eG j1 j2 j3 j4=>hK s2 a2 w2 eG j1 (k2.trans k3 j2) (k3.trans j3) j4
     ·intro j oj hj hoj m hm
      by_cases hji:j=i
      ·subst hji
       rw [ho] at hoj; cases hoj
       exact getD_set_true (hid m hm)
      ·rw [getD_set_ne false (Ne.symm hji)] at hj
       exact getD_set_true (A5 j oj hj hoj m hm)
     ·rw [e2']
      rw [e1'] at hlen
      simp only [axG,List.length_cons] at hlen ⊢
      omega
     ·refine ⟨k4.wr,k4.fr,k4.gl,k4.nw,fun j hj=>k4.fresh j ?_,k4.df,k4.len⟩
      rw [np] at hj ⊢
      by_cases hji:j=i
      ·subst hji
       exfalso
       have:=hj.2
       simp [hil] at this
      ·rw [getD_set_ne true (Ne.symm hji)] at hj
       exact ⟨hj,hji⟩
     ·rw [e2']; exact k1
    ·obtain ⟨h2,h3⟩:=e3 k hk
     have hka:ahead ops ops.size k i=false:=by
      cases hh:ahead ops ops.size k i with
      | false=>rfl
      | true=>
        exfalso
        have:=sI (L:=fun m=>listed.getD m false=true) (fun i o h1 h2=>A5 i o h1 h2) ops.size (fun o' Pq=>by rw [ho] at Pq; cases Pq; exact hid) hh
        have jc:k<listed.size:=by omega
        simp only [ayZ,ayY jc,Option.getD_some] at this h3
        rw [this] at h3
        cases h3
     refine ⟨h2,hka,?_,lQ k i h2 his hka⟩
     cases hh:ahead ops ops.size i k with
     | false=>rfl
     | true=>have:=FP aoZ ops.size hh; omega
theorem yg {β:Type} (cy:∀ f T,X.con f=some T->Known X.P X.glob f T) {Q:Exit->Act->World->Prop} {s:St} {Γ:Env} {w:World} {a:Act} {K:St->Tr β} {R:β->Prop} (hI:Inv X.glob N Γ s a w)
  (fI:qP X.P ops=true) (h:(xu X ops s.rg.length (axy ops.size) {s with rg:=s.rg++axx (16 * ops.size) none} K).run R)
  (hK:∀ s' a' w' Γ',(K s').run R->Ext Γ w Γ'->Wd w w'->Inv X.glob N Γ' s' a' w'->Q .normal a' w'):wpAny X.P .any ops Q ops.size (ay0 ops.size false) a {w with drawn:=w.drawn+1}:=by
 have h0:iK ops (ay0 ops.size false)=axy ops.size:=by
  unfold iK
  refine List.filter_eq_self.2 fun i hi=>?_
  rw [List.mem_range] at hi
  simp [hi]
 have jv:∀ n,live (s.rg++axx (16 * ops.size) none) n->live s.rg n:=by
  rintro n ⟨g,hg⟩
  rw [List.getElem?_append] at hg
  split at hg
  ·exact ⟨g,hg⟩
  ·rw [List.getElem?_replicate] at hg
   split at hg
   ·cases hg
   ·cases hg
 have hw' : aQ Γ (s.rg++axx (16 * ops.size) none) {w with drawn:=w.drawn+1}:=by
  refine ⟨fun n g hg=>?_,fun n m B B' b9 ln lm=>hI.wr.inj n m B B' b9 (jv n ln) (jv m lm),hI.wr.kp,fun n B ln=>hI.wr.apart n B (jv n ln),hI.wr.ro⟩
  obtain ⟨g',rY⟩:=jv n ⟨g,hg⟩
  have:g'=g:=by
   have hn:n<s.rg.length:=(List.getElem?_eq_some_iff.1 rY).1
   rw [ax6 hn,rY] at hg
   cases hg; rfl
  subst this
  obtain ⟨B,hB,hr⟩:=hI.wr.live n g' rY
  exact ⟨B,hB,hr.heap fun _=>rfl⟩
 refine Te (base:=s.rg.length) (N:=N) cy fI ops.size (Γ:=Γ) (s:={s with rg:=s.rg++axx (16 * ops.size) none}) (K:=fun s'=>(K s').run R) (by simp) (fun i o hi=>?_) (by rw [h0]; simp) ?_ (by rw [h0]; exact FK h) fun s' a' w' Γ' h1 h2 h3 h4=>?_
 ·exfalso
  simp only [ayZ,Array.getElem?_replicate] at hi
  split at hi <;> simp at hi
 ·exact ⟨hw',hI.fr,hI.gl,fun n hn=>hI.nw n (by omega),fun i _ n hn _=>hI.nw n (by omega),hI.df,by simp⟩
 ·have Fb:Wd w {w with drawn:=w.drawn+1}:=⟨rfl,rfl,rfl,axB _⟩
  refine hK s' a' w' Γ' h1 ⟨h2.le,h2.ro,h2.nw⟩ (Fb.trans h3) ⟨h4.wr,h4.fr,h4.gl,fun n hn=>h4.nw n (Nat.le_trans h4.len hn),h4.df⟩
theorem I' {β:Type} (cy:∀ f T,X.con f=some T->Known X.P X.glob f T) (hm:X.P.follows .mixedOrders=true) {id:Nat} {Q:Exit->Act->World->Prop} {s:St} {Γ:Env} {w:World} {a:Act} {K:St->Tr β} {R:β->Prop} (hI:Inv X.glob N Γ s a w)
  (fI:qP X.P ops=true) (h:(xu X ops s.rg.length (axy ops.size) {s with rg:=s.rg++axx (16 * ops.size) none} K).run R)
  (hK:∀ s' a' w' Γ',(K s').run R->Ext Γ w Γ'->Wd w w'->Inv X.glob N Γ' s' a' w'->Q .normal a' w'):(Code.region id ops true).wp X.P Q a w:=
 wp_region_any hm (yg cy hI fI h hK)
end
def Env.strip (l:List Nat) (Γ:Env):Env:={μ:=Γ.μ,kp:=fun b=>if b∈l then none else Γ.kp b,ro:=fun b=>if b∈l then false else Γ.ro b,er:=Γ.er}
def _root_.Go.Obj.Pz:Obj->Bool
 | .cells _ _ _=>true
 | .map _ _=>true
 | _=>false
def dM (Γ:Env) (l:List Nat):Prop:=∀ b∈l,∃ o,Γ.kp b=some o∧o.Pz=false
section
variable {Γ:Env} {l:List Nat}
theorem eD {b:Nat} (h:b ∉ l):(Γ.strip l).kp b=Γ.kp b:=if_neg h
theorem kO {b:Nat} (h:b ∉ l):(Γ.strip l).ro b=Γ.ro b:=if_neg h
theorem dM.CY (h:dM Γ l) {b:Nat} {c:Array Value} {e:TypeId} {fz:Nat × Nat} (hb:Γ.kp b=some (.cells c e fz)):b ∉ l:=fun hm=>by
 obtain ⟨o,h1,h2⟩:=h b hm
 rw [hb] at h1
 cases h1
 cases h2
theorem dM.yh (h:dM Γ l) {b:Nat} (hb:Γ.kp b=none):b ∉ l:=fun hm=>by
 obtain ⟨o,h1,-⟩:=h b hm
 rw [hb] at h1
 cases h1
theorem dE.strip (hn:dM Γ l) {b o:Nat} {vs:List Value} (r:dE Γ b o vs):dE (Γ.strip l) b o vs:=by
 obtain ⟨h1,c,e,fz,h2,h3⟩:=r
 have hb:=hn.CY h2
 exact ⟨(kO hb).trans h1,c,e,fz,(eD hb).trans h2,h3⟩
theorem FR.strip (hn:dM Γ l) {x:NC} {v:Value} (r:FR Γ x v):FR (Γ.strip l) x v:=by
 refine ⟨?_,r.2⟩
 replace r:=r.1
 cases x with
 | l k xs=>
   obtain ⟨a,cap,h1,h2,h3⟩:=r
   exact ⟨a,cap,h1,h2,h3.imp id fun ⟨ax,off,h4,h5⟩=>⟨ax,off,h4,h5.strip hn⟩⟩
 | lr ks xs=>
   obtain ⟨a,cap,h1,h2,h0,h3⟩:=r
   exact ⟨a,cap,h1,h2,h0,h3.imp id fun ⟨ax,off,h4,h5⟩=>⟨ax,off,h4,h5.strip hn⟩⟩
 | _=>exact r
theorem gR.strip (hn:dM Γ l) {sch:List Part} {row:List FC} {v:Value} (r:gR Γ sch row v):gR (Γ.strip l) sch row v:=by
 obtain ⟨vs,h1,h2,h3⟩:=r
 exact ⟨vs,h1,h2.imp fun _ _ r=>r.strip hn,h3⟩
theorem lH.strip (hn:dM Γ l) {x:NC} {v:Value} (r:lH Γ x v):lH (Γ.strip l) x v:=by
 cases x with
 | l k xs=>
   obtain ⟨a,cap,h1,h2,h3⟩:=r
   exact ⟨a,cap,h1,h2,h3.imp id fun ⟨ax,off,h4,h5⟩=>⟨ax,off,h4,h5.strip hn⟩⟩
 | lr ks xs=>
   obtain ⟨a,cap,h1,h2,h0,h3⟩:=r
   exact ⟨a,cap,h1,h2,h0,h3.imp id fun ⟨ax,off,h4,h5⟩=>⟨ax,off,h4,h5.strip hn⟩⟩
 | pl k xs i=>obtain ⟨ax,off,h1,h2⟩:=r; exact ⟨ax,off,h1,h2.strip hn⟩
 | pr ks xs i c=>obtain ⟨ax,off,h1,h2⟩:=r; exact ⟨ax,off,h1,h2.strip hn⟩
 | lt sch xs=>
   obtain ⟨a,cap,h1,h2,h0,hk,h3⟩:=r
   exact ⟨a,cap,h1,h2,h0,hk,h3.imp id fun ⟨b,o,vs,h4,h5,h6⟩=>⟨b,o,vs,h4,h5.strip hn,h6.imp fun _ _ r=>r.strip hn⟩⟩
 | pt sch xs i c=>
   obtain ⟨b,o,vs,h1,h0,hk,h2,h3⟩:=r
   exact ⟨b,o,vs,h1,h0,hk,h2.strip hn,h3.imp fun _ _ r=>r.strip hn⟩
 | _=>exact r
theorem CR.strip (hn:dM Γ l) {x:NC} {v:Value} (r:CR Γ x v):CR (Γ.strip l) x v:=⟨lH.strip hn r.1,r.2⟩
theorem cM.strip (hn:dM Γ l) {x:NV} {v:Value} (r:cM Γ x v):cM (Γ.strip l) x v:=by
 cases x with
 | c x=>exact CR.strip hn r
 | ag xs=>obtain ⟨vs,h1,h2⟩:=r; exact ⟨vs,h1,h2.imp fun _ _ r=>CR.strip hn r⟩
 | sg l=>obtain ⟨vs,h1,h2,h3⟩:=r; exact ⟨vs,h1,h2.imp fun _ _ r=>CR.strip hn r,h3⟩
theorem b5.strip (hn:dM Γ l) {x:NS} {v:Value} (r:b5 Γ x v):b5 (Γ.strip l) x v:=by
 cases x with
 | v x=>exact cM.strip hn r
 | tu xs=>obtain ⟨vs,h1,h2⟩:=r; exact ⟨vs,h1,h2.imp fun _ _ r=>cM.strip hn r⟩
 | dead=>trivial
theorem cO.strip (hn:dM Γ l) {fr:List NS} {t:Array Value} (r:cO Γ fr t):cO (Γ.strip l) fr t:=R2.imp r fun _ _ r=>b5.strip hn r
theorem bG.strip (hn:dM Γ l) {st:Nat} {b:Body} {vs:List Value} (r:bG Γ st b vs):bG (Γ.strip l) st b vs:=by
 cases b with
 | cells xs=>obtain ⟨l1,l2,h1,h2⟩:=r; exact ⟨l1,l2,h1,h2.imp fun _ _ r=>CR.strip hn r⟩
 | sg s=>obtain ⟨l1,l2,h1,h2,h3⟩:=r; exact ⟨l1,l2,h1,h2.imp fun _ _ r=>CR.strip hn r,h3⟩
 | ints k xs=>exact r
 | aA ks xs=>exact r
 | mp ks sch xs=>exact r
 | ij sch xs=>obtain ⟨hs,h0,l1,l2,h1,h2,h3⟩:=r; exact ⟨hs,h0,l1,l2,h1,h2.imp fun _ _ r=>FR.strip hn r,h3⟩
theorem aQ.strip {rg:List (Option aG)} {w w' : World} (hn:dM Γ l) (h:aQ Γ rg w) (hh:∀ b,b ∉ l->w'.heap[b]? = w.heap[b]?):aQ (Γ.strip l) rg w':=by
 refine ⟨fun n g hg=>?_,h.inj,fun b o hb=>?_,fun n B hl hB=>?_,fun b hb=>?_⟩
 ·obtain ⟨B,hB,hr⟩:=h.live n g hg
  refine ⟨B,hB,?_⟩
  rcases hr with hr | ⟨h0,c,hA⟩ | ⟨h0,hM⟩
  ·exact .inl hr
  ·have hm:=hn.yh (h.apart n B ⟨g,hg⟩ (Env.bt.2 ⟨hB,h0⟩))
   exact .inr (.inl ⟨h0,c,(hh _ hm).trans hA.heap,hA.st,hA.sz,hA.body.strip hn,hA.part⟩)
  ·have hm:=hn.yh (h.apart n B ⟨g,hg⟩ (Env.bt.2 ⟨hB,h0⟩))
   obtain ⟨⟨ks,sch,xs,es,ck,h1,h2,h3⟩,h4,h5⟩:=hM
   exact .inr (.inr ⟨h0,⟨ks,sch,xs,es,ck,h1,(hh _ hm).trans h2,h3.imp fun _ _ r=>⟨r.1.strip hn,r.2.strip hn⟩⟩,h4,h5⟩)
 ·have hH : (if b∈l then none else Γ.kp b)=some o:=hb
  by_cases hm:b∈l
  ·rw [if_pos hm] at hH; cases hH
  ·rw [if_neg hm] at hH; exact (hh b hm).trans (h.kp b o hH)
 ·show (if B.ax∈l then none else Γ.kp B.ax)=none
  rw [if_neg (hn.yh (h.apart n B hl hB))]
  exact h.apart n B hl hB
 ·have hH : (if b∈l then false else Γ.ro b)=true:=hb
  by_cases hm:b∈l
  ·rw [if_pos hm] at hH; cases hH
  ·rw [if_neg hm] at hH
   obtain ⟨o,ho⟩:=h.ro b hH
   exact ⟨o,(if_neg hm).trans ho⟩
theorem GlobOk.strip {gl:List Nat} (hn:dM Γ l) (h:GlobOk gl Γ):GlobOk gl (Γ.strip l):=by
 refine ⟨fun x hx=>?_,h.2⟩
 obtain ⟨ad,c,e,fz,ca,ta,h1,h2,h3,h4⟩:=h.1 x hx
 exact ⟨ad,c,e,fz,ca,ta,h1,(eD (hn.CY h2)).trans h2,h3,(eD (hn.CY h4)).trans h4⟩
theorem Ext.strip {Γ0:Env} {w0:World} (h:Ext Γ0 w0 Γ) (h0:∀ b∈l,Γ0.kp b=none∧Γ0.ro b=false):Ext Γ0 w0 (Γ.strip l):=by
 refine ⟨⟨h.le.μ,fun b o hb=>?_,fun b hb=>?_,h.le.er⟩,fun b hb=>?_,h.nw⟩
 ·have hm:b ∉ l:=fun hm=>by rw [(h0 b hm).1] at hb; cases hb
  exact (eD hm).trans (h.le.kp b o hb)
 ·have hm:b ∉ l:=fun hm=>by rw [(h0 b hm).2] at hb; cases hb
  exact (kO hm).trans (h.le.ro b hb)
 ·have hH : (if b∈l then false else Γ.ro b)=true:=hb
  by_cases hm:b∈l
  ·rw [if_pos hm] at hH; cases hH
  ·rw [if_neg hm] at hH; exact h.ro b hH
end
def Env.hold (b:Nat) (o:Obj) (Γ:Env):Env:={μ:=Γ.μ,kp:=fun b'=>if b'=b then some o else Γ.kp b',ro:=Γ.ro,er:=Γ.er}
section
variable {Γ:Env} {b:Nat} {o:Obj}
theorem wQ:(Γ.hold b o).kp b=some o:=if_pos rfl
theorem pX (h:Γ.kp b=none):Γ.le (Γ.hold b o):=by
 refine ⟨fun _ _ h=>h,fun b' o' hb=>?_,fun _ h=>h,rfl⟩
 have b9:b'≠b:=fun e=>by rw [e,h] at hb; cases hb
 exact (if_neg b9).trans hb
theorem aQ.hold {rg:List (Option aG)} {w:World} (h:aQ Γ rg w) (hk:Γ.kp b=none) (hw:w.heap[b]? = some o) (ho:o.Pz=false):aQ (Γ.hold b o) rg w:=by
 refine ⟨fun n g hg=>?_,h.inj,fun b' o' hb=>?_,fun n B hl hB=>?_,fun b' hb=>?_⟩
 ·obtain ⟨B,hB,r⟩:=h.live n g hg
  exact ⟨B,hB,r.mono (pX hk)⟩
 ·have hH : (if b'=b then some o else Γ.kp b')=some o':=hb
  by_cases hm:b'=b
  ·rw [if_pos hm] at hH; cases hH; rw [hm]; exact hw
  ·rw [if_neg hm] at hH; exact h.kp b' o' hH
 ·obtain ⟨g,hg⟩:=hl
  have hB:Γ.pt n=some B:=hB
  have b9:B.ax≠b:=by
   rcases h.AA hB hg with ⟨c,hA⟩ | hM
   ·have h1:=hA.heap
    exact fun e=>by rw [e,hw] at h1; cases h1; cases ho
   ·obtain ⟨ks,sch,xs,es,ck,-,h1,-⟩:=hM.mp
    exact fun e=>by rw [e,hw] at h1; cases h1; cases ho
  exact (if_neg b9).trans (h.apart n B ⟨g,hg⟩ hB)
 ·obtain ⟨o',Pq⟩:=h.ro b' hb
  exact ⟨o',(pX hk).kp _ _ Pq⟩
theorem FT {w:World} (hk:Γ.kp b=none):Ext Γ w (Γ.hold b o):=⟨pX hk,fun _ h=>.inl h,fun n B h=>.inr ⟨n,B,h,rfl⟩⟩
end
def shut:List Nat->World->World
 | [],w=>w
 | D::l,w=>shut l (w.putObj D (.deferred none))
theorem yi:∀ (l:List Nat) (w:World) (b:Nat),b ∉ l->(shut l w).heap[b]? = w.heap[b]?
 | [],_,_,_=>rfl
 | D::l,w,b,h=>by
   rw [List.mem_cons,not_or] at h
   exact (yi l _ b h.2).trans (World.putObj_heap_other h.1)
theorem CZ:∀ (l:List Nat) (w:World),Wd w (shut l w)
 | [],w=>Wd.refl w
 | D::l,w=>by
   have h:Wd w (w.putObj D (.deferred none)):=⟨rfl,rfl,rfl,by rw [World.putObj_size]; exact axB _⟩
   exact h.trans (CZ l _)
theorem nq {n:Nat} {P:Program} {fn:Func} {tmps:Array Value} {R:Ending->World->Prop}:∀ (l:List Nat) {w:World},l.Nodup->(∀ D∈l,w.heap[D]? = some (.deferred (some [])))->
  LeavesIn Fence.wide n P fn tmps R [] .returning (shut l w)->LeavesInM Fence.wide n P fn tmps R (l.map fun D=>{target:=.collected D,args:=#[]}) .returning w
 | [],_,_,_,h=>h
 | D::l,w,AZ,hw,h=>by
   rw [List.nodup_cons] at AZ
   refine ⟨by simp,.inl ⟨D,w.putObj D (.deferred none),rfl,run_takeDeferred (hw D (by simp)),nq l AZ.2 (fun D' hD'=>?_) h⟩⟩
   have b9:D'≠D:=fun e=>AZ.1 (e ▸ hD')
   exact (World.putObj_heap_other b9).trans (hw D' (by simp [hD']))
theorem Inv.shut {gl:List Nat} {N:Nat} {rg0:List (Option aG)} {Γ Γ0:Env} {s:St} {a:Act} {w w0:World} (hI:Inv gl N Γ s a w) (hE:Ext Γ0 w0 Γ) (h0:aQ Γ0 rg0 w0) (hN:w0.heap.size<=N) :
  ∃ l Γ',a.defers=l.map (fun D=>{target:=.collected D,args:=#[]})∧l.Nodup∧(∀ D∈l,w.heap[D]? = some (.deferred (some [])))∧Ext Γ0 w0 Γ'∧Inv gl N Γ' s {a with defers:=[]} (Nx.shut l w)∧(∀ b,b<N->Γ'.kp b=Γ.kp b)∧∀ D∈l,N<=D:=by
 obtain ⟨l,h1,h2,h3⟩:=hI.df
 have hn:dM Γ l:=fun D hD=>⟨_,(h3 D hD).2,rfl⟩
 have Po:∀ D∈l,Γ0.kp D=none:=fun D hD=>by
  cases hk:Γ0.kp D with
  | none=>rfl
  | some o=>
    have:=(Array.getElem?_eq_some_iff.1 (h0.kp D o hk)).1
    have:=(h3 D hD).1
    omega
 refine ⟨l,Γ.strip l,h1,h2,fun D hD=>hI.wr.kp _ _ (h3 D hD).2,hE.strip fun D hD=>⟨Po D hD,?_⟩,⟨hI.wr.strip hn (yi l w),cO.strip hn hI.fr,hI.gl.strip hn,hI.nw,Df.nil _ _⟩,fun b hb=>eD fun hm=>by have:=(h3 b hm).1; omega,fun D hD=>(h3 D hD).1⟩
 cases hr:Γ0.ro D with
 | false=>rfl
 | true=>
   obtain ⟨o,ho⟩:=h0.ro D hr
   rw [Po D hD] at ho
   cases ho
theorem yj {gl:List Nat} {N m:Nat} {s:St} {Γ Γ0:Env} {a:Act} {w w0:World} {fuel:Nat} {roots:List Nat} {rg:List (Option aG)} (hI:Inv gl N Γ s a w) (hE:Ext Γ0 w0 Γ) (h0:∀ n,m<=n->Γ0.μ n=none)
  (kb:ik (bZ (dz (axy m++(reach s fuel roots []).filter fun n=>decide (m<=n)))) ((axy m++(reach s fuel roots []).filter fun n=>decide (m<=n)).map s.bK)=some rg) :
  ∃ Γ',Ext Γ0 w0 Γ'∧Ren (dz (axy m++(reach s fuel roots []).filter fun n=>decide (m<=n))) Γ Γ'∧lN Γ Γ'∧aQ Γ' rg w∧GlobOk gl Γ'∧(∀ n,rg.length<=n->Γ'.μ n=none)∧Γ'.kp=Γ.kp:=by
 generalize hL:axy m++(reach s fuel roots []).filter (fun n=>decide (m<=n))=L at *
 have AZ:L.Nodup:=by
  rw [<- hL,List.nodup_append]
  refine ⟨List.nodup_range,(dL s fuel roots [] (by simp)).filter _,fun x hx y hy=>?_⟩
  rw [List.mem_range] at hx
  rw [List.mem_filter,decide_eq_true_eq] at hy
  omega
 have Tb:∀ n,n<m->L[n]? = some n:=by
  intro n hn
  rw [<- hL,ax6 (by simpa using hn),List.getElem?_range hn]
 let Γ' : Env:={μ:=fun j=>(L[j]?).bind Γ.μ,kp:=Γ.kp,ro:=Γ.ro,er:=Γ.er}
 have dK:lN Γ Γ':=fun b o h1 h2=>⟨h1,h2⟩
 have gv:Ren (dz L) Γ Γ':=⟨fun n j B h1 h2=>by show (L[j]?).bind Γ.μ=_; rw [qT h1]; exact h2,rfl⟩
 refine ⟨Γ',⟨⟨fun n B hB=>?_,hE.le.kp,hE.le.ro,hE.le.er⟩,hE.ro,fun n B hB=>?_⟩,gv,dK,?_,?_,fun n hn=>?_,rfl⟩
 ·have hn:n<m:=by
   rcases Nat.lt_or_ge n m with h | h
   ·exact h
   ·rw [h0 n h] at hB; cases hB
  show (L[n]?).bind Γ.μ=_
  rw [Tb n hn]
  exact hE.le.μ n B hB
 ·obtain ⟨hB1,hB2⟩:=Env.bt.1 hB
  have sj : (L[n]?).bind Γ.μ=some B:=hB1
  rw [Option.bind_eq_some_iff] at sj
  obtain ⟨n',-,h2⟩:=sj
  exact hE.nw n' B (Env.bt.2 ⟨h2,hB2⟩)
 ·exact hI.wr.restrict AZ kb (fun _=>rfl) rfl dK hI.wr.kp (fun n B _ hl hB=>hI.wr.apart n B hl hB) hI.wr.ro
 ·exact hI.gl
 ·show (L[n]?).bind Γ.μ=none
  have:=(lO kb).1
  rw [axD (by rw [List.length_map] at this; omega)]
  rfl
theorem yk {Γ:Env} {live:List Nat}:∀ {fr:List NS} {vs:List Value} {i:Nat},R2 (b5 Γ) fr vs->R2 (b5 Γ) (Cf live i fr) vs
 | [],vs,i,h=>by cases h; exact .nil
 | x::fr,vs,i,h=>by
   cases h with
   | cons r h=>
     refine .cons ?_ (yk h)
     split
     ·exact r
     ·trivial
theorem vB {gl:List Nat} {N m:Nat} {live:List Nat} {s s' : St} {Γ Γ0:Env} {a:Act} {w w0:World} (hI:Inv gl N Γ s a w) (hE:Ext Γ0 w0 Γ) (h0:∀ n,m<=n->Γ0.μ n=none) (h:norm m live s=some s') :
  ∃ Γ',Ext Γ0 w0 Γ'∧Inv gl N Γ' s' a w∧Γ'.kp=Γ.kp∧Γ'.er=Γ.er:=by
 unfold norm at h
 simp only at h
 split at h
 case h_2=>cases h
 rename_i rg kb
 cases h
 obtain ⟨Γ',h1,gv,dK,h2,h3,h4,Pc⟩:=yj hI hE h0 kb
 refine ⟨Γ',h1,⟨h2,?_,h3,h4,by obtain ⟨l,h5,h6,h7⟩:=hI.df; exact ⟨l,h5,h6,fun D hD=>⟨(h7 D hD).1,by rw [Pc]; exact (h7 D hD).2⟩⟩⟩,Pc,by rw [h1.le.er,hE.le.er]⟩
 refine R2.om (yk (live:=live) (i:=0) hI.fr) fun x v r=>?_
 cases hm:rU (bZ (dz (axy m++(reach s 256 (axy m++(Cf live 0 s.fr).flatMap NS.names) []).filter fun n=>decide (m<=n)))) x with
 | none=>trivial
 | some y=>exact pO gv (fun _=>dK) r hm
theorem iL {gl:List Nat} {N m:Nat} {live:List Nat} {s s' : St} {Γ Γ0:Env} {a:Act} {w w0:World} (hI:Inv gl N Γ s a w) (hE:Ext Γ0 w0 Γ) (h0:∀ n,m<=n->Γ0.μ n=none) (h:norm m live s=some s') :
  ∃ Γ',Ext Γ0 w0 Γ'∧Inv gl N Γ' s' a w:=by
 obtain ⟨Γ',h1,h2,-,-⟩:=vB hI hE h0 h
 exact ⟨Γ',h1,h2⟩
def uk:aj->Exit
 | .normal=>.normal
 | .exit id=>.exit id
 | .ret=>.ret
def jL (P:Program) (gl:List Nat) (m:Nat) (id:Nat) (body:Code) (L:St->Tr (aj × St)):Prop:=
 ∀ (Γ0:Env) (w0:World),(∀ n,m<=n->Γ0.μ n=none)->∀ (s:St) (Γ:Env) (a:Act) (w:World) (R:aj × St->Prop) (Q:Exit->Act->World->Prop),Inv gl w0.heap.size Γ s a w->Ext Γ0 w0 Γ->Wd w0 w->(L s).run R->
  (∀ e s' a' w' Γ',R (e,s')->Ext Γ0 w0 Γ'->Wd w0 w'->Inv gl w0.heap.size Γ' s' a' w'->Q (uk e) a' w')->(Code.block id (.loop body)).wp P Q a w
def abw (P:Program) (gl:List Nat) (m:Nat) (id:Nat) (c:Code) (L:St->Tr (aj × St)):Prop:=
 ∀ (Γ0:Env) (w0:World),(∀ n,m<=n->Γ0.μ n=none)->∀ (s:St) (Γ:Env) (a:Act) (w:World) (R:aj × St->Prop) (Q:Exit->Act->World->Prop),Inv gl w0.heap.size Γ s a w->Ext Γ0 w0 Γ->Wd w0 w->(L s).run R->
  (∀ e s' a' w' Γ',R (e,s')->Ext Γ0 w0 Γ'->Wd w0 w'->Inv gl w0.heap.size Γ' s' a' w'->Q (uk e) a' w')->(Code.block id c).wp P Q a w
structure aM (X:Cx) (c:Code):Prop where
 loops:∀ id body,(id,body)∈bY c->∀ x,X.loops.find? (·.1==id)=some x->jL X.P X.glob X.m id body x.2.2
 ranges:∀ id b,(id,b)∈cG c->∀ x,X.loops.find? (·.1==id)=some x->abw X.P X.glob X.m id b x.2.2
theorem aM.seq1 {X:Cx} {x y:Code} (h:aM X (.seq x y)):aM X x:=⟨fun id b hb=>h.loops id b (by simp [bY,hb]),fun id b hb=>h.ranges id b (by simp [cG,hb])⟩
theorem aM.auH {X:Cx} {x y:Code} (h:aM X (.seq x y)):aM X y:=⟨fun id b hb=>h.loops id b (by simp [bY,hb]),fun id b hb=>h.ranges id b (by simp [cG,hb])⟩
theorem aM.ao1 {X:Cx} {c:Operand} {x y:Code} (h:aM X (.cond c x y)):aM X x:=⟨fun id b hb=>h.loops id b (by simp [bY,hb]),fun id b hb=>h.ranges id b (by simp [cG,hb])⟩
theorem aM.ao2 {X:Cx} {c:Operand} {x y:Code} (h:aM X (.cond c x y)):aM X y:=⟨fun id b hb=>h.loops id b (by simp [bY,hb]),fun id b hb=>h.ranges id b (by simp [cG,hb])⟩
theorem A6 {β:Type} {X:Cx} {id:Nat} {c:Code} {s:St} {K:aj->St->Tr β} (h:∀ b,c≠.loop b) (h' : ∀ g ps a b,c≠.rangeFunc g ps a b):zV X (.block id c) s K=zV X c s (fun e s'=>match e with
  | .exit j=>if j=id then K .normal s' else K (.exit j) s'
  | e=>K e s'):=by
 cases c <;> first | rfl | exact (h _ rfl).elim | exact (h' _ _ _ _ rfl).elim
theorem ym {id:Nat} {c:Code} (h:∀ b,c≠.loop b) (h' : ∀ g ps a b,c≠.rangeFunc g ps a b):cG (.block id c)=cG c:=by
 cases c <;> first | rfl | exact (h _ rfl).elim | exact (h' _ _ _ _ rfl).elim
theorem qx {id:Nat} {c:Code} (h:∀ b,c≠.loop b):bY (.block id c)=bY c:=by
 cases c <;> first | rfl | exact (h _ rfl).elim
theorem A7 {X:Cx} (cy:∀ f T,X.con f=some T->Known X.P X.glob f T) (hm:X.P.follows .mixedOrders=true) {Γ0:Env} {w0:World} (h0:∀ n,X.m<=n->Γ0.μ n=none) :
  ∀ (c:Code) {β:Type},aM X c->∀ {s:St} {Γ:Env} {a:Act} {w:World} {K:aj->St->Tr β} {R:β->Prop} {Q:Exit->Act->World->Prop},Inv X.glob w0.heap.size Γ s a w->Ext Γ0 w0 Γ->Wd w0 w->(zV X c s K).run R->
   (∀ e s' a' w' Γ',(K e s').run R->Ext Γ0 w0 Γ'->Wd w0 w'->Inv X.glob w0.heap.size Γ' s' a' w'->Q (uk e) a' w')->c.wp X.P Q a w:=by
 intro c
 induction c with
 | skip=>
   intro β hl s Γ a w K R Q hI hE hW h hK
   exact wp_skip (hK .normal s a w Γ h hE hW hI)
 | exit id=>
   intro β hl s Γ a w K R Q hI hE hW h hK
   exact wp_exit (hK (.exit id) s a w Γ h hE hW hI)
 | ret=>
   intro β hl s Γ a w K R Q hI hE hW h hK
   exact wp_ret (hK .ret s a w Γ h hE hW hI)
 | seq x y wI wJ=>
   intro β hl s Γ a w K R Q hI hE hW h hK
   refine wp_seq (wI hl.seq1 hI hE hW h fun e s' a' w' Γ' h' jF kf kg=>?_)
   cases e with
   | normal=>exact wJ hl.auH kg jF kf h' hK
   | exit id=>exact hK (.exit id) s' a' w' Γ' h' jF kf kg
   | ret=>exact hK .ret s' a' w' Γ' h' jF kf kg
 | cond c x y wI wJ=>
   intro β hl s Γ a w K R Q hI hE hW h hK
   have hlx:aM X x:=hl.ao1
   have hly:aM X y:=hl.ao2
   have hb:∀ b,s.ev c=.v (.c (.b b))->a.eval c=.bool b:=fun b hb=>by
    have:=aS hI.fr c
    rw [hb] at this
    exact this.1
   simp only [zV] at h
   split at h
   ·rename_i t b he
    have vC:s.fr[t]? = some (.v (.c (.b b))):=by
     have:s.fr.getD t .dead=.v (.c (.b b)):=he
     rw [axF] at this
     cases e:s.fr[t]? with
     | none=>rw [e] at this; cases this
     | some z=>rw [e] at this; simpa using this
    refine wp_cond (hb b he) ?_
    rcases aW.1 h with ⟨rfl,h⟩ | ⟨rfl,h⟩
    ·rw [ni vC] at h; exact wI hlx hI hE hW h hK
    ·rw [ni vC] at h; exact wJ hly hI hE hW h hK
   ·rename_i b b9 he
    refine wp_cond (hb b he) ?_
    rcases aW.1 h with ⟨rfl,h⟩ | ⟨rfl,h⟩
    ·exact wI hlx hI hE hW h hK
    ·exact wJ hly hI hE hW h hK
   ·exact h.elim
 | block id c ih=>
   intro β hl s Γ a w K R Q hI hE hW h hK
   by_cases hc:∃ b,c=.loop b
   ·obtain ⟨body,rfl⟩:=hc
    simp only [zV] at h
    split at h
    case h_2=>exact h.elim
    rename_i y live L hf
    split at h
    case h_2=>exact h.elim
    rename_i s' hn
    rw [Tr.run_bind] at h
    obtain ⟨Γ',jF,kg⟩:=iL hI hE h0 hn
    exact hl.loops id body (by simp [bY]) _ hf Γ0 w0 h0 s' Γ' a w _ Q kg jF hW h fun e s2 a2 w2 eG k1 k2 k3 k4=>hK e s2 a2 w2 eG k1 k2 k3 k4
   by_cases hcr:∃ g ps a b,c=.rangeFunc g ps a b
   ·obtain ⟨g,ps,ac,bc,rfl⟩:=hcr
    simp only [zV] at h
    split at h
    case h_2=>exact h.elim
    rename_i y live L hf
    split at h
    case h_2=>exact h.elim
    rename_i s' hn
    rw [Tr.run_bind] at h
    obtain ⟨Γ',jF,kg⟩:=iL hI hE h0 hn
    exact hl.ranges id _ (by simp [cG]) _ hf Γ0 w0 h0 s' Γ' a w _ Q kg jF hW h fun e s2 a2 w2 eG k1 k2 k3 k4=>hK e s2 a2 w2 eG k1 k2 k3 k4
   ·have lJ : ∀ b,c≠.loop b:=fun b e=>hc ⟨b,e⟩
    have qt:∀ g ps a b,c≠.rangeFunc g ps a b:=fun g ps a b e=>hcr ⟨g,ps,a,b,e⟩
    rw [A6 lJ qt] at h
    refine wp_block (ih ⟨fun i b hb=>hl.loops i b (by rw [qx lJ]; exact hb),fun i b hb=>hl.ranges i b (by rw [ym lJ qt]; exact hb)⟩ hI hE hW h fun e s' a' w' Γ' h' jF kf kg=>?_)
    cases e with
    | normal=>exact hK .normal s' a' w' Γ' h' jF kf kg
    | ret=>exact hK .ret s' a' w' Γ' h' jF kf kg
    | exit j=>
      simp only at h'
      show if j=id then _ else _
      split at h'
      ·rename_i e; rw [if_pos e]; exact hK .normal s' a' w' Γ' h' jF kf kg
      ·rename_i e; rw [if_neg e]; exact hK (.exit j) s' a' w' Γ' h' jF kf kg
 | region id ops d=>
   intro β hl s Γ a w K R Q hI hE hW h hK
   have hk:∀ s' a' w' Γ',(K .normal s').run R->Ext Γ w Γ'->Wd w w'->Inv X.glob w0.heap.size Γ' s' a' w'->Q .normal a' w':=fun s' a' w' Γ' h1 h2 h3 h4=>hK .normal s' a' w' Γ' h1 (hE.trans hW h2) (hW.trans h3) h4
   cases d with
   | false=>exact wp_region_list (x3 cy ops.toList hI h hk)
   | true=>
     simp only [zV] at h
     split at h
     ·rename_i fI
      exact I' cy hm hI fI h hk
     ·exact h.elim
 | _=>
   intro β hl s Γ a w K R Q hI hE hW h hK
   exact h.elim
inductive RO where
 | next (s:St)
 | done (e:aj) (s:St)
def bu (X:Cx) (id:Nat) (live out:List Nat) (body:Code) (s:St):Tr RO:=
 zV X body s fun e s'=>match e with
  | .normal=>(match norm X.m live s' with
    | some Ja=>.ret (.next Ja)
    | none=>.fail)
  | .exit j=>(match norm X.m out s' with
    | some Ja=>if j=id then .ret (.done .normal Ja) else .ret (.done (.exit j) Ja)
    | none=>.fail)
  | .ret=>(match norm X.m out s' with
    | some Ja=>.ret (.done .ret Ja)
    | none=>.fail)
theorem cf {X:Cx} (cy:∀ f T,X.con f=some T->Known X.P X.glob f T) (hm:X.P.follows .mixedOrders=true) {id:Nat} {body:Code} {L:St->Tr (aj × St)} (hl:aM X body) (live out:List Nat) {α:Type} (h:α->St) (μ:α->Nat) (Pre:α->(aj × St->Prop)->Prop)
  (start:∀ s R,(L s).run R->∃ x,s=h x∧Pre x R)
  (round:∀ x R,Pre x R->(bu X id live out body (h x)).run fun o=>match o with
    | .next s=>∃ y,s=h y∧μ y<μ x∧Pre y R
    | .done e s=>R (e,s)):jL X.P X.glob X.m id body L:=by
 intro Γ0 w0 h0 s Γ a w R Q hI hE hW hL hK
 obtain ⟨x,rfl,hp⟩:=start s R hL
 refine wp_block (wp_loop_ghost (fun n a w=>∃ x Γ,μ x=n∧Pre x R∧Inv X.glob w0.heap.size Γ (h x) a w∧Ext Γ0 w0 Γ∧Wd w0 w) (μ x) ⟨x,Γ,rfl,hp,hI,hE,hW⟩ ?_)
 rintro n a1 w1 ⟨y,EA,rfl,hp1,hI1,hE1,LX⟩
 refine A7 cy hm h0 body hl hI1 hE1 LX (round y R hp1) fun e s' a' w' Γ' h' jF kf kg=>?_
 cases e with
 | normal=>
   simp only at h'
   split at h'
   ·rename_i s2 hn
    obtain ⟨z,hz,ff,hpz⟩:=h'
    obtain ⟨eG,PA,Jb⟩:=iL kg jF h0 hn
    subst hz
    exact ⟨μ z,ff,z,eG,rfl,hpz,Jb,PA,kf⟩
   ·exact h'.elim
 | exit j=>
   simp only at h'
   show if j=id then _ else _
   split at h'
   ·rename_i s2 hn
    obtain ⟨eG,PA,Jb⟩:=iL kg jF h0 hn
    split at h'
    ·rename_i e; rw [if_pos e]; exact hK .normal s2 a' w' eG h' PA kf Jb
    ·rename_i e; rw [if_neg e]; exact hK (.exit j) s2 a' w' eG h' PA kf Jb
   ·exact h'.elim
 | ret=>
   simp only at h'
   split at h'
   ·rename_i s2 hn
    obtain ⟨eG,PA,Jb⟩:=iL kg jF h0 hn
    exact hK .ret s2 a' w' eG h' PA kf Jb
   ·exact h'.elim
def cF (X:Cx) (id:Nat) (live out:List Nat) (body:Code):Nat->St->Tr (aj × St)
 | 0,_=>.fail
 | n+1,s=>(bu X id live out body s).bind fun o=>match o with
   | .next s'=>cF X id live out body n s'
   | .done e s'=>.ret (e,s')
theorem bL {X:Cx} (cy:∀ f T,X.con f=some T->Known X.P X.glob f T) (hm:X.P.follows .mixedOrders=true) {id:Nat} {body:Code} (hl:aM X body) (live out:List Nat) (n:Nat):jL X.P X.glob X.m id body (cF X id live out body n):=by
 refine cf cy hm hl live out (α:=Nat × St) (·.2) (·.1) (fun x R=>(cF X id live out body x.1 x.2).run R) (fun s R h=>⟨(n,s),rfl,h⟩) ?_
 rintro ⟨k,s⟩ R h
 cases k with
 | zero=>exact h.elim
 | succ k=>
   simp only [cF] at h
   rw [Tr.run_bind] at h
   refine Tr.aN _ (fun o ho=>?_) h
   cases o with
   | next s'=>exact ⟨(k,s'),rfl,Nat.lt_succ_self k,ho⟩
   | done e s'=>exact ho
def frame (n:Nat) (l:List (Nat × NS)):List NS:=(axy n).map fun j=>match l.find? (·.1==j) with
 | some x=>x.2
 | none=>.dead
theorem PC {P:Program} {gl:List Nat} {s:St} {Γ:Env} {t:TypeId} {x:NC} {v:Value} {r:List Bool × NS} (hx:CR Γ x v) (h:uW P gl s t x=some r):∃ ad,v=.pointer (some ad):=by
 cases x with
 | p r i c=>obtain ⟨⟨B,-,h⟩,-⟩:=hx; exact ⟨_,h⟩
 | q r o w i c=>obtain ⟨⟨B,-,h⟩,-⟩:=hx; exact ⟨_,h⟩
 | pl k xs i=>obtain ⟨⟨b,o,h,-⟩,-⟩:=hx; exact ⟨_,h⟩
 | pr ks xs i c=>obtain ⟨⟨b,o,h,-⟩,-⟩:=hx; exact ⟨_,h⟩
 | pt sch xs i c=>obtain ⟨⟨b,o,vs,h,-⟩,-⟩:=hx; exact ⟨_,h⟩
 | g x=>obtain ⟨h,-⟩:=hx; exact ⟨_,h⟩
 | _=>cases h
def FU (a:Act) (rv:ResultVar):Sem Value:=
 match rv with
 | .tmp t=>pure (a.tmps.getD t undef)
 | .cell c t=>do loadVar t (<- asAddr (a.tmps.getD c undef))
theorem PD {P:Program} {gl:List Nat} {N:Nat} {s:St} {Γ:Env} {a:Act} {w:World} {rv:ResultVar} {x:NV} (hI:Inv gl N Γ s a w) (h:EM P gl s rv=some x) :
  ∃ v,(FU a rv).run P w=.ok v w∧cM Γ x v:=by
 cases rv with
 | tmp t=>exact ⟨_,rfl,iE (aS hI.fr (.tmp t)) h⟩
 | cell c t=>
   simp only [EM] at h
   split at h
   case h_2=>cases h
   rename_i y hy
   split at h
   case h_2=>cases h
   rename_i z hz
   split at h
   case h_2=>cases h
   rename_i d hu
   cases h
   have hc:=cD (aS hI.fr (.tmp c)) hy
   obtain ⟨u,h1,h2⟩:=vd hI.wr hI.gl (by rw [hu]; rfl) hc hz (fun _ h=>by cases h)
   refine ⟨u,?_,h2⟩
   obtain ⟨ad,hp⟩:=PC hc hz
   rw [hp] at h1
   have hp' : a.tmps.getD c undef=.pointer (some ad):=hp
   simpa [FU,hp',Instr.loadAt,Instr.sureAddr,asAddr] using h1
theorem FV {P:Program} {gl:List Nat} {N:Nat} {s:St} {Γ:Env} {a:Act} {w:World} (hI:Inv gl N Γ s a w):∀ {l:List ResultVar} {xs:List NV},dJ (EM P gl s) l=some xs->
  ∃ vs:List Value,(l.mapM (FU a)).run P w=.ok vs w∧R2 (cM Γ) xs vs
 | [],xs,h=>by simp [dJ] at h; subst h; exact ⟨[],by simp,.nil⟩
 | rv::l,xs,h=>by
   simp only [dJ] at h
   split at h
   ·rename_i x r h1 h2
    cases h
    obtain ⟨v,e1,r1⟩:=PD hI h1
    obtain ⟨vs,e2,r2⟩:=FV hI h2
    refine ⟨v::vs,?_,.cons r1 r2⟩
    rw [List.mapM_cons]
    simp only [Sem.run_bind]
    rw [e1]
    simp only [Result.andThen_ok]
    rw [e2]
    simp
   ·cases h
theorem FW {P:Program} {gl:List Nat} {N:Nat} {s:St} {Γ:Env} {a:Act} {w:World} {fn:Func} {x:NS} (hI:Inv gl N Γ s a w) (h:Iv P gl s fn.results.toList=some x) :
  ∃ v,(results fn a.tmps).run P w=.ok v w∧b5 Γ x v:=by
 have key:∀ xs,dJ (EM P gl s) fn.results.toList=some xs->∃ vs:List Value,(results fn a.tmps).run P w=.ok (if h:vs.toArray.size=1 then vs.toArray[0] else .tuple vs.toArray) w∧R2 (cM Γ) xs vs:=by
  intro xs jd
  obtain ⟨vs,e,r⟩:=FV hI jd
  refine ⟨vs,?_,r⟩
  have e0:results fn a.tmps=(do
    let vs <- fn.results.mapM (FU a)
    pure (if h:vs.size=1 then vs[0] else .tuple vs)):=by
   unfold results
   congr 1
  rw [e0,Array.mapM_eq_mapM_toList]
  simp only [Sem.run_bind,Sem.run_map]
  rw [e]
  rfl
 unfold Iv at h
 split at h
 ·rename_i y hy
  cases h
  obtain ⟨vs,e,r⟩:=key _ hy
  cases r with
  | cons r1 r2=>cases r2; exact ⟨_,e,r1⟩
 ·rename_i l b9 hl
  cases h
  obtain ⟨vs,e,r⟩:=key _ hl
  refine ⟨_,e,?_⟩
  rw [dif_neg]
  ·exact ⟨vs,rfl,r⟩
  ·intro h1
   have hlen:=r.length
   simp only [ayJ] at h1
   rw [h1] at hlen
   match l,hlen with
   | [y],_=>exact b9 y rfl
 ·cases h
theorem um {P:Program} {gl:List Nat} {f:FuncId} {fn:Func} {c:Code} {T:au} (hf:P.funcs[f]? = some fn) (hb:fn.body=some c) (lT:(fn.name=="runtime.NumGoroutine")=false) (hm:P.follows .mixedOrders=true)
  (hT:∀ args I R,(T args I).run R->∃ con loops,(∀ f T,con f=some T->Known P gl f T)∧aM {P:=P,con:=con,glob:=gl,m:=I.length,loops:=loops} c∧(aD P gl con loops fn args I).run R):bP P gl f T:=by
 refine ⟨fun args w=>?_,?_⟩
 ·have h1:fn.name≠"runtime.NumGoroutine":=by simpa using lT
  simp [callFunc,hf,h1,hb]
 ·intro args I R hR Γ w vs hw hG dG IK
  obtain ⟨con,loops,cy,hl,h⟩:=hT args I R hR
  refine (callsIn_wide (n:=0)).1 (callsIn_of_wp_marks hf hb trivial (wpIn_wide.2 ?_) rfl)
  unfold aD at h
  rw [hb] at h
  simp only at h
  have hlen:=dG.length
  have hI:Inv gl w.heap.size Γ (enter fn args I) {tmps:=vs.toArray++ay0 (fn.ntmps - vs.toArray.size) undef,defers:=[]} w:=by
   refine ⟨hw,?_,hG,fun n hn=>IK n (by simpa [enter] using hn),Df.nil _ _⟩
   show R2 (b5 Γ) (args.map .v++axx (fn.ntmps - args.length) .dead) _
   have e:(vs.toArray++ay0 (fn.ntmps - vs.toArray.size) undef).toList=vs++axx (fn.ntmps - args.length) undef:=by simp [hlen]
   rw [e]
   have e1:R2 (b5 Γ) (args.map .v) vs:=R2.om dG fun _ _ r=>r
   have e2:R2 (b5 Γ) (axx (fn.ntmps - args.length) .dead) (axx (fn.ntmps - args.length) undef):=R2.replicate _ (show b5 Γ .dead undef from trivial)
   exact e1.append e2
  refine A7 (X:={P:=P,con:=con,glob:=gl,m:=I.length,loops:=loops}) cy hm (Γ0:=Γ) (w0:=w) IK c hl hI (Ext.refl Γ w) (Wd.refl w) h fun e s' a' w' Γ' h' jF kf kg=>?_
  have key:(match Se P gl I.length fn s' with | some o=>Tr.ret o | none=>.fail).run R->LeavesInM Fence.wide 0 P fn a'.tmps (fun e w'=>∃ o v Γ',(R o∧∀ n,o.rg.length<=n->Γ'.μ n=none)∧e=.returned v∧Ext Γ w Γ'∧b5 Γ' o.res v∧aQ Γ' o.rg w'∧Wd w w') a'.defers .returning w':=by
   intro h'
   obtain ⟨l,Γs,hd,AZ,sB,hEs,hIs,-,-⟩:=kg.shut jF hw (axB _)
   rw [hd]
   refine nq l AZ sB ?_
   split at h'
   case h_2=>exact h'.elim
   rename_i o ho
   unfold Se at ho
   split at ho
   case h_2=>cases ho
   rename_i res IL
   simp only at ho
   split at ho
   case h_2=>cases ho
   rename_i axs mY hmr kb
   cases ho
   obtain ⟨v,hv,hr⟩:=FW hIs IL
   obtain ⟨eG,h1,gv,dK,h2,h3,h4⟩:=yj hIs hEs IK kb
   exact ⟨v,hv,_,v,eG,⟨h',h4.1⟩,rfl,h1,pO gv (fun _=>dK) hr hmr,h2,kf.trans (CZ l w')⟩
  cases e with
  | normal=>exact key h'
  | ret=>exact key h'
  | exit j=>exact h'.elim
theorem FX {P:Program} {gl:List Nat} {f:FuncId} {fn:Func} {c:Code} {T:au} (hf:P.funcs[f]? = some fn) (hb:fn.body=some c) (lT:(fn.name=="runtime.NumGoroutine")=false) (hm:P.follows .mixedOrders=true)
 (hT:∀ args I R,(T args I).run R->∃ con loops,(∀ f T,con f=some T->Known P gl f T)∧aM {P:=P,con:=con,glob:=gl,m:=I.length,loops:=loops} c∧(aD P gl con loops fn args I).run R):Known P gl f T:=(um hf hb lT hm hT).known
end Go.Nx
