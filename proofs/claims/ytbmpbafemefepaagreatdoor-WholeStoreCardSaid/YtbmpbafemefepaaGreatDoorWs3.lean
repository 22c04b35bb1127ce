/-
  Joined: EngBb.
-/
import Derived.Test.YtbmpbafemefepaaGreatDoorWs2
import Derived.Orders
import Derived.RangeFuncNested
import Derived.Deep.LoopGhost
set_option linter.unusedVariables false
namespace Go.Nx
open Go
def Df (N:Nat) (Γ:Env) (ds:List Deferred):Prop:=
 ∃ l:List Nat,ds=l.map (fun D=>{target:=.collected D,args:=#[]})∧l.Nodup∧∀ D∈l,N≤D∧Γ.kp D=some (.deferred (some []))
theorem Df.mono {N:Nat} {Γ Γ' : Env} {ds:List Deferred} (h:Df N Γ ds) (hle:Γ.le Γ'):Df N Γ' ds:=by
 obtain ⟨l,h1,h2,h3⟩:=h
 exact ⟨l,h1,h2,fun D hD=>⟨(h3 D hD).1,hle.kp _ _ (h3 D hD).2⟩⟩
theorem Df.nil (N:Nat) (Γ:Env):Df N Γ []:=⟨[],rfl,.nil,fun D h=>by cases h⟩
structure Inv (gl:List Nat) (N:Nat) (Γ:Env) (s:St) (a:Act) (w:World):Prop where
 wr:WRel Γ s.rg w
 fr:FrRel Γ s.fr a.tmps
 gl:GlobOk gl Γ
 nw:∀ n,s.rg.length≤n→Γ.μ n=none
 df:Df N Γ a.defers
theorem FrRel.put {Γ:Env} {s:St} {a:Act} (h:FrRel Γ s.fr a.tmps) (dst:Option Tmp) {x:NS} {v:Value} (r:SRel Γ x v):FrRel Γ (s.put dst x).fr (a.put dst v).tmps:=by
 cases dst with
 | none=>exact h
 | some d=>
   show R2 (SRel Γ) (s.fr.set d x) (a.tmps.setIfInBounds d v).toList
   rw [Array.toList_setIfInBounds]
   exact R2.set h d r
theorem put_rg (s:St) (dst:Option Tmp) (x:NS):(s.put dst x).rg=s.rg:=by cases dst <;> rfl
theorem put_defers (a:Act) (dst:Option Tmp) (v:Value):(a.put dst v).defers=a.defers:=by cases dst <;> rfl
theorem allNV_rel {Γ:Env}:∀ {l:List NS} {xs:List NV} {vs:List Value},allNV l=some xs→R2 (SRel Γ) l vs→R2 (VRel Γ) xs vs
 | [],xs,vs,h,r=>by simp [allNV] at h; subst h; cases r; exact .nil
 | x::l,xs,vs,h,r=>by
   simp only [allNV] at h
   split at h
   ·rename_i a b h1 h2
    cases h
    cases r with
    | cons r1 r2=>exact .cons (nv_rel r1 h1) (allNV_rel h2 r2)
   ·cases h
theorem R1.eff_sound {Γ:Env} {s:St} {w:World} {P:Program} {o:Oper} {a:Act} {r:R1} {nm:Nat} {R:Eff→Prop} (hw:WRel Γ s.rg w) (hnm:Γ.μ nm=none) (ho:ROk Γ s w ((execOp a.eval o).run P w) r) (h:(r.eff nm).run R) {K:Act→World→Prop} {Q:Exit→Act→World→Prop}
  (hK:∀ x u w',R x→EffOk Γ s w nm x u w'→K (a.put o.dst u) w'):o.wp P a w K Q:=by
 cases r with
 | no=>exact h.elim
 | val c v=>
   obtain ⟨hc,hR⟩:=(chkT_run _ _ _).1 h
   obtain ⟨u,h1,h2⟩:=ho hc
   unfold Oper.wp
   rw [h1,Oper.upon_value]
   exact hK _ u w hR (EffOk.plain hw h2)
 | new c g v=>
   obtain ⟨hc,hR⟩:=(chkT_run _ _ _).1 h
   obtain ⟨u,cs,h1,h2,h3⟩:=ho hc
   unfold Oper.wp
   rw [h1,Oper.upon_value]
   exact hK _ u _ hR ⟨_,Ext.add hnm (fun _=>.inl (Nat.le_refl _)),h3 nm hnm,hw.new hnm h2,Wd.alloc _ _ _,env_new_spec (ups_len (g:=some g) (by simp))⟩
 | upd c n g=>
   obtain ⟨hc,hR⟩:=(chkT_run _ _ _).1 h
   obtain ⟨w',h1,h2,h3⟩:=ho hc
   unfold Oper.wp
   rw [h1,Oper.upon_skip]
   exact hK _ undef _ hR ⟨Γ,Ext.refl Γ w,trivial,h2,h3,fun _ h _=>h⟩
theorem EffOk.freeze {Γ:Env} {s:St} {w:World} {nm r:Nat} {g:Reg} {B:Blk} {k:IntKind} {xs:List Int} {cs:Array Value} (hw:WRel Γ s.rg w) (hg:s.rg[r]? = some (some g)) (hB:Γ.wh r=some B) (hcs:w.heap[B.blk]? = some (.cells cs g.e (0,0)))
  (hv:∀ (j:Nat) (u:Value),(xs.map (Value.int k))[j]? = some u→cs[j]? = some u):EffOk Γ s w nm {up:=[(r,none)],v:=.v (.c (.l k xs))} (.slice (some ⟨B.blk,0,none⟩) xs.length xs.length) w:=by
 have hlive:live s.rg r:=⟨g,hg⟩
 have hBp:=Env.wh_pt hB
 have hk0:Γ.kp B.blk=none:=hw.apart r B hlive hBp
 have hrg:∀ m g',(s.ups [(r,none)]).rg[m]? = some (some g')→m≠r∧s.rg[m]? = some (some g'):=by
  intro m g' hm
  simp only [St.ups,St.setReg] at hm
  rcases (putAt_get _ _ _ _ _).1 hm with ⟨_,h2⟩ | ⟨h1,h2⟩
  ·cases h2
  ·exact ⟨h1,h2⟩
 have hoth:∀ m Bm,m≠r→live s.rg m→Γ.pt m=some Bm→Bm.blk≠B.blk:=fun m Bm hne hl hm=>hw.inj m r Bm B hne hl hlive hm hBp
 let Γ' : Env:={Γ with kp:=fun b=>if b=B.blk then some (.cells cs g.e (0,0)) else Γ.kp b,ro:=fun b=>if b=B.blk then true else Γ.ro b}
 have hle:Γ.le Γ':=⟨fun _ _ h=>h,fun b o h=>by
  show (if b=B.blk then _ else Γ.kp b)=some o
  by_cases hb:b=B.blk
  ·rw [hb,hk0] at h; cases h
  ·rw [if_neg hb]; exact h,fun b h=>by
  show (if b=B.blk then true else Γ.ro b)=true
  by_cases hb:b=B.blk
  ·rw [if_pos hb]
  ·rw [if_neg hb]; exact h,rfl⟩
 refine ⟨Γ',⟨hle,fun b h=>?_,fun n B h=>.inr ⟨n,B,h,rfl⟩⟩,⟨⟨some ⟨B.blk,0,none⟩,xs.length,rfl,Nat.le_refl _,.inr ⟨B.blk,0,rfl,?_,cs,g.e,(0,0),?_,fun j u hj=>by rw [Nat.zero_add]; exact hv j u hj⟩⟩,rfl⟩,⟨fun m g' hm=>?_,fun a b Ba Bb hne la lb ea eb=>?_,fun b o h=>?_,fun m Bm hm eB=>?_,fun b h=>?_⟩,Wd.refl w,fun n h _=>h⟩
 ·have h:(if b=B.blk then true else Γ.ro b)=true:=h
  by_cases hb:b=B.blk
  ·exact .inr (.inr ⟨r,B,hBp,hb.symm⟩)
  ·rw [if_neg hb] at h; exact .inl h
 ·show (if B.blk=B.blk then true else Γ.ro B.blk)=true
  rw [if_pos rfl]
 ·show (if B.blk=B.blk then some _ else Γ.kp B.blk)=_
  rw [if_pos rfl]
 ·obtain ⟨hne,hm⟩:=hrg m g' hm
  obtain ⟨Bm,hBm,hr⟩:=hw.live m g' hm
  exact ⟨Bm,hBm,hr.mono hle⟩
 ·obtain ⟨ga,hga⟩:=la
  obtain ⟨gb,hgb⟩:=lb
  exact hw.inj a b Ba Bb hne ⟨ga,(hrg a ga hga).2⟩ ⟨gb,(hrg b gb hgb).2⟩ ea eb
 ·have h:(if b=B.blk then some (Obj.cells cs g.e (0,0)) else Γ.kp b)=some o:=h
  by_cases hb:b=B.blk
  ·rw [if_pos hb] at h
   cases h
   rw [hb]; exact hcs
  ·rw [if_neg hb] at h; exact hw.kp b o h
 ·obtain ⟨g',hm⟩:=hm
  obtain ⟨hne,hm⟩:=hrg m g' hm
  show (if Bm.blk=B.blk then some _ else Γ.kp Bm.blk)=none
  rw [if_neg (hoth m Bm hne ⟨g',hm⟩ eB)]
  exact hw.apart m Bm ⟨g',hm⟩ eB
 ·have h:(if b=B.blk then true else Γ.ro b)=true:=h
  show ∃ o,(if b=B.blk then some (Obj.cells cs g.e (0,0)) else Γ.kp b)=some o
  by_cases hb:b=B.blk
  ·exact ⟨_,by rw [if_pos hb]⟩
  ·rw [if_neg hb] at h ⊢; exact hw.ro b h
theorem EffOk.freezeM {Γ:Env} {s:St} {w w' : World} {nm r:Nat} {g:Reg} {B:Blk} {k:IntKind} {xs:List Int} {cs:Array Value} {fz:Nat × Nat} {cap:Nat} (hw:WRel Γ s.rg w) (hg:s.rg[r]? = some (some g)) (hB:Γ.wh r=some B) (hcs:w'.heap[B.blk]? = some (.cells cs g.e fz))
  (hsame:∀ b,b≠B.blk→w'.heap[b]? = w.heap[b]?) (hwd:Wd w w') (hcap:xs.length≤cap)
  (hv:∀ (j:Nat) (u:Value),(xs.map (Value.int k))[j]? = some u→cs[j]? = some u):EffOk Γ s w nm {up:=[(r,none)],v:=.v (.c (.l k xs))} (.slice (some ⟨B.blk,0,none⟩) xs.length cap) w':=by
 have hlive:live s.rg r:=⟨g,hg⟩
 have hBp:=Env.wh_pt hB
 have hk0:Γ.kp B.blk=none:=hw.apart r B hlive hBp
 have hrg:∀ m g',(s.ups [(r,none)]).rg[m]? = some (some g')→m≠r∧s.rg[m]? = some (some g'):=by
  intro m g' hm
  simp only [St.ups,St.setReg] at hm
  rcases (putAt_get _ _ _ _ _).1 hm with ⟨_,h2⟩ | ⟨h1,h2⟩
  ·cases h2
  ·exact ⟨h1,h2⟩
 have hoth:∀ m Bm,m≠r→live s.rg m→Γ.pt m=some Bm→Bm.blk≠B.blk:=fun m Bm hne hl hm=>hw.inj m r Bm B hne hl hlive hm hBp
 let Γ' : Env:={Γ with kp:=fun b=>if b=B.blk then some (.cells cs g.e fz) else Γ.kp b,ro:=fun b=>if b=B.blk then true else Γ.ro b}
 have hle:Γ.le Γ':=⟨fun _ _ h=>h,fun b o h=>by
  show (if b=B.blk then _ else Γ.kp b)=some o
  by_cases hb:b=B.blk
  ·rw [hb,hk0] at h; cases h
  ·rw [if_neg hb]; exact h,fun b h=>by
  show (if b=B.blk then true else Γ.ro b)=true
  by_cases hb:b=B.blk
  ·rw [if_pos hb]
  ·rw [if_neg hb]; exact h,rfl⟩
 refine ⟨Γ',⟨hle,fun b h=>?_,fun n B h=>.inr ⟨n,B,h,rfl⟩⟩,⟨⟨some ⟨B.blk,0,none⟩,cap,rfl,hcap,.inr ⟨B.blk,0,rfl,?_,cs,g.e,fz,?_,fun j u hj=>by rw [Nat.zero_add]; exact hv j u hj⟩⟩,rfl⟩,⟨fun m g' hm=>?_,fun a b Ba Bb hne la lb ea eb=>?_,fun b o h=>?_,fun m Bm hm eB=>?_,fun b h=>?_⟩,hwd,fun n h _=>h⟩
 ·have h:(if b=B.blk then true else Γ.ro b)=true:=h
  by_cases hb:b=B.blk
  ·exact .inr (.inr ⟨r,B,hBp,hb.symm⟩)
  ·rw [if_neg hb] at h; exact .inl h
 ·show (if B.blk=B.blk then true else Γ.ro B.blk)=true
  rw [if_pos rfl]
 ·show (if B.blk=B.blk then some _ else Γ.kp B.blk)=_
  rw [if_pos rfl]
 ·obtain ⟨hne,hm⟩:=hrg m g' hm
  obtain ⟨Bm,hBm,hr⟩:=hw.live m g' hm
  refine ⟨Bm,hBm,?_⟩
  have hr:=hr.mono hle
  rcases hr with h | ⟨hg0,c,h⟩ | ⟨hg0,h⟩
  ·exact .inl h
  ·have hs:=hsame Bm.blk (hoth m Bm hne ⟨g',hm⟩ (Env.pt_iff.2 ⟨hBm,hg0⟩))
   exact .inr (.inl ⟨hg0,c,⟨by rw [hs]; exact h.heap,h.st,h.sz,h.body,h.part⟩⟩)
  ·have hs:=hsame Bm.blk (hoth m Bm hne ⟨g',hm⟩ (Env.pt_iff.2 ⟨hBm,hg0⟩))
   obtain ⟨⟨ks,sch,ys,es,ck,h1,h2,h3⟩,hp,hst⟩:=h
   exact .inr (.inr ⟨hg0,⟨⟨ks,sch,ys,es,ck,h1,by rw [hs]; exact h2,h3⟩,hp,hst⟩⟩)
 ·obtain ⟨ga,hga⟩:=la
  obtain ⟨gb,hgb⟩:=lb
  exact hw.inj a b Ba Bb hne ⟨ga,(hrg a ga hga).2⟩ ⟨gb,(hrg b gb hgb).2⟩ ea eb
 ·have h:(if b=B.blk then some (Obj.cells cs g.e fz) else Γ.kp b)=some o:=h
  by_cases hb:b=B.blk
  ·rw [if_pos hb] at h
   cases h
   rw [hb]; exact hcs
  ·rw [if_neg hb] at h; rw [hsame b hb]; exact hw.kp b o h
 ·obtain ⟨g',hm⟩:=hm
  obtain ⟨hne,hm⟩:=hrg m g' hm
  show (if Bm.blk=B.blk then some _ else Γ.kp Bm.blk)=none
  rw [if_neg (hoth m Bm hne ⟨g',hm⟩ eB)]
  exact hw.apart m Bm ⟨g',hm⟩ eB
 ·have h:(if b=B.blk then true else Γ.ro b)=true:=h
  show ∃ o,(if b=B.blk then some (Obj.cells cs g.e fz) else Γ.kp b)=some o
  by_cases hb:b=B.blk
  ·exact ⟨_,by rw [if_pos hb]⟩
  ·rw [if_neg hb] at h ⊢; exact hw.ro b h
theorem run_convert_own {P:Program} {w:World} {t e e2:TypeId} {b o n c:Nat} {cs:Array Value} (ht:P.underlying t=some (.slice e)) (he:P.underlying e=some (.int .u8)) (hc:w.heap[b]? = some (.cells cs e2 (0,0))) :
  ∃ w',(convert t t (.slice (some ⟨b,o,none⟩) n c)).run P w=.ok (.slice (some ⟨b,o,none⟩) n c) w'∧w'.heap[b]? = some (.cells cs e2 (cs.size,cs.size+1))∧(∀ k,k≠b→w'.heap[k]? = w.heap[k]?)∧Wd w w':=by
 have hsh:w.shape? b=some (e2,cs.size):=by unfold World.shape?; rw [hc]
 refine ⟨w.freeze ⟨b,cs.size,none⟩ 1,?_,?_,?_,?_⟩
 ·simp [convert,run_underlying ht,run_underlying he,markStringish,hsh]
 ·unfold World.freeze
  rw [if_neg (by decide)]
  show (w.heap.modify b _)[b]? = _
  rw [Array.getElem?_modify,if_pos rfl,hc]
  rfl
 ·intro k hk
  unfold World.freeze
  rw [if_neg (by decide)]
  show (w.heap.modify b _)[k]? = _
  rw [Array.getElem?_modify,if_neg (fun h=>hk h.symm)]
 ·unfold World.freeze
  rw [if_neg (by decide)]
  exact ⟨rfl,rfl,rfl,by show w.heap.size≤(w.heap.modify b _).size; rw [Array.size_modify]; exact Nat.le_refl _⟩
theorem nilUnk_sound {P:Program} {s:St} {Γ:Env} {a:Act} {op:BinOp} {t:TypeId} {x y:Operand} {e d:Bool} (hfr:FrRel Γ s.fr a.tmps) (h:nilUnk P s op t x y=some (e,d)) :
  ∃ A n c st,a.eval x=.slice A n c∧a.eval y=.slice none 0 0∧P.underlying t=some (.slice st)∧(op=.eql∧d=false∨op=.neq∧d=true)∧(e=false→A.isSome=true):=by
 unfold nilUnk at h
 split at h
 case h_4=>cases h
 all_goals
  rename_i kk xs st hx hy hu
  have rx:=nc_rel (ev_rel hfr x) hx
  have ry:=nc_rel (ev_rel hfr y) hy
  obtain ⟨ry,-⟩:=ry
 ·obtain ⟨⟨A,cap,h1,-,h2⟩,-⟩:=rx
  have hA:xs.isEmpty=false→A.isSome=true:=by
   intro he
   rcases h2 with rfl | ⟨blk,off,rfl,-⟩
   ·cases he
   ·rfl
  split at h
  ·cases h; exact ⟨A,_,cap,st,h1,ry,hu,.inl ⟨rfl,rfl⟩,hA⟩
  ·cases h; exact ⟨A,_,cap,st,h1,ry,hu,.inr ⟨rfl,rfl⟩,hA⟩
  ·cases h
 ·obtain ⟨⟨A,cap,h1,-,-,h2⟩,-⟩:=rx
  have hA:xs.isEmpty=false→A.isSome=true:=by
   intro he
   rcases h2 with rfl | ⟨blk,off,rfl,-⟩
   ·cases he
   ·rfl
  split at h
  ·cases h; exact ⟨A,_,cap,st,h1,ry,hu,.inl ⟨rfl,rfl⟩,hA⟩
  ·cases h; exact ⟨A,_,cap,st,h1,ry,hu,.inr ⟨rfl,rfl⟩,hA⟩
  ·cases h
 ·obtain ⟨⟨hn,h1,-⟩ | ⟨B,o,cap,-,h1,-⟩,-⟩:=rx
  ·have hA:(xs==0)=false→(none:Option Addr).isSome=true:=fun he=>by rw [hn] at he; cases he
   split at h
   ·cases h; exact ⟨none,0,0,st,h1,ry,hu,.inl ⟨rfl,rfl⟩,hA⟩
   ·cases h; exact ⟨none,0,0,st,h1,ry,hu,.inr ⟨rfl,rfl⟩,hA⟩
   ·cases h
  ·split at h
   ·cases h; exact ⟨_,_,cap,st,h1,ry,hu,.inl ⟨rfl,rfl⟩,fun _=>rfl⟩
   ·cases h; exact ⟨_,_,cap,st,h1,ry,hu,.inr ⟨rfl,rfl⟩,fun _=>rfl⟩
   ·cases h
theorem rowsV_append (ks:List CK) (xs ys:List (List Sc)):rowsV ks (xs++ys)=rowsV ks xs++rowsV ks ys:=by simp [rowsV]
theorem rowsV_splice (ks:List CK) (xs ys:List (List Sc)) (o:Nat):rowsV ks (splice xs o ys)=splice (rowsV ks xs) (o * ks.length) (rowsV ks ys):=by
 unfold splice
 rw [rowsV_append,rowsV_append,← rowsV_take,rowsV_length,← Nat.add_mul,rowsV_drop]
theorem elsOf_body {b:Body} {x:Els} (h:elsOf b=some x):b=x.body:=by
 cases b <;> simp only [elsOf,reduceCtorEq,Option.some.injEq] at h <;> subst h <;> rfl
theorem Els.spl_spec {x y z:Els} {o n:Nat} (h:x.spl o n y=some z):z.vals=splice x.vals (o * x.w) (y.vals.take (n * x.w))∧z.w=x.w∧y.w=x.w:=by
 cases x <;> cases y <;> simp only [Els.spl,reduceCtorEq] at h
 ·split at h
  ·rename_i e; cases h; subst e
   refine ⟨?_,rfl,rfl⟩
   simp [Els.vals,Els.w,splice,List.map_append,List.map_take,List.map_drop]
  ·cases h
 ·split at h
  ·rename_i e; cases h
   obtain ⟨rfl,-⟩:=e
   refine ⟨?_,rfl,rfl⟩
   simp only [Els.vals,Els.w]
   rw [rowsV_splice,rowsV_take]
  ·cases h
theorem Els.spl_body {Γ:Env} {x y z:Els} {o n st:Nat} (h:x.spl o n y=some z) {l:List Value} (hb:BodyRel Γ st x.body l):st=x.w∧0<x.w∧(∃ l2,l=x.vals++l2)∧∀ l2,BodyRel Γ st z.body (z.vals++l2):=by
 cases x <;> cases y <;> simp only [Els.spl,reduceCtorEq] at h
 ·split at h
  ·cases h
   obtain ⟨h1,l2,h2⟩:=hb
   exact ⟨h1,Nat.one_pos,⟨l2,h2⟩,fun l2=>⟨h1,l2,rfl⟩⟩
  ·cases h
 ·split at h
  ·cases h
   obtain ⟨h1,h0,l2,h2⟩:=hb
   exact ⟨h1,h0,⟨l2,h2⟩,fun l2=>⟨h1,h0,l2,rfl⟩⟩
  ·cases h
theorem Els.body_len (x:Els):x.body.len=none:=by cases x <;> rfl
theorem ncopyE_sound {P:Program} {s:St} {Γ:Env} {w:World} {t u ty e:TypeId} {r off len:Nat} {y:NC} {vx vy:Value} {nm:Nat} {R:Eff→Prop} (hu:P.underlying t=some (.slice e)) (hw:WRel Γ s.rg w) (hx:CR Γ (.h r off len) vx) (hy:CR Γ y vy) (h:(ncopyE P s e r off len y).run R) :
  ∃ ef v w',R ef∧(Builtin.copy_ #[t,u] ty #[vx,vy]).run P w=.ok v w'∧EffOk Γ s w nm ef v w':=by
 unfold ncopyE at h
 split at h
 case h_2=>exact h.elim
 rename_i g c ys hg hys
 split at h
 case h_2=>exact h.elim
 rename_i xs hxs
 split at h
 case h_2=>exact h.elim
 rename_i zs hzs
 split at h
 case isFalse=>exact h.elim
 rename_i hsz
 obtain ⟨hcs,hR⟩:=(chkT_run _ _ _).1 h
 obtain ⟨hc1,hc2⟩:=allT_append hcs
 have hfit:off+len≤xs.length:=of_decide_eq_true (hc2 _ (by simp))
 obtain ⟨⟨B,o,cap,hB,rfl,hlc,hcm,hor⟩,-⟩:=hx
 obtain ⟨a',cap',rfl,hlc',hsrc⟩:=els_sound hw hy hys hc1
 have hgl:=(reg_eq s r g).1 hg
 have hpt:=Env.wh_pt hB
 have hBo:=Env.wh_o hB
 have hbx:=elsOf_body hxs
 obtain ⟨cs,hA⟩:=hw.at hpt hgl (by rw [hbx]; cases xs <;> rfl)
 have hbody:=hA.body
 rw [hbx] at hbody
 obtain ⟨hst,h0,⟨l2,hl⟩,hzb⟩:=Els.spl_body hzs hbody
 obtain ⟨hzv,hzw,hyw⟩:=Els.spl_spec hzs
 have hst' : B.st=xs.w:=hA.st.trans hst
 rw [hBo,List.drop_zero] at hl
 have hxl:=xs.vals_length
 have hyl:=ys.vals_length
 rw [hyw] at hyl
 generalize hvs:ys.vals.take (len * xs.w)=vals at hzv
 have hone:∀ v∈vals,v.oneCell'=true:=fun v hv=>ys.vals_one v (by rw [← hvs] at hv; exact List.mem_of_mem_take hv)
 have hvl:vals.length=(Nat.min ys.length len) * xs.w:=by
  rw [← hvs,List.length_take,hyl,Nat.min_comm]
  show min (ys.length * xs.w) (len * xs.w)=(min ys.length len) * xs.w
  rw [Nat.mul_min_mul_right]
 have hmul:(off+len) * xs.w≤xs.length * xs.w:=Nat.mul_le_mul_right _ hfit
 rw [Nat.add_mul] at hmul
 have hmle:(Nat.min ys.length len) * xs.w≤len * xs.w:=Nat.mul_le_mul_right _ (Nat.min_le_right _ _)
 have hcl:cs.toList.length=xs.vals.length+l2.length:=by rw [hl,List.length_append]
 have hfit2:off * xs.w+vals.length≤cs.toList.length:=by omega
 have hfin:∀ w',(∀ b,b≠B.blk→w'.heap[b]? = w.heap[b]?)→Wd w w'→w'.heap[B.blk]? = some (.cells (splice cs.toList (off * xs.w) vals).toArray B.e (0,0))→
   EffOk Γ s w nm {up:=[(r,some {g with body:=zs.body})],v:=.v (.c (.i .i64 ((Nat.min ys.length len:Nat):Int)))} (goInt (Nat.min ys.length len)) w':=by
  intro w' hoth hwd hheap
  refine ⟨Γ,Ext.refl Γ w,⟨rfl,rfl⟩,?_,hwd,fun _ h _=>h⟩
  have hgr:RegRel Γ {g with body:=zs.body} B w':=by
   refine .inr (.inl ⟨(Env.pt_iff.1 hpt).2,_,hheap,hA.st,?_,?_,?_⟩)
   ·simp only [List.size_toArray]
    rw [splice_length _ _ _ hfit2]
    simpa using hA.sz
   ·simp only
    rw [hBo,List.drop_zero]
    have e1:splice cs.toList (off * xs.w) vals=zs.vals++l2:=by rw [hl,splice_append _ _ _ _ (by omega),hzv]
    rw [e1]
    exact hzb l2
   ·have:=hA.part.splice (g':={g with body:=zs.body}) (ys:=vals) (off:=off * xs.w) rfl (fun n hn=>by rw [hbx,Els.body_len] at hn; cases hn) (by rw [hBo]; omega)
    rw [hBo,Nat.zero_add] at this
    exact this
  exact hw.change ⟨g,hgl⟩ hpt hoth hgr
 obtain ⟨ei,hei,-⟩:=info_of_size (P:=P) (t:=e) (by omega)
 have hse:sizeT P e=xs.w:=hsz.trans hst
 by_cases hm0:Nat.min ys.length len=0
 ·refine ⟨_,goInt (Nat.min ys.length len),w,hR,?_,hfin w (fun _ _=>rfl) (Wd.refl w) ?_⟩
  ·cases a' with
   | none=>simp [Builtin.copy_,run_underlying hu,Builtin.lenOf,Builtin.firstCells,run_sizeOf hei,hm0,storeCells]
   | some a=>simp [Builtin.copy_,run_underlying hu,Builtin.lenOf,Builtin.firstCells,run_sizeOf hei,hm0,storeCells,loadCells,loadCellsFrom]
  ·have hv0:vals=[]:=List.eq_nil_of_length_eq_zero (by rw [hvl,hm0,Nat.zero_mul])
   have e0:splice cs.toList (off * xs.w) vals=cs.toList:=by rw [hv0]; simp [splice]
   rw [e0,Array.toArray_toList]
   exact hA.heap
 ·have hmn:Nat.min ys.length len≤ys.length∧Nat.min ys.length len≤len:=⟨Nat.min_le_left _ _,Nat.min_le_right _ _⟩
  rcases hsrc with h1 | ⟨blk,ao,rfl,hcell⟩
  ·omega
  have ho:o=off * B.st:=by
   rcases hor with h | h
   ·exact h.1
   ·omega
  subst ho
  have hload:=run_loadCells_list (P:=P) w ⟨blk,ao,none⟩ vals (fun j v hj=>by
   rw [Addr.add_lit]
   refine hcell j v ?_
   rw [← hvs,List.getElem?_take] at hj
   split at hj
   ·exact hj
   ·cases hj)
  rw [hvl] at hload
  have hst2:=run_storeCells_at P B.blk (off * xs.w) B.e vals 0 cs w hA.heap (by simpa using hfit2) hone
  simp only [Nat.add_zero] at hst2
  have hrun:(Builtin.copy_ #[t,u] ty #[.slice (some ⟨B.blk,off * B.st,none⟩) len cap,.slice (some ⟨blk,ao,none⟩) ys.length cap']).run P w=.ok (goInt (Nat.min ys.length len)) (w.setRow B.blk (splice cs.toList (off * xs.w) vals).toArray):=by
   simp [Builtin.copy_,run_underlying hu,Builtin.lenOf,Builtin.firstCells,run_sizeOf hei,hse,hst',hload]
   show ((storeCells ⟨B.blk,off * xs.w,none⟩ vals).run P w).andThen _=_
   rw [hst2]
   rfl
  exact ⟨_,_,_,hR,hrun,hfin _ (fun b hb=>setRow_other w _ _ _ hb) ⟨rfl,rfl,rfl,by simp⟩ (setRow_heap w _ _ _ _ _ hA.heap)⟩
theorem ncopy_sound {P:Program} {s:St} {Γ:Env} {w:World} {t u ty:TypeId} {x y:NC} {vx vy:Value} {nm:Nat} {R:Eff→Prop} (hw:WRel Γ s.rg w) (hx:CR Γ x vx) (hy:CR Γ y vy) (h:(ncopy P s t x y).run R) :
  ∃ ef v w',R ef∧(Builtin.copy_ #[t,u] ty #[vx,vy]).run P w=.ok v w'∧EffOk Γ s w nm ef v w':=by
 unfold ncopy at h
 split at h
 case h_3=>exact h.elim
 case h_2=>exact ncopyE_sound (by assumption) hw hx hy h
 rename_i e r o ww a n r' o' ww' a' n' hu
 split at h
 case h_2=>exact h.elim
 rename_i g g' hg hg'
 split at h
 case h_2=>exact h.elim
 rename_i l l' hb hb'
 split at h
 case isFalse=>exact h.elim
 rename_i hcond
 obtain ⟨hsz,rfl,h0,hm0⟩:=hcond
 split at h
 case h_2=>exact h.elim
 rename_i c1 v hv
 split at h
 case h_2=>exact h.elim
 rename_i c2 l2 hp
 obtain ⟨hcs,hR⟩:=(chkT_run _ _ _).1 h
 obtain ⟨hc1,hc2⟩:=allT_append hcs
 obtain ⟨⟨B,ad,cap,hB,rfl,hlc,hcm,had⟩,-⟩:=hx
 obtain ⟨⟨B',ad',cap',hB',rfl,hlc',hcm',had'⟩,-⟩:=hy
 generalize hm:Nat.min n' n=m at *
 have hmn:m≤n'∧m≤n:=by rw [← hm]; exact ⟨Nat.min_le_left _ _,Nat.min_le_right _ _⟩
 have had:ad=B.o+(o+a * ww'):=by rcases had with h | h; exact h; omega
 have had' : ad'=B'.o+(o'+a' * ww'):=by rcases had' with h | h; exact h; omega
 subst had had'
 have hgl:=(reg_eq s r g).1 hg
 have hgl':=(reg_eq s r' g').1 hg'
 obtain ⟨cs,hA⟩:=hw.at hB hgl (by rw [hb]; rfl)
 obtain ⟨cs',hA'⟩:=hw.at hB' hgl' (by rw [hb']; rfl)
 have hbody:=hA.body
 have hbody':=hA'.body
 have hcell' : ∀ {k:Nat} {v:Value},(cs'.toList.drop B'.o)[k]? = some v→w.cell? ⟨B'.blk,B'.o+k,none⟩=some v:=hA'.cell
 have hle:=hA.part.le
 rw [hb] at hbody
 rw [hb'] at hbody'
 obtain ⟨g1,g2,g3,g4⟩:=(segGetQ_spec hbody'.segOk hv hc1).all rfl
 have hok:=hbody.segOk
 obtain ⟨p1,p2,p3⟩:=segPutQ_spec hok g3 hp hc2
 rw [Nat.add_zero] at g1 p2 p3
 obtain ⟨k1,k2,hl,hr,-⟩:=hbody
 obtain ⟨k1',k2',hl',hr',-⟩:=hbody'
 have hvals:R2 (CR Γ) v.cells ((k1'.drop (o'+a' * ww')).take (m * ww')):=g1 ▸ (hr'.drop _).take _
 generalize hvs:(k1'.drop (o'+a' * ww')).take (m * ww')=vals at hvals
 have hlen:vals.length=m * ww':=by rw [← hvals.length]; exact g2
 have hvsz:v.size=v.cells.length:=by
  rw [← NV.segs_flat,segFlat_length g3]
  cases v <;> rfl
 have hl1:=hr.length
 have hcsz:(cs.toList.drop B.o).length=k1.length+k2.length:=by rw [hl]; simp
 have hload:=run_loadCells_list (P:=P) w ⟨B'.blk,B'.o+(o'+a' * ww'),none⟩ vals (fun j u hj=>by
  rw [Addr.add_lit,Nat.add_assoc]
  refine hcell' ?_
  rw [hl']
  rw [← hvs] at hj
  exact prefix_get (drop_take_get hj))
 rw [hlen] at hload
 have hfit:o+a * ww'+vals.length≤k1.length:=by rw [hlen,← g2,← hvsz,← hl1]; exact p2
 rw [List.length_drop] at hcsz
 have hfit2:B.o+(o+a * ww')+vals.length≤cs.toList.length:=by omega
 have hst2:=run_storeCells_at P B.blk (B.o+(o+a * ww')) B.e vals 0 cs w hA.heap (by simpa using hfit2) hvals.oneCell
 simp only [Nat.add_zero] at hst2
 obtain ⟨ei,hei,-⟩:=info_of_size (P:=P) (t:=e) (by omega)
 have hrun:(Builtin.copy_ #[t,u] ty #[.slice (some ⟨B.blk,B.o+(o+a * ww'),none⟩) n cap,.slice (some ⟨B'.blk,B'.o+(o'+a' * ww'),none⟩) n' cap']).run P w=.ok (goInt m) (w.setRow B.blk (splice cs.toList (B.o+(o+a * ww')) vals).toArray):=by
  simp [Builtin.copy_,run_underlying hu,Builtin.lenOf,Builtin.firstCells,run_sizeOf hei,hm,hsz,hload]
  show ((storeCells ⟨B.blk,B.o+(o+a * ww'),none⟩ vals).run P w).andThen _=_
  rw [hst2]
  rfl
 refine ⟨_,goInt m,_,hR,hrun,Γ,Ext.refl Γ w,⟨rfl,rfl⟩,?_,⟨rfl,rfl,rfl,by simp⟩,fun _ h _=>h⟩
 have hfl:=segFlat_length hok
 have hfv:=segFlat_length p1
 have hlv:=congrArg List.length p3
 rw [splice_len _ _ _ (by omega)] at hlv
 have hgr:RegRel Γ {g with body:=.sg l2} B (w.setRow B.blk (splice cs.toList (B.o+(o+a * ww')) vals).toArray):=by
  refine .inr (.inl ⟨(Env.pt_iff.1 hB).2,_,setRow_heap w _ _ _ _ _ hA.heap,hA.st,?_,?_,?_⟩)
  ·simp only [List.size_toArray]
   rw [splice_length _ _ _ (by simpa using hfit2)]
   simpa using hA.sz
  ·simp only
   rw [splice_drop _ _ _ _ hle]
   refine ⟨splice k1 (o+a * ww') vals,k2,?_,?_,p1⟩
   ·rw [hl,splice_append _ _ _ _ hfit]
   ·rw [p3]; exact hr.splice _ hvals
  ·refine hA.part.splice rfl (fun n hn=>?_) hfit2
   rw [hb] at hn
   cases hn
   exact ⟨congrArg some (by omega),by omega⟩
 exact hw.change ⟨g,hgl⟩ hB (fun b hb=>setRow_other w _ _ _ hb) hgr
theorem zeroC_list (z:Array Value) (q:Nat):(Builtin.zeroCells z q).toList=(List.replicate q z.toList).flatten:=made_list z q
theorem nclear_sound {P:Program} {s:St} {Γ:Env} {w:World} {t ty:TypeId} {x:NC} {vx:Value} {nm:Nat} {R:Eff→Prop} (hw:WRel Γ s.rg w) (hx:CR Γ x vx) (h:(nclear P s t x).run R) :
  ∃ ef w',R ef∧(Builtin.clear_ #[t] ty #[vx]).run P w=.ok (.tuple #[]) w'∧EffOk Γ s w nm ef (.tuple #[]) w':=by
 unfold nclear at h
 split at h
 case h_3=>exact h.elim
 ·rename_i e hu
  obtain ⟨rfl,-⟩:=hx
  exact ⟨_,w,h,by simp [Builtin.clear_,run_underlying hu],.plain hw ⟨[],rfl,.nil⟩⟩
 rename_i e r off len hu
 split at h
 case h_2=>exact h.elim
 rename_i g z hg hz
 split at h
 case h_2=>exact h.elim
 rename_i ks xs hb
 split at h
 case h_2=>exact h.elim
 rename_i row hrow
 split at h
 case isFalse=>exact h.elim
 rename_i hks
 obtain ⟨hcs,hR⟩:=(chkT_run _ _ _).1 h
 have hfit:off+len≤xs.length:=of_decide_eq_true (hcs _ (by simp))
 obtain ⟨⟨B,o,cap,hB,rfl,hlc,hcm,hor⟩,-⟩:=hx
 have hgl:=(reg_eq s r g).1 hg
 have hpt:=Env.wh_pt hB
 have hBo:=Env.wh_o hB
 obtain ⟨cs,hA⟩:=hw.at hpt hgl (by rw [hb]; rfl)
 have hbody:=hA.body
 rw [hb] at hbody
 obtain ⟨hst,h0,l2,hl⟩:=hbody
 have hst' : B.st=ks.length:=hA.st.trans hst
 rw [hBo,List.drop_zero] at hl
 obtain ⟨i,v,hi,hv,hsz,hs⟩:=zeroCells_spec hz
 have hus:=toRow_vals (Γ:=Γ) hrow (scals_rel hs)
 have hrep:∀ q,rowsV ks (List.replicate q row)=(List.replicate q v.cells.toList).flatten:=fun q=>by
  unfold rowsV
  rw [hus]
  induction q with
  | zero=>rfl
  | succ q ih=>rw [List.replicate_succ,List.replicate_succ,List.flatMap_cons,ih,List.flatten_cons]
 have hfin:∀ w',(∀ b,b≠B.blk→w'.heap[b]? = w.heap[b]?)→Wd w w'→w'.heap[B.blk]? = some (.cells (splice cs.toList (off * ks.length) (rowsV ks (List.replicate len row))).toArray B.e (0,0))→
   EffOk Γ s w nm {up:=[(r,some {g with body:=.recs ks (splice xs off (List.replicate len row))})],v:=.tu []} (.tuple #[]) w':=by
  intro w' hoth hwd hheap
  refine ⟨Γ,Ext.refl Γ w,⟨[],rfl,.nil⟩,?_,hwd,fun _ h _=>h⟩
  have hvl:(rowsV ks (List.replicate len row)).length=len * ks.length:=by rw [rowsV_length,List.length_replicate]
  have hxl:=rowsV_length ks xs
  have hmul:(off+len) * ks.length≤xs.length * ks.length:=Nat.mul_le_mul_right _ hfit
  rw [Nat.add_mul] at hmul
  have hcl:cs.toList.length=(rowsV ks xs).length+l2.length:=by rw [hl,List.length_append]
  have hfit2:off * ks.length+(rowsV ks (List.replicate len row)).length≤cs.toList.length:=by omega
  have hgr:RegRel Γ {g with body:=.recs ks (splice xs off (List.replicate len row))} B w':=by
   refine .inr (.inl ⟨(Env.pt_iff.1 hpt).2,_,hheap,hA.st,?_,?_,?_⟩)
   ·simp only [List.size_toArray]
    rw [splice_length _ _ _ hfit2]
    simpa using hA.sz
   ·simp only
    rw [hBo,List.drop_zero]
    refine ⟨hst,h0,l2,?_⟩
    rw [hl,splice_append _ _ _ _ (by omega),rowsV_splice]
   ·have:=hA.part.splice (g':={g with body:=.recs ks (splice xs off (List.replicate len row))}) (ys:=rowsV ks (List.replicate len row)) (off:=off * ks.length) rfl (fun n hn=>by rw [hb] at hn; cases hn) (by rw [hBo]; omega)
    rw [hBo,Nat.zero_add] at this
    exact this
  exact hw.change ⟨g,hgl⟩ hpt hoth hgr
 cases len with
 | zero=>
   refine ⟨_,w,hR,by simp [Builtin.clear_,run_underlying hu],hfin w (fun _ _=>rfl) (Wd.refl w) ?_⟩
   have e:splice cs.toList (off * ks.length) (rowsV ks (List.replicate 0 row))=cs.toList:=by simp [splice,rowsV]
   rw [e,Array.toArray_toList]
   exact hA.heap
 | succ n=>
   have ho:o=off * B.st:=by
    rcases hor with h | h
    ·exact h.1
    ·omega
   subst ho
   have hvl:(rowsV ks (List.replicate (n+1) row)).length=(n+1) * ks.length:=by rw [rowsV_length,List.length_replicate]
   have hxl:=rowsV_length ks xs
   have hmul:(off+(n+1)) * ks.length≤xs.length * ks.length:=Nat.mul_le_mul_right _ hfit
   rw [Nat.add_mul] at hmul
   have hcl:cs.toList.length=(rowsV ks xs).length+l2.length:=by rw [hl,List.length_append]
   have hfit2:off * ks.length+(rowsV ks (List.replicate (n+1) row)).length≤cs.size:=by
    have:cs.toList.length=cs.size:=by simp
    omega
   have hone:∀ u∈rowsV ks (List.replicate (n+1) row),u.oneCell'=true:=by
    intro u hu
    rw [rowsV,List.mem_flatMap] at hu
    obtain ⟨row',-,hu⟩:=hu
    exact (rowCells_rel Γ ks row').oneCell u hu
   have hst2:=run_storeCells_at P B.blk (off * ks.length) B.e (rowsV ks (List.replicate (n+1) row)) 0 cs w hA.heap (by simpa using hfit2) hone
   simp only [Nat.add_zero] at hst2
   have hrun:(Builtin.clear_ #[t] ty #[.slice (some ⟨B.blk,off * B.st,none⟩) (n+1) cap]).run P w=.ok (.tuple #[]) (w.setRow B.blk (splice cs.toList (off * ks.length) (rowsV ks (List.replicate (n+1) row))).toArray):=by
    simp [Builtin.clear_,run_underlying hu,run_zeroValue hi hv,zeroC_list,← hrep,hst']
    rw [hst2]
    rfl
   exact ⟨_,_,hR,hrun,hfin _ (fun b hb=>setRow_other w _ _ _ hb) ⟨rfl,rfl,rfl,by simp⟩ (setRow_heap w _ _ _ _ _ hA.heap)⟩
theorem ncallP_con {X:Cx} {q:Nat} {passed:List Nat} {f:FuncId} {args:List NV} {nm:Nat} {s:St} {R:Eff→Prop} (h:(ncallP X q passed f args nm s).run R):∃ T,X.con f=some T:=by
 unfold ncallP at h
 split at h
 ·exact ⟨_,by assumption⟩
 ·exact h.elim
theorem ncall_con {X:Cx} {f:FuncId} {args:List NV} {nm:Nat} {s:St} {R:Eff→Prop} (h:(ncall X f args nm s).run R):∃ T,X.con f=some T:=by
 unfold ncall at h
 split at h
 ·split at h
  ·rcases orTr_run h with h | h
   ·unfold ncallF at h
    simp only at h
    rw [Tr.run_bind] at h
    exact ncallP_con h
   ·exact ncallP_con h
  ·exact ncallP_con h
 ·exact ncallP_con h
theorem deff_sound {X:Cx} (hcon:∀ f T,X.con f=some T→Known X.P X.glob f T) {o:Oper} {nm:Nat} {s:St} {Γ:Env} {w:World} {a:Act} {R:Eff→Prop}
  (hw:WRel Γ s.rg w) (hG:GlobOk X.glob Γ) (hfr:FrRel Γ s.fr a.tmps) (hnm:∀ k,nm≤k→k<nm+16→Γ.μ k=none) (h:(deff X o.op nm s).run R) {K:Act→World→Prop} {Q:Exit→Act→World→Prop}
  (hK:∀ x u w',R x→EffOk Γ s w nm x u w'→K (a.put o.dst u) w'):o.wp X.P a w K Q:=by
 have hnm0:Γ.μ nm=none:=hnm nm (Nat.le_refl _) (by omega)
 have hlight:((light X.P X.glob s o.op).eff nm).run R→o.wp X.P a w K Q:=fun h=>R1.eff_sound hw hnm0 (light_sound hw hG hfr o) h hK
 have hargs:∀ (l:List Operand),R2 (SRel Γ) (l.map s.ev) (l.map a.eval):=fun l=>R2.self_map _ _ l fun x=>ev_rel hfr x
 generalize hop:o.op=op at h hlight
 unfold deff at h
 split at h
 ·rename_i bop t x y yt
  split at h
  ·rename_i e d hn
   obtain ⟨A,n,c,st,h1,h2,h3,h4,h5⟩:=nilUnk_sound hfr hn
   have key:∀ b:Bool,(bop=.eql∧b=A.isNone∨bop=.neq∧b=!A.isNone)→R {up:=[],v:=.v (.c (.b b))}→o.wp X.P a w K Q:=by
    intro b hb hR
    unfold Oper.wp
    have hrun:(do eqGuard bop t x y (a.eval x) (a.eval y); binOp bop t (a.eval x) (a.eval y):Sem Value).run X.P w=.ok (.bool b) w:=by
     rw [h1,h2,eqGuard_at_slice]
     simp only [pure_bind]
     rcases hb with ⟨rfl,rfl⟩ | ⟨rfl,rfl⟩
     ·exact run_eql_slice_none w t st _ _ _ _ _ h3
     ·exact run_neq_slice_nil_any w t st _ _ _ _ _ h3
    have:(execOp a.eval o).run X.P w=.ok (.value (.bool b)) w:=by
     simp only [execOp,hop,Sem.run_bind (x:=(do eqGuard bop t x y (a.eval x) (a.eval y); binOp bop t (a.eval x) (a.eval y):Sem Value)),hrun,Result.andThen_ok,Sem.run_pure]
    rw [this,Oper.upon_value]
    exact hK _ _ w hR (EffOk.plain hw ⟨rfl,rfl⟩)
   simp only [Tr.run] at h
   rcases sel_iff.1 h with ⟨-,h⟩ | ⟨he,h⟩
   ·rcases h4 with ⟨hb,-⟩ | ⟨hb,-⟩
    ·exact key _ (.inl ⟨hb,rfl⟩) (h _ trivial)
    ·exact key _ (.inr ⟨hb,rfl⟩) (h _ trivial)
   ·have hA:A.isNone=false:=by
     have:=h5 he
     cases A <;> simp at this ⊢
    rcases h4 with ⟨hb,hd⟩ | ⟨hb,hd⟩
    ·exact key _ (.inl ⟨hb,by rw [hA,hd]⟩) h
    ·exact key _ (.inr ⟨hb,by rw [hA,hd]; rfl⟩) h
  ·split at h
   ·rename_i b hb
    unfold Oper.wp
    have hrun:=nstructEq_sound (w:=w) hfr hb
    have:(execOp a.eval o).run X.P w=.ok (.value (.bool b)) w:=by
     simp only [execOp,hop,Sem.run_bind (x:=(do eqGuard bop t x y (a.eval x) (a.eval y); binOp bop t (a.eval x) (a.eval y):Sem Value)),hrun,Result.andThen_ok,Sem.run_pure]
    rw [this,Oper.upon_value]
    exact hK _ _ w h (EffOk.plain hw ⟨rfl,rfl⟩)
   ·exact hlight h
 ·rename_i c x y
  split at h
  ·rename_i b hb
   have hc:=ev_rel hfr c
   rw [hb] at hc
   obtain ⟨hcv,-⟩:=hc
   have hcv' : a.eval c=.bool b:=hcv
   have key:∀ (R' : SRel Γ (if b=true then s.ev x else s.ev y) (if b=true then a.eval x else a.eval y)),R {up:=[],v:=if b=true then s.ev x else s.ev y}→o.wp X.P a w K Q:=by
    intro R' hR
    unfold Oper.wp
    have:(execOp a.eval o).run X.P w=.ok (.value (if b=true then a.eval x else a.eval y)) w:=by simp [execOp,hop,hcv',asBool]
    rw [this,Oper.upon_value]
    exact hK _ _ w hR (EffOk.plain hw R')
   simp only [Tr.run] at h
   rcases sel_iff.1 h with ⟨rfl,h⟩ | ⟨rfl,h⟩
   ·exact key (ev_rel hfr x) h
   ·exact key (ev_rel hfr y) h
  ·exact h.elim
 ·rename_i c
  split at h
  ·rename_i f hcal
   split at h
   case h_2=>exact h.elim
   rename_i g cap l hg hl
   have hf:=ev_rel hfr f
   rw [hg] at hf
   obtain ⟨⟨caps,hfv,hcap⟩,-⟩:=hf
   have hfv' : a.eval f=.func (.func g) #[] caps.toArray:=hfv
   have hall:R2 (VRel Γ) (l++cap.map fun x=>NV.c (.p x.1 x.2.1 x.2.2)) (c.args.toList.map a.eval++caps):=by
    refine (allNV_rel hl (hargs _)).append (R2.map_left hcap ?_)
    rintro x u ⟨B,h1,h2⟩
    exact ⟨⟨B,h1,h2⟩,by rw [h2]; rfl⟩
   have hT:∃ T,X.con g=some T:=ncall_con h
   obtain ⟨T,hT⟩:=hT
   unfold Oper.wp
   have:(execOp a.eval o).run X.P w=.ok (.enter g (c.args.toList.map a.eval++caps).toArray) w:=by
    have e:(c.args.toList.map a.eval++caps).toArray=c.args.map a.eval++caps.toArray:=by
     apply Array.ext'
     simp
    rw [e,← (hcon g T hT).goes]
    simp [execOp,hop,resolve,hcal,hfv',Deferred.ofValue,invoke]
   rw [this,Oper.upon_enter]
   refine (ncall_sound hcon hw hG hall hnm h).mono ?_
   rintro e w' ⟨x,v,hR,rfl,hE⟩
   exact hK x v w' hR hE
  ·rename_i hcal
   split at h
   case h_2=>exact h.elim
   rename_i x y t u hca hct
   split at h
   case isFalse=>
    split at h
    case h_2=>exact h.elim
    rename_i xa xb h1 h2
    obtain ⟨ef,u',w',hR,hrun,hE⟩:=nzeros_sound (ty:=o.type) hw hnm0 (nc_rel (ev_rel hfr x) h1) (nc_rel (ev_rel hfr y) h2) h
    unfold Oper.wp
    have ea:c.args=#[x,y]:=Array.ext' (by simpa using hca)
    have et:c.argTypes=#[t,u]:=Array.ext' (by simpa using hct)
    have:(execOp a.eval o).run X.P w=.ok (.value u') w':=by
     simp [execOp,hop,resolve,hcal,invoke,builtin,ea,et,hrun]
    rw [this,Oper.upon_value]
    exact hK ef u' w' hR hE
   rename_i htu
   subst htu
   split at h
   case h_2=>exact h.elim
   rename_i xa xb h1 h2
   have happ:∃ ef u w',R ef∧(Builtin.append_ #[t,t] o.type #[a.eval x,a.eval y]).run X.P w=.ok u w'∧EffOk Γ s w nm ef u w':=by
    split at h
    ·rename_i tr htr
     exact nappendT_sound hw hnm0 (nc_rel (ev_rel hfr x) h1) (nc_rel (ev_rel hfr y) h2) htr h
    ·exact nappend_sound hw hnm0 (nc_rel (ev_rel hfr x) h1) (nc_rel (ev_rel hfr y) h2) h
   obtain ⟨ef,u,w',hR,hrun,hE⟩:=happ
   unfold Oper.wp
   have ea:c.args=#[x,y]:=Array.ext' (by simpa using hca)
   have et:c.argTypes=#[t,t]:=Array.ext' (by simpa using hct)
   have:(execOp a.eval o).run X.P w=.ok (.value u) w':=by
    simp [execOp,hop,resolve,hcal,invoke,builtin,ea,et,hrun]
   rw [this,Oper.upon_value]
   exact hK ef u w' hR hE
  ·rename_i hcal
   split at h
   case h_2=>exact h.elim
   rename_i m k t ts hca hct
   split at h
   case h_2=>exact h.elim
   rename_i r g hd
   unfold nmapDel at hd
   split at hd
   case h_2=>cases hd
   rename_i r' g' ks sch xs row et hm
   cases hd
   obtain ⟨B,es,ck,kt,M⟩:=nmapAt_sound hw hfr hm
   obtain ⟨w',hrun,hE⟩:=M.del hw nm o.type c.argTypes (by rw [← Array.getElem?_toList,hct]; rfl)
   unfold Oper.wp
   have ea:c.args=#[m,k]:=Array.ext' (by simpa using hca)
   have:(execOp a.eval o).run X.P w=.ok (.value (.tuple #[])) w':=by
    simp [execOp,hop,resolve,hcal,invoke,builtin,ea,hrun]
   rw [this,Oper.upon_value]
   exact hK _ _ w' h hE
  ·rename_i hcal
   split at h
   case h_2=>exact h.elim
   rename_i x y t u hca hct
   split at h
   case h_2=>exact h.elim
   rename_i xa xb h1 h2
   obtain ⟨ef,u',w',hR,hrun,hE⟩:=ncopy_sound (u:=u) (ty:=o.type) (nm:=nm) hw (nc_rel (ev_rel hfr x) h1) (nc_rel (ev_rel hfr y) h2) h
   unfold Oper.wp
   have ea:c.args=#[x,y]:=Array.ext' (by simpa using hca)
   have et:c.argTypes=#[t,u]:=Array.ext' (by simpa using hct)
   have:(execOp a.eval o).run X.P w=.ok (.value u') w':=by
    simp [execOp,hop,resolve,hcal,invoke,builtin,ea,et,hrun]
   rw [this,Oper.upon_value]
   exact hK ef u' w' hR hE
  ·rename_i hcal
   split at h
   case h_2=>exact h.elim
   rename_i x t hca hct
   split at h
   case h_2=>exact h.elim
   rename_i xa h1
   obtain ⟨ef,w',hR,hrun,hE⟩:=nclear_sound (ty:=o.type) (nm:=nm) hw (nc_rel (ev_rel hfr x) h1) h
   unfold Oper.wp
   have ea:c.args=#[x]:=Array.ext' (by simpa using hca)
   have et:c.argTypes=#[t]:=Array.ext' (by simpa using hct)
   have:(execOp a.eval o).run X.P w=.ok (.value (.tuple #[])) w':=by
    simp [execOp,hop,resolve,hcal,invoke,builtin,ea,et,hrun]
   rw [this,Oper.upon_value]
   exact hK ef _ w' hR hE
  ·exact hlight h
 ·rename_i src dst x
  split at h
  ·rename_i c z hb
   unfold bytesOf at hb
   split at hb
   case h_3=>cases hb
   case h_2 hx=>
    split at hb
    case h_2=>cases hb
    rename_i e hs hd
    split at hb
    case h_2=>cases hb
    rename_i he
    cases hb
    have h2:=(chkT_run _ _ _).1 h
    have r0:=ev_rel hfr x
    rw [hx] at r0
    have r1:a.eval x=.slice none 0 0:=r0.1
    have hconv:=run_convert_bytes_nil (P:=X.P) w src e hs he 0 0 dst hd
    have this:(execOp a.eval o).run X.P w=.ok (.value (.string ByteArray.empty)) w:=by
     simp only [execOp,hop,r1,Sem.run_bind,hconv,Result.andThen_ok,Sem.run_pure]
    unfold Oper.wp
    rw [this,Oper.upon_value]
    exact hK _ _ w h2.2 (EffOk.plain hw ⟨rfl,rfl⟩)
   rename_i r off len hx
   split at hb
   case h_2=>cases hb
   rename_i e hs hd
   split at hb
   case h_2=>cases hb
   rename_i c' xs he hels
   cases hb
   have h2:=(chkT_run _ _ _).1 h
   have r0:=ev_rel hfr x
   rw [hx] at r0
   have r1:CR Γ (.h r off len) (a.eval x):=r0
   obtain ⟨a1,cap1,hv1,hlc,hcells⟩:=els_sound hw r1 hels h2.1
   obtain ⟨⟨B,o',cap',hB,hv2,-⟩,-⟩:=r1
   have heq:=hv2.symm.trans hv1
   simp only [Value.slice.injEq] at heq
   obtain ⟨ha1,hlen,hcap⟩:=heq
   have hl:xs.length=len:=hlen.symm
   have hcell:∀ i,i<len→w.cell? ⟨B.blk,o'+i,none⟩=some (.int .u8 (xs.getD i 0)):=by
    intro i hi
    have hix:i<xs.length:=by omega
    rcases hcells with h0 | ⟨blk,off',hae,hc⟩
    ·have:xs.length=0:=h0
     omega
    ·rw [hae] at ha1
     simp only [Option.some.injEq,Addr.mk.injEq] at ha1
     obtain ⟨rfl,rfl,-⟩:=ha1
     refine hc i _ ?_
     show (xs.map (Value.int .u8))[i]? = _
     rw [List.getElem?_map,List.getElem?_eq_getElem hix,List.getD_eq_getElem?_getD,List.getElem?_eq_getElem hix]
     rfl
   have hconv:=run_convert_bytes_arg (P:=X.P) (w:=w) src e hs he B.blk o' len cap' xs hl hcell dst hd
   have this:(execOp a.eval o).run X.P w=.ok (.value (.string (strOfNums xs))) w:=by
    simp only [execOp,hop,hv2,Sem.run_bind,hconv,Result.andThen_ok,Sem.run_pure]
   unfold Oper.wp
   rw [this,Oper.upon_value]
   exact hK _ _ w h2.2 (EffOk.plain hw ⟨rfl,rfl⟩)
  ·split at h
   ·rename_i r k xs hb
    unfold convOwn at hb
    split at hb
    case h_2=>cases hb
    rename_i r' len e hx hu
    split at hb
    case h_2=>cases hb
    rename_i g he hg
    split at hb
    case h_2=>cases hb
    rename_i k' xs' hbody
    split at hb
    case isFalse=>cases hb
    rename_i hcond
    cases hb
    obtain ⟨hsd,hlen,hpos⟩:=hcond
    subst hsd
    have r0:=ev_rel hfr x
    rw [hx] at r0
    obtain ⟨⟨B,o',cap,hBw,hv,hlc,-,ho⟩,-⟩:=r0
    have ho' : o'=0:=by
     rcases ho with ⟨h1,-⟩ | h1
     ·rw [h1,Nat.zero_mul]
     ·omega
    subst ho'
    obtain ⟨cs,hcs,hst,hszB,hbd⟩:=hw.atW hBw ((reg_eq s r g).1 hg)
    rw [hbody] at hbd
    obtain ⟨hst1,l2,hl⟩:=hbd
    obtain ⟨w',hrun,hc',hsame,hwd⟩:=run_convert_own (P:=X.P) (o:=0) (n:=len) (c:=cap) hu he hcs
    have this:(execOp a.eval o).run X.P w=.ok (.value (.slice (some ⟨B.blk,0,none⟩) len cap)) w':=by
     simp only [execOp,hop,hv,Sem.run_bind,hrun,Result.andThen_ok,Sem.run_pure]
    unfold Oper.wp
    rw [this,Oper.upon_value]
    subst hlen
    refine hK _ _ w' h (EffOk.freezeM hw ((reg_eq s r g).1 hg) hBw hc' hsame hwd hlc fun j u hj=>?_)
    rw [← Array.getElem?_toList,hl]
    exact prefix_get hj
   ·exact hlight h
 ·rename_i t x
  split at h
  ·rename_i r k xs hb
   unfold sliceArr at hb
   split at hb
   case h_2=>cases hb
   rename_i r' n e hx hu
   split at hb
   case h_2=>cases hb
   rename_i g hg
   split at hb
   case h_2=>cases hb
   rename_i k' xs' hbody
   split at hb
   case isFalse=>cases hb
   rename_i hcond
   cases hb
   have r0:=ev_rel hfr x
   rw [hx] at r0
   obtain ⟨⟨B,hB,hv⟩,-⟩:=r0
   have hBw:=hw.whole hB ((reg_eq s r g).1 hg) (by rw [hbody]; rfl)
   have hv:a.eval x=.pointer (some ⟨B.blk,0,none⟩):=by rw [hv,Nat.zero_mul,Env.wh_o hBw]
   obtain ⟨cs,hcs,hst,hszB,hbd⟩:=hw.atW hBw ((reg_eq s r g).1 hg)
   rw [hbody] at hbd
   obtain ⟨hst1,l2,hl⟩:=hbd
   obtain ⟨ei,hei,-⟩:=info_of_size (P:=X.P) (t:=e) hcond.2.2
   have hrun:(Instr.sliceAt t (a.eval x) none none none).run X.P w=.ok (.slice (some ⟨B.blk,0,none⟩) xs.length xs.length) w:=by
    rw [hv,← hcond.1]
    simp [Instr.sliceAt,run_underlying hu,Instr.sureAddr,Instr.sliceBounds,run_sizeOf hei,Addr.add_lit]
   have this:(execOp a.eval o).run X.P w=.ok (.value (.slice (some ⟨B.blk,0,none⟩) xs.length xs.length)) w:=by
    simp only [execOp,hop,Option.map_none,Sem.run_bind,hrun,Result.andThen_ok,Sem.run_pure]
   unfold Oper.wp
   rw [this,Oper.upon_value]
   refine hK _ _ w h (EffOk.freeze hw ((reg_eq s r g).1 hg) hBw hcs fun j u hj=>?_)
   rw [← Array.getElem?_toList,hl]
   exact prefix_get hj
  ·exact hlight h
 ·rename_i t m k ok
  split at h
  case h_2=>exact h.elim
  rename_i has v z hl
  unfold nlookup at hl
  split at hl
  case h_2=>cases hl
  rename_i r g ks sch xs row et hm
  split at hl
  case h_2=>cases hl
  rename_i z' hz
  cases hl
  obtain ⟨B,es,ck,kt,M⟩:=nmapAt_sound hw hfr hm
  obtain ⟨u,hrun,hu⟩:=M.lookup hz ok
  unfold Oper.wp
  have:(execOp a.eval o).run X.P w=.ok (.value (if ok then .tuple #[u,.bool (mpHas ks row xs)] else u)) w:=by
   simp only [execOp,hop,Sem.run_bind,hrun,Result.andThen_ok,Sem.run_pure]
  rw [this,Oper.upon_value]
  have tu:∀ {y:NV} {b:Bool},VRel Γ y u→SRel Γ (.tu [y,.c (.b b)]) (.tuple #[u,.bool b]):=fun {y b} hy=>⟨[u,.bool b],rfl,.cons hy (.cons ⟨rfl,rfl⟩ .nil)⟩
  cases ok with
  | true=>
    rcases hu with ⟨hb,hr⟩ | ⟨hb,hr⟩
    ·rw [hb] at h ⊢
     exact hK _ _ w h (EffOk.plain hw (tu (hr.rel _)))
    ·rw [hb] at h ⊢
     exact hK _ _ w h (EffOk.plain hw (tu hr))
  | false=>
    rcases hu with ⟨hb,hr⟩ | ⟨hb,hr⟩
    ·rw [hb] at h
     exact hK _ _ w h (EffOk.plain hw (hr.rel _))
    ·rw [hb] at h
     exact hK _ _ w h (EffOk.plain hw hr)
 ·rename_i t m k v
  split at h
  case h_2=>exact h.elim
  rename_i r g hs
  unfold nmapSet at hs
  split at hs
  case h_2=>cases hs
  rename_i r' g' ks sch xs row et hm
  split at hs
  case h_2=>cases hs
  rename_i y hy
  split at hs
  case h_2=>cases hs
  rename_i vr hvr
  cases hs
  obtain ⟨B,es,ck,kt,M⟩:=nmapAt_sound hw hfr hm
  obtain ⟨w',hrun,hE⟩:=M.set hw (nvRow_sound hvr (nv_rel (ev_rel hfr v) hy)) nm
  unfold Oper.wp
  have:(execOp a.eval o).run X.P w=.ok .skip w':=by
   simp only [execOp,hop,Sem.run_bind,hrun,Result.andThen_ok,Sem.run_pure]
  rw [this,Oper.upon_skip]
  exact hK _ undef w' h hE
 ·rename_i t len parts
  split at h
  ·rename_i g hg
   obtain ⟨u,w',hrun,hE⟩:=nbuildT_sound hw hnm0 hfr hg
   unfold Oper.wp
   have:(execOp a.eval o).run X.P w=.ok (.value u) w':=by
    simp only [execOp,hop,Sem.run_bind,hrun,Result.andThen_ok,Sem.run_pure]
   rw [this,Oper.upon_value]
   exact hK _ _ w' h hE
  ·exact hlight h
 ·rename_i t
  split at h
  case h_2=>exact h.elim
  rename_i g hg
  unfold nmakeMap at hg
  split at hg
  case h_2=>cases hg
  split at hg
  case h_2=>cases hg
  rename_i ks sch _ _ _ _
  split at hg
  case isFalse=>cases hg
  cases hg
  have hrun:(execOp a.eval o).run X.P w=.ok (.value (.map (some w.heap.size))) (w.alloc (.map #[] 0)):=by
   simp only [execOp,hop,Option.map_none]
   rfl
  unfold Oper.wp
  rw [hrun,Oper.upon_value]
  refine hK _ _ _ h ⟨_,Ext.add hnm0 (fun _=>.inl (Nat.le_refl _)),⟨⟨_,Env.add_pt rfl,rfl⟩,rfl⟩,hw.newMap (g:={st:=0,e:=t,body:=.mp ks sch []}) hnm0 rfl rfl,⟨rfl,rfl,rfl,by simp⟩,env_new_spec (ups_len (g:=some ({st:=0,e:=t,body:=.mp ks sch []}:Reg)) (by simp))⟩
 ·exact hlight h
theorem Inv.app {gl:List Nat} {N:Nat} {Γ:Env} {s:St} {a:Act} {w w' : World} {x:Eff} {u:Value} {dst:Option Tmp} (h:Inv gl N Γ s a w) (hE:EffOk Γ s w s.rg.length x u w'):∃ Γ',Ext Γ w Γ'∧Wd w w'∧Inv gl N Γ' (s.app x dst) (a.put dst u) w':=by
 obtain ⟨Γ',h1,h2,h3,h4,h5⟩:=hE
 refine ⟨Γ',h1,h4,by rw [St.app,put_rg]; exact h3,?_,h.gl.mono h1.le,fun n hn=>?_,by rw [put_defers]; exact h.df.mono h1.le⟩
 ·refine FrRel.put ?_ dst h2
  rw [ups_fr]; exact h.fr.mono h1.le
 ·rw [St.app,put_rg] at hn
  exact h5 n (h.nw n (Nat.le_trans (ups_le s x.up) hn)) (by omega)
theorem Inv.put {gl:List Nat} {N:Nat} {Γ:Env} {s:St} {a:Act} {w:World} {x:NS} {u:Value} {dst:Option Tmp} (h:Inv gl N Γ s a w) (r:SRel Γ x u):Inv gl N Γ (s.put dst x) (a.put dst u) w:=
 ⟨by rw [put_rg]; exact h.wr,h.fr.put dst r,h.gl,by rw [put_rg]; exact h.nw,by rw [put_defers]; exact h.df⟩
theorem Inv.lit {gl:List Nat} {N:Nat} {Γ:Env} {s:St} {a:Act} {w:World} {d:Tmp} {x:Bool} (h:Inv gl N Γ s a w) (hd:s.fr[d]? = some (.v (.c (.b x)))):Inv gl N Γ (s.put (some d) (lit x)) a w:=by
 have:s.put (some d) (Nx.lit x)=s:=by
  show St.mk (s.fr.set d _) s.rg=s
  have:s.fr.set d (Nx.lit x)=s.fr:=List.ext_getElem? fun j=>by
   rw [List.getElem?_set]
   split
   ·rename_i e; subst e
    split
    ·rw [hd]; rfl
    ·rename_i hl; rw [List.getElem?_eq_none (by omega)] at hd; cases hd
   ·rfl
  rw [this]
 rw [this]; exact h
theorem deffW_sound {X:Cx} (hcon:∀ f T,X.con f=some T→Known X.P X.glob f T) {o:Oper} {nm:Nat} {s:St} {Γ:Env} {w:World} {a:Act} {R:Eff→Prop}
  (hw:WRel Γ s.rg w) (hG:GlobOk X.glob Γ) (hfr:FrRel Γ s.fr a.tmps) (hnm:∀ k,nm≤k→k<nm+16→Γ.μ k=none) (h:(deffW X o.op nm s).run R) {K:Act→World→Prop} {Q:Exit→Act→World→Prop}
  (hK:∀ x u w',R x→EffOk Γ s w nm x u w'→K (a.put o.dst u) w'):o.wp X.P a w K Q:=by
 unfold deffW at h
 split at h
 case h_2=>exact deff_sound hcon hw hG hfr hnm h hK
 generalize hop:o.op=op at h
 unfold wideCall at h
 split at h
 case h_2=>exact h.elim
 rename_i c
 split at h
 case h_2=>exact h.elim
 rename_i f hcal
 split at h
 case h_2=>exact h.elim
 rename_i g cap l hg hl
 have hargs:∀ (l:List Operand),R2 (SRel Γ) (l.map s.ev) (l.map a.eval):=fun l=>R2.self_map _ _ l fun x=>ev_rel hfr x
 have hf:=ev_rel hfr f
 rw [hg] at hf
 obtain ⟨⟨caps,hfv,hcap⟩,-⟩:=hf
 have hfv' : a.eval f=.func (.func g) #[] caps.toArray:=hfv
 have hall:R2 (VRel Γ) (l++cap.map fun x=>NV.c (.p x.1 x.2.1 x.2.2)) (c.args.toList.map a.eval++caps):=by
  refine (allNV_rel hl (hargs _)).append (R2.map_left hcap ?_)
  rintro x u ⟨B,h1,h2⟩
  exact ⟨⟨B,h1,h2⟩,by rw [h2]; rfl⟩
 have hT:∃ T,X.con g=some T:=by
  unfold ncallP at h
  split at h
  ·exact ⟨_,by assumption⟩
  ·exact h.elim
 obtain ⟨T,hT⟩:=hT
 unfold Oper.wp
 have:(execOp a.eval o).run X.P w=.ok (.enter g (c.args.toList.map a.eval++caps).toArray) w:=by
  have e:(c.args.toList.map a.eval++caps).toArray=c.args.map a.eval++caps.toArray:=by
   apply Array.ext'
   simp
  rw [e,← (hcon g T hT).goes]
  simp [execOp,hop,resolve,hcal,hfv',Deferred.ofValue,invoke]
 rw [this,Oper.upon_enter]
 refine (ncallP_sound hcon (reach_nodup s _ _ _ (by simp)) hw hG hall hnm h).mono ?_
 rintro e w' ⟨x,v,hR,rfl,hE⟩
 exact hK x v w' hR hE
theorem nstep_sound {β:Type} {N:Nat} {X:Cx} (hcon:∀ f T,X.con f=some T→Known X.P X.glob f T) {ops:Array Oper} {o:Oper} {s:St} {Γ:Env} {w:World} {a:Act} {K:St→Tr β} {R:β→Prop} {K' : Act→World→Prop} {Q:Exit→Act→World→Prop} (hI:Inv X.glob N Γ s a w)
  (h:(nstep ops o (deffW X o.op s.rg.length) s K).run R)
  (hK:∀ s' a' w' Γ',(K s').run R→Ext Γ w Γ'→Wd w w'→Inv X.glob N Γ' s' a' w'→K' a' w') :
  if Region.wanted o (yielded ops a.tmps) then o.wp X.P a w K' Q∨(o.asks X.P a w∧LetsOut Q) else K' (a.put o.dst undef) w:=by
 have run:∀ (s1:St),s1.rg.length=s.rg.length→Inv X.glob N Γ s1 a w→((deffW X o.op s.rg.length s1).bind fun x=>K (s1.app x o.dst)).run R→o.wp X.P a w K' Q:=by
  intro s1 hl h1 h2
  rw [← hl,Tr.run_bind] at h2
  refine deffW_sound hcon h1.wr h1.gl h1.fr (fun k hk _=>h1.nw k hk) h2 fun x u w' hR hE=>?_
  obtain ⟨Γ',h3,h4,h5⟩:=h1.app hE
  exact hK _ _ _ Γ' hR h3 h4 h5
 unfold nstep at h
 split at h
 ·rename_i hg
  have:Region.wanted o (yielded ops a.tmps)=true:=by simp [Region.wanted,hg]
  rw [if_pos this]
  exact .inl (run s rfl hI h)
 ·rename_i j want hg
  split at h
  case h_2=>exact h.elim
  rename_i d hd
  split at h
  case h_3=>exact h.elim
  case h_2 hx=>
   have hy:yielded ops a.tmps j=Option.none:=by
    obtain ⟨v,h1,h2⟩:=R2.get hI.fr hx
    obtain ⟨vs,rfl,h2⟩:=h2
    cases h2
    have h3:a.tmps[d]? = some (.tuple #[]):=by simpa using h1
    have h4:(ops[j]?).bind (·.dst)=some d:=hd
    unfold yielded
    rw [h4,Option.bind_some,h3]
   have hwant:Region.wanted o (yielded ops a.tmps)=false:=by simp [Region.wanted,hg,hy]
   rw [hwant,if_neg (by decide)]
   exact hK _ _ _ Γ h (Ext.refl Γ w) (Wd.refl w) (hI.put ⟨[],rfl,.nil⟩)
  rename_i x hx
  have hy:yielded ops a.tmps j=some x:=by
   obtain ⟨v,h1,h2⟩:=R2.get hI.fr hx
   obtain ⟨h2,-⟩:=h2
   have h2' : v=.bool x:=h2
   subst h2'
   have h3:a.tmps[d]? = some (.bool x):=by simpa using h1
   have h4:(ops[j]?).bind (·.dst)=some d:=hd
   unfold yielded
   rw [h4,Option.bind_some,h3]
  have hwant:Region.wanted o (yielded ops a.tmps)=(x==want):=by simp [Region.wanted,hg,hy]
  rw [hwant]
  have skip:∀ (s1:St),Inv X.glob N Γ s1 a w→(K (s1.put o.dst (.tu []))).run R→K' (a.put o.dst undef) w:=fun s1 h1 h2=>hK _ _ _ Γ h2 (Ext.refl Γ w) (Wd.refl w) (h1.put ⟨[],rfl,.nil⟩)
  rcases sel_iff.1 h with ⟨rfl,h⟩ | ⟨rfl,h⟩
  ·cases want with
   | true=>exact .inl (run _ (by rw [put_rg]) (hI.lit hx) h)
   | false=>exact skip _ (hI.lit hx) h
  ·cases want with
   | false=>exact .inl (run _ (by rw [put_rg]) (hI.lit hx) h)
   | true=>exact skip _ (hI.lit hx) h
theorem nops_sound {β:Type} {N:Nat} {X:Cx} (hcon:∀ f T,X.con f=some T→Known X.P X.glob f T) {ops:Array Oper} {Q:Exit→Act→World→Prop}:∀ (l:List Oper) {s:St} {Γ:Env} {w:World} {a:Act} {K:St→Tr β} {R:β→Prop},Inv X.glob N Γ s a w→(nops X ops l s K).run R→
  (∀ s' a' w' Γ',(K s').run R→Ext Γ w Γ'→Wd w w'→Inv X.glob N Γ' s' a' w'→Q .normal a' w')→wpList X.P ops Q l a w
 | [],s,Γ,w,a,K,R,hI,h,hK=>hK s a w Γ h (Ext.refl Γ w) (Wd.refl w) hI
 | o::rest,s,Γ,w,a,K,R,hI,h,hK=>by
   unfold wpList
   exact nstep_sound hcon hI h fun s' a' w' Γ' h1 h2 h3 h4=>nops_sound hcon rest h4 h1 fun s2 a2 w2 Γ2 k1 k2 k3 k4=>hK s2 a2 w2 Γ2 k1 (h2.trans h3 k2) (h3.trans k3) k4
theorem nc_names {n:NS} {x:NC} (h:n.nc=some x):n.names=names x:=by
 unfold NS.nc at h
 split at h
 ·cases h; simp [NS.names,NV.names,NV.ncs]
 ·cases h
section
variable {P:Program} {gl:List Nat} {s s' : St}
theorem nload_same {t:TypeId} {a:NC} (h:∀ n∈names a,s.reg n=s'.reg n):nload P gl s t a=nload P gl s' t a:=by
 cases a <;> simp only [nload]
 ·rename_i r i c
  rw [h r (by simp [names])]
 ·rename_i r o w i c
  rw [h r (by simp [names])]
theorem nstore_same {t:TypeId} {a:NC} {x:NV} (h:∀ n∈names a,s.reg n=s'.reg n):nstore P s t a x=nstore P s' t a x:=by
 unfold nstore
 split
 ·cases a <;> simp only []
  ·rename_i r i c
   rw [h r (by simp [names])]
  ·rename_i r o w i c
   rw [h r (by simp [names])]
 ·rfl
theorem nindexAddr_same {t:TypeId} {a b:NC} (h:∀ n∈names a,s.reg n=s'.reg n):nindexAddr P s t a b=nindexAddr P s' t a b:=by
 unfold nindexAddr
 split
 ·split
  ·rfl
  ·rfl
  ·rw [h _ (by simp [names])]
  ·rw [h _ (by simp [names])]
  ·rw [h _ (by simp [names])]
  ·rfl
  ·rfl
  ·rfl
  ·rfl
 ·rfl
theorem nslice_same {t:TypeId} {a:NC} {lo hi:Option NC} (h:∀ n∈names a,s.reg n=s'.reg n):nslice P s t a lo hi=nslice P s' t a lo hi:=by
 unfold nslice
 split
 ·rfl
 ·rw [h _ (by simp [names])]
 ·rfl
 ·rw [h _ (by simp [names])]
 ·rw [h _ (by simp [names])]
 ·rfl
 ·rfl
 ·rfl
 ·rfl
 ·rfl
 ·rfl
theorem els_same {a:NC} (h:∀ n∈names a,s.reg n=s'.reg n):els s a=els s' a:=by
 cases a
 case h r i c=>
  have:=h r (by simp [names])
  unfold els
  simp only [this]
 case hq r o w i n=>
  have:=h r (by simp [names])
  unfold els
  simp only [this]
 case hz r n=>
  have:=h r (by simp [names])
  unfold els
  simp only [this]
 all_goals rfl
theorem ofOpt_same {x:Option Operand} (h:∀ y∈x.toList,s.ev y=s'.ev y):ofOpt s x=ofOpt s' x:=by
 cases x with
 | none=>rfl
 | some x=>simp only [ofOpt,h x (by simp)]
theorem nlen_same {args:List Operand} {ts:List TypeId} (h:∀ y∈args,s.ev y=s'.ev y):nlen P s args ts=nlen P s' args ts:=by
 unfold nlen
 split
 ·rename_i x t
  rw [h x (by simp)]
 ·rfl
theorem ncap_same {args:List Operand} {ts:List TypeId} (h:∀ y∈args,s.ev y=s'.ev y):ncap P s args ts=ncap P s' args ts:=by
 unfold ncap
 split
 ·rename_i x t
  rw [h x (by simp)]
 ·rfl
theorem seeds_same {x:NC} (h:∀ n∈names x,s.reg n=s'.reg n):seeds s x=seeds s' x:=by
 unfold seeds
 split
 ·rfl
 ·rfl
 ·rfl
 ·rfl
 ·rename_i r o n
  rw [h r (by simp [names])]
 ·rfl
theorem nmm_same {less:Bool} {args:List Operand} (h:∀ y∈args,s.ev y=s'.ev y):nmm less s args=nmm less s' args:=by
 unfold nmm
 split
 ·rename_i x y
  rw [h x (by simp),h y (by simp)]
 ·rfl
theorem parts_same {parts:Array (Nat × Operand)} (h:∀ y∈parts.toList.map (·.2),s.ev y=s'.ev y):(parts.toList.map fun (i,x)=>(i,s.ev x))=(parts.toList.map fun (i,x)=>(i,s'.ev x)):=by
 apply List.map_congr_left
 rintro ⟨i,x⟩ hx
 simp only [Prod.mk.injEq,true_and]
 exact h x (List.mem_map.2 ⟨(i,x),hx,rfl⟩)
theorem light_same {op:Op} (hev:∀ x∈op.operands.toList,s.ev x=s'.ev x) (hrg:still op=true∨∀ n∈op.operands.toList.flatMap (fun x=>(s.ev x).names),s.reg n=s'.reg n):light P gl s op=light P gl s' op:=by
 have hn:∀ (x:Operand) (y:NC),x∈op.operands.toList→(s.ev x).nc=some y→(still op=true∨∀ n∈names y,s.reg n=s'.reg n):=by
  intro x y hx hy
  refine hrg.imp id fun h n hm=>h n ?_
  rw [List.mem_flatMap]
  exact ⟨x,hx,by rw [nc_names hy]; exact hm⟩
 cases op <;> simp only [Op.operands] at hev hn <;> simp only [light]
 case load t a=>
  rw [← hev a (by simp)]
  split
  ·rename_i x _ hx
   rcases hn a x (by simp) hx with h | h
   ·cases a <;> simp [still] at h
    rename_i g
    have:x=.g g:=by simp only [St.ev,NS.nc,Option.some.injEq] at hx; exact hx.symm
    subst this
    rfl
   ·rw [nload_same h]
  ·rfl
 case store t a x=>
  rw [← hev a (by simp),← hev x (by simp)]
  split
  ·rename_i y z _ hy hz
   rcases hn a y (by simp) hy with h | h
   ·simp [still] at h
   ·rw [nstore_same h]
  ·rfl
 case indexAddr t x ix=>
  rw [← hev x (by simp),← hev ix (by simp)]
  split
  ·rename_i y z hy hz
   rcases hn x y (by simp) hy with h | h
   ·simp [still] at h
   ·rw [nindexAddr_same h]
  ·rfl
 case sliceToArrayPointer t x=>rw [← hev x (by simp)]
 case slice t x lo hi m=>
  cases m with
  | some m=>rfl
  | none=>
    simp only []
    rw [← hev x (by simp),← ofOpt_same (x:=lo) (fun y hy=>hev y (by cases lo <;> simp_all)),← ofOpt_same (x:=hi) (fun y hy=>hev y (by cases hi <;> simp_all))]
    split
    ·rename_i y l u hy hl hu
     rcases hn x y (by simp) hy with h | h
     ·simp [still] at h
     ·rw [nslice_same h]
    ·rfl
 case call c=>
  split
  ·rw [nlen_same fun y hy=>hev y (by simp [Call.operands]; right; simpa using hy)]
  ·rw [ncap_same fun y hy=>hev y (by simp [Call.operands]; right; simpa using hy)]
  ·rw [nmm_same fun y hy=>hev y (by simp [Call.operands]; right; simpa using hy)]
  ·rw [nmm_same fun y hy=>hev y (by simp [Call.operands]; right; simpa using hy)]
  ·rfl
 case makeFunc fn first caps=>
  cases fn
  case func f=>
   have e:caps.toList.map s.ev=caps.toList.map s'.ev:=List.map_congr_left fun x hx=>hev x (by simp; right; simpa using hx)
   simp only [e]
  all_goals rfl
 case typeAssert x xt asserted ok=>
  cases ok
  ·rfl
  ·simp only []
   rw [← hev x (by simp)]
 case build t parts=>rw [parts_same (fun y hy=>hev y (by simpa using hy))]
 case buildSlice t n parts=>rw [parts_same (fun y hy=>hev y (by simpa using hy))]
 all_goals first
  | rfl
  | (simp only [← hev _ (by simp:_∈#[_].toList)]; done)
  | (simp_all; done)
theorem reach_same (h:∀ n,s.reg n=s'.reg n):∀ (k:Nat) (l acc:List Nat),reach s k l acc=reach s' k l acc
 | 0,_,_=>rfl
 | k+1,[],_=>rfl
 | k+1,n::l,acc=>by
   simp only [reach,h n]
   split
   ·exact reach_same h k _ _
   ·split
    ·exact reach_same h k _ _
    ·exact reach_same h k _ _
theorem tels_same {a:NC} (h:∀ n∈names a,s.reg n=s'.reg n):tels s a=tels s' a:=by
 unfold tels
 split
 ·rename_i r o n
  rw [h r (by simp [names])]
 ·rename_i r n
  rw [h r (by simp [names])]
 ·rfl
 ·rfl
theorem argNC_same {passed:List Nat} {t:Option TypeId} {x:NC} (h:∀ n∈names x,s.reg n=s'.reg n):argNC P s passed t x=argNC P s' passed t x:=by
 unfold argNC
 split
 ·split
  ·rfl
  ·rw [els_same h,tels_same h]
 ·split
  ·rfl
  ·rw [els_same h]
 ·split
  ·rfl
  ·rw [els_same h,tels_same h]
 ·rfl
 ·rfl
theorem argL_same {passed:List Nat} {t:Option TypeId}:∀ {xs:List NC},(∀ n∈xs.flatMap names,s.reg n=s'.reg n)→argL (argNC P s passed t) xs=argL (argNC P s' passed t) xs
 | [],_=>rfl
 | x::xs,h=>by
   simp only [argL]
   rw [argNC_same (fun n hn=>h n (by simp [hn])),argL_same (fun n hn=>h n (by simp only [List.flatMap_cons,List.mem_append]; exact .inr hn))]
theorem argSegs_same {passed:List Nat} {t:Option TypeId}:∀ {l:List Seg},(∀ n∈(segNcs l).flatMap names,s.reg n=s'.reg n)→argSegs (argNC P s passed t) l=argSegs (argNC P s' passed t) l
 | [],_=>rfl
 | x::l,h=>by
   simp only [argSegs]
   rw [argSegs_same (l:=l) (fun n hn=>h n (by simp only [segNcs,List.flatMap_append,List.mem_append]; exact .inr hn))]
   cases x with
   | cells xs=>
     simp only [argSeg]
     rw [argL_same (xs:=xs) (fun n hn=>h n (by simp only [segNcs,Seg.ncs,List.flatMap_append,List.mem_append]; exact .inl hn))]
   | ints k n xs=>rfl
   | recs ks n xs=>rfl
theorem argNV_same {passed:List Nat} {t:Option TypeId} {x:NV} (h:∀ n∈x.names,s.reg n=s'.reg n):argNV P s passed t x=argNV P s' passed t x:=by
 cases x with
 | c x=>simp only [argNV]; rw [argNC_same (fun n hn=>h n (by simp [NV.names,NV.ncs,hn]))]
 | ag xs=>simp only [argNV]; rw [argL_same (xs:=xs) (fun n hn=>h n hn)]
 | sg l=>simp only [argNV]; rw [argSegs_same (l:=l) (fun n hn=>h n hn)]
theorem argsNV_same {passed:List Nat}:∀ {ts:List TypeId} {xs:List NV},(∀ n∈xs.flatMap NV.names,s.reg n=s'.reg n)→argsNV P s passed ts xs=argsNV P s' passed ts xs
 | _,[],_=>rfl
 | ts,x::xs,h=>by
   simp only [argsNV]
   rw [argNV_same (fun n hn=>h n (by simp only [List.flatMap_cons,List.mem_append]; exact .inl hn)),argsNV_same (fun n hn=>h n (by simp only [List.flatMap_cons,List.mem_append]; exact .inr hn))]
theorem seeds_all {args:List NV} (h:∀ n∈args.flatMap NV.names,s.reg n=s'.reg n):args.flatMap (fun x=>x.ncs.flatMap (seeds s))=args.flatMap (fun x=>x.ncs.flatMap (seeds s')):=by
 induction args with
 | nil=>rfl
 | cons a l ih=>
   simp only [List.flatMap_cons]
   rw [ih fun n hn=>h n (by rw [List.flatMap_cons,List.mem_append]; exact .inr hn)]
   congr 1
   have h' : ∀ n∈a.ncs.flatMap names,s.reg n=s'.reg n:=fun n hn=>h n (by rw [List.flatMap_cons,List.mem_append]; exact .inl hn)
   generalize a.ncs=cs at h'
   induction cs with
   | nil=>rfl
   | cons c cs ihc=>
     simp only [List.flatMap_cons]
     rw [ihc fun n hn=>h' n (by rw [List.flatMap_cons,List.mem_append]; exact .inr hn),seeds_same fun n hn=>h' n (by rw [List.flatMap_cons,List.mem_append]; exact .inl hn)]
theorem ncallP_same {X:Cx} {q:Nat} {f:FuncId} {args:List NV} {nm:Nat} (h:∀ n,s.reg n=s'.reg n) :
  ncallP X q (reach s 64 (args.flatMap fun x=>x.ncs.flatMap (seeds s)) []) f args nm s=ncallP X q (reach s' 64 (args.flatMap fun x=>x.ncs.flatMap (seeds s')) []) f args nm s':=by
 unfold ncallP
 simp only [reach_same h,seeds_all (s:=s) (s':=s') (args:=args) (fun n _=>h n),argsNV_same (P:=X.P) (fun n _=>h n),h]
theorem focusAt_same {t:Option TypeId} {x:NV} (h:∀ n∈x.names,s.reg n=s'.reg n):focusAt P s t x=focusAt P s' t x:=by
 unfold focusAt
 split
 ·rename_i t r i c
  rw [h r (by simp [NV.names,NV.ncs,names])]
 ·rename_i t r a w i c
  rw [h r (by simp [NV.names,NV.ncs,names])]
 ·rfl
theorem reg_put (s:St) (m:Nat) (x:Option Reg) (n:Nat):({s with rg:=putAt s.rg m x}:St).reg n=if n=m then x else s.reg n:=by
 have key:∀ y:Reg,({s with rg:=putAt s.rg m x}:St).reg n=some y↔(if n=m then x else s.reg n)=some y:=by
  intro y
  rw [reg_eq]
  show (putAt s.rg m x)[n]? = _↔_
  rw [putAt_get]
  split
  ·rename_i e; simp [e]
  ·rename_i e
   simp only [e,false_and,ne_eq,not_false_eq_true,true_and,false_or]
   exact (reg_eq s n y).symm
 cases h:(if n=m then x else s.reg n) with
 | some y=>exact (key y).2 h
 | none=>
   cases h2:({s with rg:=putAt s.rg m x}:St).reg n with
   | none=>rfl
   | some y=>have:=(key y).1 h2; rw [h] at this; cases this
theorem ncallF_same {X:Cx} {f:FuncId} {r:Nat} {g:Reg} {o:Nat} {p:Reg} {rest:List NV} {nm:Nat} (h:∀ n,s.reg n=s'.reg n):ncallF X f r g o p rest nm s=ncallF X f r g o p rest nm s':=by
 unfold ncallF
 simp only []
 have h1:∀ n,({s with rg:=putAt s.rg r none}:St).reg n=({s' with rg:=putAt s'.rg r none}:St).reg n:=fun n=>by rw [reg_put,reg_put,h]
 have h2:∀ n,({s with rg:=putAt (putAt s.rg r none) nm (some p)}:St).reg n=({s' with rg:=putAt (putAt s'.rg r none) nm (some p)}:St).reg n:=fun n=>by
  have e1:=reg_put {s with rg:=putAt s.rg r none} nm (some p) n
  have e2:=reg_put {s' with rg:=putAt s'.rg r none} nm (some p) n
  rw [h1 n] at e1
  exact e1.trans e2.symm
 rw [ncallP_same h2]
theorem ncall_same {X:Cx} {f:FuncId} {args:List NV} {nm:Nat} (h:∀ n,s.reg n=s'.reg n):ncall X f args nm s=ncall X f args nm s':=by
 unfold ncall
 split
 ·rename_i x rest
  rw [focusAt_same (s:=s) (s':=s') fun n _=>h n]
  split
  ·rw [ncallF_same h]; exact congrArg (orTr _) (ncallP_same h)
  ·exact ncallP_same h
 ·exact ncallP_same h
theorem ncall_same2 {X:Cx} {f:FuncId} {args:List NV} {nm:Nat} (h:∀ n∈args.flatMap NV.names,s.reg n=s'.reg n) (h0:args.flatMap (fun x=>x.ncs.flatMap (seeds s))=[]):ncall X f args nm s=ncall X f args nm s':=by
 have h1:=(seeds_all h).symm.trans h0
 have hn:∀ {s0:St} {t:Option TypeId} {x:NV} {rest:List NV},(x::rest).flatMap (fun x=>x.ncs.flatMap (seeds s0))=[]→focusAt X.P s0 t x=none:=fun {s0 t x rest} hs=>by
  unfold focusAt
  split
  ·rename_i t r i c
   simp [NV.ncs,seeds] at hs
  ·rename_i t r a w i c
   simp [NV.ncs,seeds] at hs
  ·rfl
 have k0:ncall0 X f args nm s=ncall0 X f args nm s':=by
  unfold ncall0 ncallP
  have e:∀ s:St,reach s 64 [] []=[]:=fun s=>rfl
  simp only [h0,h1,e,argsNV_same (P:=X.P) h,mapL]
 unfold ncall
 split
 ·rw [hn h0,hn h1]
  exact k0
 ·exact k0
theorem nmapAt_same {t:TypeId} {m k:Operand} (hm:s.ev m=s'.ev m) (hk:s.ev k=s'.ev k) (h:∀ n∈(s.ev m).names,s.reg n=s'.reg n):nmapAt P s t m k=nmapAt P s' t m k:=by
 unfold nmapAt
 rw [← hm,← hk]
 split
 ·rename_i kt et r key hu hr hkv
  have:s.reg r=s'.reg r:=h r (by rw [nc_names hr]; simp [names])
  rw [this]
 ·rfl
theorem nvRows_same {sch:List Part}:∀ {parts:List (Nat × Operand)} {j:Nat},(∀ p∈parts,s.ev p.2=s'.ev p.2)→nvRows sch s j parts=nvRows sch s' j parts
 | [],_,_=>rfl
 | (i,x)::l,j,h=>by
   simp only [nvRows]
   rw [h (i,x) (by simp),nvRows_same fun p hp=>h p (by simp [hp])]
theorem nbuildT_same {t:TypeId} {len:Nat} {parts:List (Nat × Operand)} (h:∀ p∈parts,s.ev p.2=s'.ev p.2):nbuildT P s t len parts=nbuildT P s' t len parts:=by
 have e:∀ sch,nvRows sch s 0 parts=nvRows sch s' 0 parts:=fun sch=>nvRows_same h
 unfold nbuildT
 simp only [e]
theorem nappendT_same {t:TypeId} {x y:NC} {nm:Nat} (h:∀ n,s.reg n=s'.reg n):nappendT P s t x y nm=nappendT P s' t x y nm:=by
 have e:∀ z,tels s z=tels s' z:=fun z=>tels_same fun n _=>h n
 unfold nappendT
 simp only [e,h]
theorem nappend_same {t:TypeId} {x y:NC} {nm:Nat} (h:∀ n,s.reg n=s'.reg n):nappend P s t x y nm=nappend P s' t x y nm:=by
 unfold nappend
 have e:∀ a,els s a=els s' a:=fun a=>els_same fun n _=>h n
 simp only [h,e]
theorem ncopy_same {t:TypeId} {x y:NC} (h:∀ n,s.reg n=s'.reg n):ncopy P s t x y=ncopy P s' t x y:=by
 have e:∀ a,els s a=els s' a:=fun a=>els_same fun n _=>h n
 unfold ncopy ncopyE
 simp only [h,e]
theorem nclear_same {t:TypeId} {x:NC} (h:∀ n,s.reg n=s'.reg n):nclear P s t x=nclear P s' t x:=by
 unfold nclear
 simp only [h]
theorem nzeros_same {t u:TypeId} {x y:NC} {nm:Nat} (h:∀ n,s.reg n=s'.reg n):nzeros P s t u x y nm=nzeros P s' t u x y nm:=by
 unfold nzeros
 have e:∀ a,els s a=els s' a:=fun a=>els_same fun n _=>h n
 simp only [h,e]
theorem allNV_names:∀ {l:List NS} {xs:List NV},allNV l=some xs→l.flatMap NS.names=xs.flatMap NV.names∧l.flatMap (NS.seeds s)=xs.flatMap (fun x=>x.ncs.flatMap (seeds s))
 | [],xs,h=>by simp [allNV] at h; subst h; exact ⟨rfl,rfl⟩
 | x::l,xs,h=>by
   simp only [allNV] at h
   split at h
   ·rename_i a b h1 h2
    cases h
    obtain ⟨h3,h4⟩:=allNV_names h2
    have h5:x=.v a:=by
     unfold NS.nv at h1
     split at h1
     ·cases h1; rfl
     ·cases h1
    subst h5
    simp only [List.flatMap_cons,h3,h4]
    exact ⟨rfl,rfl⟩
   ·cases h
theorem deff_same {X:Cx} {op:Op} {nm:Nat} (hev:∀ x∈op.operands.toList,s.ev x=s'.ev x)
  (hrg:still op=true∨(∀ n,s.reg n=s'.reg n)∨
    (mild X.P op=true∧(isCall op=true→op.operands.toList.flatMap (fun x=>(s.ev x).seeds s)=[])∧∀ n∈op.operands.toList.flatMap (fun x=>(s.ev x).names),s.reg n=s'.reg n)) :
  deff X op nm s=deff X op nm s':=by
 have hl:light X.P X.glob s op=light X.P X.glob s' op:=by
  refine light_same hev ?_
  rcases hrg with h | h | ⟨-,-,h⟩
  ·exact .inl h
  ·exact .inr fun n _=>h n
  ·exact .inr h
 unfold deff
 split
 ·rename_i bop t x y yt
  simp only [Op.operands] at hev
  have e:nilUnk X.P s bop t x y=nilUnk X.P s' bop t x y:=by unfold nilUnk; rw [hev x (by simp),hev y (by simp)]
  have e2:nstructEq X.P s bop t x y=nstructEq X.P s' bop t x y:=by unfold nstructEq; rw [hev x (by simp),hev y (by simp)]
  rw [e,e2]
  split
  ·rfl
  ·split
   ·rfl
   ·rw [hl]
 ·rename_i c a b
  simp only [Op.operands] at hev
  rw [hev c (by simp),hev a (by simp),hev b (by simp)]
 ·rename_i c
  have hargs:c.args.toList.map s.ev=c.args.toList.map s'.ev:=List.map_congr_left fun x hx=>hev x (by simp [Op.operands,Call.operands]; right; simpa using hx)
  split
  ·rename_i f hcal
   have hf:s.ev f=s'.ev f:=hev f (by simp [Op.operands,Call.operands,hcal])
   rw [← hf,← hargs]
   split
   ·rename_i g cap l hg hl'
    rcases hrg with h | h | ⟨hm,hp,h⟩
    ·unfold still at h
     split at h <;> first | (cases h; done) | (simp_all; done)
    ·exact ncall_same h
    ·have hp:=hp (by
      unfold isCall
      split
      ·rfl
      ·rename_i hno
       exfalso
       obtain ⟨cal,a1,a2⟩:=c
       simp only at hcal
       subst hcal
       exact hno _ _ _ rfl)
     obtain ⟨e1,e2⟩:=allNV_names hl'
     have hops:(Op.call c).operands.toList=f::c.args.toList:=by simp [Op.operands,Call.operands,hcal]
     have hcap:cap=[]:=by
      rw [hops,List.flatMap_cons,hg] at hp
      have:=(List.append_eq_nil_iff.1 hp).1
      simpa [NS.seeds,NV.ncs,seeds] using this
     subst hcap
     refine ncall_same2 (fun n hn=>h n ?_) ?_
     ·rw [hops,List.flatMap_cons,List.mem_append]
      right
      rw [List.map_nil,List.append_nil,← e1,List.flatMap_map] at hn
      exact hn
     ·rw [List.map_nil,List.append_nil,← e2,List.flatMap_map]
      rw [hops,List.flatMap_cons] at hp
      exact (List.append_eq_nil_iff.1 hp).2
   ·rfl
  ·rename_i hcal
   split
   ·rename_i x y t u hca hct
    have hx:s.ev x=s'.ev x:=hev x (by simp [Op.operands,Call.operands,hcal]; exact Array.mem_toList_iff.1 (by rw [hca]; simp))
    have hy:s.ev y=s'.ev y:=hev y (by simp [Op.operands,Call.operands,hcal]; exact Array.mem_toList_iff.1 (by rw [hca]; simp))
    rw [← hx,← hy]
    split
    ·split
     ·rcases hrg with h | h | ⟨hm,-,-⟩
      ·unfold still at h
       split at h <;> first | (cases h; done) | (simp_all; done)
      ·rw [nappendT_same h,nappend_same h]
      ·unfold mild at hm
       split at hm <;> first | (cases hm; done) | (simp_all; done)
     ·rfl
    ·split
     ·rcases hrg with h | h | ⟨hm,-,-⟩
      ·unfold still at h
       split at h <;> first | (cases h; done) | (simp_all; done)
      ·exact nzeros_same h
      ·unfold mild at hm
       split at hm <;> first | (cases hm; done) | (simp_all; done)
     ·rfl
   ·rfl
  ·rename_i hcal
   split
   ·rename_i m k t ts hca hct
    have hx:s.ev m=s'.ev m:=hev m (by simp [Op.operands,Call.operands,hcal]; exact Array.mem_toList_iff.1 (by rw [hca]; simp))
    have hy:s.ev k=s'.ev k:=hev k (by simp [Op.operands,Call.operands,hcal]; exact Array.mem_toList_iff.1 (by rw [hca]; simp))
    have e:nmapDel X.P s t m k=nmapDel X.P s' t m k:=by
     unfold nmapDel
     rw [nmapAt_same hx hy]
     intro n hn
     rcases hrg with h | h | ⟨hm,-,-⟩
     ·unfold still at h
      split at h <;> first | (cases h; done) | (simp_all; done)
     ·exact h n
     ·unfold mild at hm
      split at hm <;> first | (cases hm; done) | (simp_all; done)
    rw [e]
   ·rfl
  ·rename_i hcal
   split
   ·rename_i x y t u hca hct
    have hx:s.ev x=s'.ev x:=hev x (by simp [Op.operands,Call.operands,hcal]; exact Array.mem_toList_iff.1 (by rw [hca]; simp))
    have hy:s.ev y=s'.ev y:=hev y (by simp [Op.operands,Call.operands,hcal]; exact Array.mem_toList_iff.1 (by rw [hca]; simp))
    rw [← hx,← hy]
    split
    ·rcases hrg with h | h | ⟨hm,-,-⟩
     ·unfold still at h
      split at h <;> first | (cases h; done) | (simp_all; done)
     ·exact ncopy_same h
     ·unfold mild at hm
      split at hm <;> first | (cases hm; done) | (simp_all; done)
    ·rfl
   ·rfl
  ·rename_i hcal
   split
   ·rename_i x t hca hct
    have hx:s.ev x=s'.ev x:=hev x (by simp [Op.operands,Call.operands,hcal]; exact Array.mem_toList_iff.1 (by rw [hca]; simp))
    rw [← hx]
    split
    ·rcases hrg with h | h | ⟨hm,-,-⟩
     ·unfold still at h
      split at h <;> first | (cases h; done) | (simp_all; done)
     ·exact nclear_same h
     ·unfold mild at hm
      split at hm <;> first | (cases hm; done) | (simp_all; done)
    ·rfl
   ·rfl
  ·rw [hl]
 ·rename_i src dst x
  have hx:s.ev x=s'.ev x:=hev x (by simp [Op.operands])
  have hb:bytesOf X.P s src dst x=bytesOf X.P s' src dst x:=by
   unfold bytesOf
   rw [← hx]
   split
   ·rename_i r off len hv
    have he:els s (.h r off len)=els s' (.h r off len):=by
     apply els_same
     intro n hn
     rcases hrg with h | h | ⟨-,-,h⟩
     ·simp [still] at h
     ·exact h n
     ·refine h n (List.mem_flatMap.2 ⟨x,by simp [Op.operands],?_⟩)
      rw [hv]
      simpa [NS.names,NV.names,NV.ncs] using hn
    rw [he]
   ·rfl
   ·rfl
  have hc:convOwn X.P s src dst x=convOwn X.P s' src dst x:=by
   unfold convOwn
   rw [← hx]
   split
   ·rename_i r len e hv _
    have he:s.reg r=s'.reg r:=by
     rcases hrg with h | h | ⟨-,-,h⟩
     ·simp [still] at h
     ·exact h r
     ·refine h r (List.mem_flatMap.2 ⟨x,by simp [Op.operands],?_⟩)
      rw [hv]
      simp [NS.names,NV.names,NV.ncs,names]
    rw [he]
   ·rfl
  rw [← hb,← hc,hl]
 ·rename_i t x
  have hx:s.ev x=s'.ev x:=hev x (by simp [Op.operands])
  have hb:sliceArr X.P s t x=sliceArr X.P s' t x:=by
   unfold sliceArr
   rw [← hx]
   split
   ·rename_i r n e hv _
    have he:s.reg r=s'.reg r:=by
     rcases hrg with h | h | ⟨-,-,h⟩
     ·simp [still] at h
     ·exact h r
     ·refine h r (List.mem_flatMap.2 ⟨x,by simp [Op.operands],?_⟩)
      rw [hv]
      simp [NS.names,NV.names,NV.ncs,names]
    rw [he]
   ·rfl
  rw [← hb,hl]
 ·rename_i t m k ok
  have hx:s.ev m=s'.ev m:=hev m (by simp [Op.operands])
  have hy:s.ev k=s'.ev k:=hev k (by simp [Op.operands])
  have e:nlookup X.P s t m k=nlookup X.P s' t m k:=by
   unfold nlookup
   rw [nmapAt_same hx hy]
   intro n hn
   rcases hrg with h | h | ⟨-,-,h⟩
   ·simp [still] at h
   ·exact h n
   ·exact h n (List.mem_flatMap.2 ⟨m,by simp [Op.operands],hn⟩)
  rw [e]
 ·rename_i t m k v
  have hx:s.ev m=s'.ev m:=hev m (by simp [Op.operands])
  have hy:s.ev k=s'.ev k:=hev k (by simp [Op.operands])
  have hz:s.ev v=s'.ev v:=hev v (by simp [Op.operands])
  have e:nmapSet X.P s t m k v=nmapSet X.P s' t m k v:=by
   unfold nmapSet
   rw [nmapAt_same hx hy,hz]
   intro n hn
   rcases hrg with h | h | ⟨-,-,h⟩
   ·simp [still] at h
   ·exact h n
   ·exact h n (List.mem_flatMap.2 ⟨m,by simp [Op.operands],hn⟩)
  rw [e]
 ·rename_i t len parts
  have e:nbuildT X.P s t len parts.toList=nbuildT X.P s' t len parts.toList:=nbuildT_same fun p hp=>hev p.2 (by
   simp only [Op.operands,List.mem_map]
   exact ⟨p,hp,rfl⟩)
  rw [e,hl]
 ·rfl
 ·rw [hl]
theorem mapL_congr {α β:Type} {f g:α→Option β}:∀ {l:List α},(∀ x∈l,f x=g x)→mapL f l=mapL g l
 | [],_=>rfl
 | x::l,h=>by
   simp only [mapL]
   rw [h x (by simp),mapL_congr fun y hy=>h y (by simp [hy])]
theorem reach_sameC {C:Nat→Prop} (hC:∀ n,C n→s.reg n=s'.reg n) (hcl:∀ n g,C n→s.reg n=some g→∀ m∈g.body.names,C m) :
  ∀ (k:Nat) (l acc:List Nat),(∀ n∈l,C n)→reach s k l acc=reach s' k l acc∧((∀ n∈acc,C n)→∀ n∈reach s k l acc,C n)
 | 0,_,_,_=>⟨rfl,fun h=>h⟩
 | k+1,[],_,_=>⟨rfl,fun h=>h⟩
 | k+1,n::l,acc,hl=>by
   have hn:=hl n (by simp)
   have hl' : ∀ m∈l,C m:=fun m hm=>hl m (by simp [hm])
   simp only [reach,← hC n hn]
   split
   ·exact reach_sameC hC hcl k l acc hl'
   ·split
    ·rename_i g hg
     have hh:∀ m∈g.body.names++l,C m:=fun m hm=>(List.mem_append.1 hm).elim (hcl n g hn hg m) (hl' m)
     obtain ⟨h1,h2⟩:=reach_sameC hC hcl k (g.body.names++l) (acc++[n]) hh
     refine ⟨h1,fun ha=>h2 fun m hm=>?_⟩
     rcases List.mem_append.1 hm with hm | hm
     ·exact ha m hm
     ·rw [List.mem_singleton] at hm
      rw [hm]; exact hn
    ·exact reach_sameC hC hcl k l acc hl'
theorem ncall_sameC {X:Cx} {f:FuncId} {args:List NV} {nm:Nat} {C:Nat→Prop} (h:∀ n∈args.flatMap NV.names,s.reg n=s'.reg n) (hC:∀ n,C n→s.reg n=s'.reg n)
  (hcl:∀ n g,C n→s.reg n=some g→∀ m∈g.body.names,C m) (hs:∀ n∈args.flatMap (fun x=>x.ncs.flatMap (seeds s)),C n)
  (hf:∀ x rest,args=x::rest→focusAt X.P s ((X.P.funcs[f]?).bind fun fn=>fn.params.toList.head?) x=none):ncall X f args nm s=ncall X f args nm s':=by
 obtain ⟨h1,h2⟩:=reach_sameC hC hcl 64 _ [] hs
 have k0:ncall0 X f args nm s=ncall0 X f args nm s':=by
  unfold ncall0 ncallP
  rw [← seeds_all h,← h1]
  have e:mapL (fun n=>(s.reg n).bind (mapReg (mapNC (posIn (reach s 64 (args.flatMap fun x=>x.ncs.flatMap (seeds s)) []))))) (reach s 64 (args.flatMap fun x=>x.ncs.flatMap (seeds s)) []) =
    mapL (fun n=>(s'.reg n).bind (mapReg (mapNC (posIn (reach s 64 (args.flatMap fun x=>x.ncs.flatMap (seeds s)) []))))) (reach s 64 (args.flatMap fun x=>x.ncs.flatMap (seeds s)) []):=
   mapL_congr fun n hn=>by rw [hC n (h2 (fun _ h=>by cases h) n hn)]
  simp only [e,argsNV_same (P:=X.P) h]
 unfold ncall
 split
 ·rename_i x rest
  have hfx:focusAt X.P s' ((X.P.funcs[f]?).bind fun fn=>fn.params.toList.head?) x=none:=by
   rw [← focusAt_same (s:=s) (s':=s') (fun n hn=>h n (by rw [List.flatMap_cons,List.mem_append]; exact .inl hn))]
   exact hf x rest rfl
  rw [hf x rest rfl,hfx]
  exact k0
 ·exact k0
theorem callArgs_same {op:Op} (hev:∀ x∈op.operands.toList,s.ev x=s'.ev x):callArgs s op=callArgs s' op:=by
 unfold callArgs
 split
 ·rename_i f args ats
  have hargs:args.toList.map s.ev=args.toList.map s'.ev:=List.map_congr_left fun x hx=>hev x (by simp [Op.operands,Call.operands]; right; simpa using hx)
  rw [hev f (by simp [Op.operands,Call.operands]),hargs]
 ·rfl
theorem callArgs_names {op:Op} {f:FuncId} {args:List NV} (h:callArgs s op=some (f,args)) {n:Nat} (hn:n∈args.flatMap NV.names):n∈op.operands.toList.flatMap fun x=>(s.ev x).names:=by
 unfold callArgs at h
 split at h
 case h_2=>cases h
 rename_i f' args' ats
 split at h
 case h_2=>cases h
 rename_i g cap l hg hl
 cases h
 obtain ⟨e1,-⟩:=allNV_names (s:=s) hl
 have hops:(Op.call {callee:=.value f',args:=args',argTypes:=ats}).operands.toList=f'::args'.toList:=by simp [Op.operands,Call.operands]
 rw [hops,List.flatMap_cons,List.mem_append]
 rw [List.flatMap_append,List.mem_append] at hn
 rcases hn with hn | hn
 ·right
  rw [← e1,List.flatMap_map] at hn
  exact hn
 ·left
  rw [hg]
  rw [List.flatMap_map,List.mem_flatMap] at hn
  obtain ⟨y,hy,hn⟩:=hn
  have hn:n=y.1:=by simpa [NV.names,NV.ncs,names] using hn
  simp only [NS.names,NV.names,NV.ncs,List.flatMap_cons,List.flatMap_nil,List.append_nil,names]
  rw [hn]
  exact List.mem_map.2 ⟨y,hy,rfl⟩
theorem belowOk_same {P:Program} {base:Nat} {op:Op} (hev:∀ x∈op.operands.toList,s.ev x=s'.ev x) (h:∀ n∈op.operands.toList.flatMap (fun x=>(s.ev x).names),s.reg n=s'.reg n) (hb:∀ n,n<base→s.reg n=s'.reg n) :
  belowOk P base s op=belowOk P base s' op:=by
 unfold belowOk
 rw [← callArgs_same hev]
 split
 ·rename_i f args ha
  have hn:∀ n∈args.flatMap NV.names,s.reg n=s'.reg n:=fun n hn=>h n (callArgs_names ha hn)
  congr 1
  ·congr 1
   ·rw [seeds_all hn]
   ·have e:∀ l:List Nat,(∀ n∈l,n<base)→(l.all fun n=>match s.reg n with | some g=>g.body.names.all fun m=>decide (m<base) | none=>true)=(l.all fun n=>match s'.reg n with | some g=>g.body.names.all fun m=>decide (m<base) | none=>true):=by
     intro l hl
     induction l with
     | nil=>rfl
     | cons n l ih=>
       rw [List.all_cons,List.all_cons,hb n (hl n (by simp)),ih fun m hm=>hl m (by simp [hm])]
    exact e _ fun n hn=>List.mem_range.1 hn
  ·split
   ·rename_i x rest
    rw [focusAt_same (s:=s) (s':=s') fun n hm=>hn n (by rw [List.flatMap_cons,List.mem_append]; exact .inl hm)]
   ·rfl
 ·rfl
theorem deff_callA {X:Cx} {op:Op} {nm base:Nat} (hop:isCall op=true) (hev:∀ x∈op.operands.toList,s.ev x=s'.ev x) (h:∀ n∈op.operands.toList.flatMap (fun x=>(s.ev x).names),s.reg n=s'.reg n) (hb:∀ n,n<base→s.reg n=s'.reg n)
  (hok:belowOk X.P base s op=true):deff X op nm s=deff X op nm s':=by
 unfold isCall at hop
 split at hop
 case h_2=>cases hop
 rename_i f args ats
 have hargs:args.toList.map s.ev=args.toList.map s'.ev:=List.map_congr_left fun x hx=>hev x (by simp [Op.operands,Call.operands]; right; simpa using hx)
 have hf:=hev f (by simp [Op.operands,Call.operands])
 show (match s.ev f,allNV (args.toList.map s.ev) with
  | .v (.c (.cl f cap)),some l=>ncall X f (l++cap.map fun (x:Nat × Nat × Nat)=>NV.c (.p x.1 x.2.1 x.2.2)) nm s
  | _,_=>Tr.fail)=(match s'.ev f,allNV (args.toList.map s'.ev) with
  | .v (.c (.cl f cap)),some l=>ncall X f (l++cap.map fun (x:Nat × Nat × Nat)=>NV.c (.p x.1 x.2.1 x.2.2)) nm s'
  | _,_=>Tr.fail)
 rw [← hf,← hargs]
 split
 ·rename_i g cap l hg hl
  have ha:callArgs s (.call {callee:=.value f,args:=args,argTypes:=ats})=some (g,l++cap.map fun x=>.c (.p x.1 x.2.1 x.2.2)):=by
   show (match s.ev f,allNV (args.toList.map s.ev) with
    | .v (.c (.cl f cap)),some l=>some (f,l++cap.map fun (x:Nat × Nat × Nat)=>NV.c (.p x.1 x.2.1 x.2.2))
    | _,_=>none)=_
   rw [hg,hl]
  unfold belowOk at hok
  rw [ha] at hok
  simp only [Bool.and_eq_true] at hok
  obtain ⟨⟨h1,h2⟩,h3⟩:=hok
  refine ncall_sameC (C:=fun n=>n<base) (fun n hn=>h n (callArgs_names ha hn)) hb (fun n g' hn hg' m hm=>?_) (fun n hn=>of_decide_eq_true (List.all_eq_true.1 h1 n hn)) fun x rest hx=>?_
  ·have h4:=List.all_eq_true.1 h2 n (List.mem_range.2 hn)
   rw [hg'] at h4
   exact of_decide_eq_true (List.all_eq_true.1 h4 m hm)
  ·rw [hx] at h3
   simpa using h3
 ·rfl
theorem deff_store_same {X:Cx} {t:TypeId} {a v:Operand} {nm:Nat} (hev:∀ x∈(Op.store t a v).operands.toList,s.ev x=s'.ev x)
  (hrg:∀ n∈(Op.store t a v).operands.toList.flatMap (fun x=>(s.ev x).names),s.reg n=s'.reg n):deff X (.store t a v) nm s=deff X (.store t a v) nm s':=by
 have hl:=light_same (P:=X.P) (gl:=X.glob) hev (.inr hrg)
 show (light X.P X.glob s (.store t a v)).eff nm=(light X.P X.glob s' (.store t a v)).eff nm
 rw [hl]
end
def estep (ops:Array Oper) (o:Oper) (E:St→Tr Eff) (s:St):Tr Eff:=
 match o.guard with
 | none=>E s
 | some (j,want)=>
   match guardSlot ops j with
   | some d=>
     (match s.fr[d]? with
      | some (.v (.c (.b x)))=>if x=want then E s else .ret {up:=[],v:=.tu []}
      | some (.tu [])=>.ret {up:=[],v:=.tu []}
      | _=>.fail)
   | none=>.fail
theorem put_lit {s:St} {d:Tmp} {x:Bool} (hd:s.fr[d]? = some (.v (.c (.b x)))):s.put (some d) (lit x)=s:=by
 show St.mk (s.fr.set d _) s.rg=s
 have:s.fr.set d (Nx.lit x)=s.fr:=List.ext_getElem? fun j=>by
  rw [List.getElem?_set]
  split
  ·rename_i e; subst e
   split
   ·rw [hd]; rfl
   ·rename_i hl; rw [List.getElem?_eq_none (by omega)] at hd; cases hd
  ·rfl
 rw [this]
theorem nstep_estep {β:Type} {ops:Array Oper} {o:Oper} {E:St→Tr Eff} {s:St} {K:St→Tr β} {R:β→Prop} (h:(nstep ops o E s K).run R):(estep ops o E s).run fun e=>(K (s.app e o.dst)).run R:=by
 unfold nstep at h
 unfold estep
 split at h
 ·rename_i hg; rw [hg]; rw [Tr.run_bind] at h; exact h
 ·rename_i j want hg
  rw [hg]
  simp only
  split at h
  case h_2=>exact h.elim
  rename_i d hd
  rw [hd]
  simp only
  split at h
  case h_3=>exact h.elim
  case h_2 hx=>
   rw [hx]
   exact h
  rename_i x hx
  rw [hx]
  simp only
  have h':=sel_iff.1 h
  clear h
  rcases h' with ⟨rfl,h⟩ | ⟨rfl,h⟩ <;> rw [put_lit hx] at h <;> cases want <;> simp only [if_true,if_false,Bool.false_eq_true,Bool.true_eq_false] <;> first | exact h | (rw [Tr.run_bind] at h; exact h)
theorem flatMap_congr' {α β:Type} {f g:α→List β}:∀ {l:List α},(∀ x∈l,f x=g x)→l.flatMap f=l.flatMap g
 | [],_=>rfl
 | x::l,h=>by rw [List.flatMap_cons,List.flatMap_cons,h x (by simp),flatMap_congr' fun y hy=>h y (by simp [hy])]
section
variable {X:Cx} {ops:Array Oper} {base:Nat}
def TD (X:Cx) (ops:Array Oper) (base i:Nat) (o:Oper) (s:St):Tr Eff:=estep ops o (deffD X ops base i o) s
def ndops' (X:Cx) (ops:Array Oper) (base:Nat):List Nat→St→(St→Prop)→Prop
 | [],s,K=>K s
 | i::rest,s,K=>∃ o,ops[i]? = some o∧(TD X ops base i o s).run fun e=>ndops' X ops base rest (s.app e o.dst) K
theorem ndops_to {β:Type}:∀ {l:List Nat} {s:St} {K:St→Tr β} {R:β→Prop},(ndops X ops base l s K).run R→ndops' X ops base l s (fun s'=>(K s').run R)
 | [],_,_,_,h=>h
 | i::l,s,K,R,h=>by
   simp only [ndops] at h
   split at h
   ·rename_i o ho
    exact ⟨o,ho,Tr.run_mono _ (fun e he=>ndops_to he) (nstep_estep h)⟩
   ·exact h.elim
def Good (P:Program) (ops:Array Oper) (base i:Nat) (o:Oper) (s:St) (e:Eff):Prop:=
 ((still o.op||look o.op)=true→e.up=[])∧(mildN P ops i o=true→mildEff base i e=true)∧(∀ t,storeAt ops o=some t→∀ p∈e.up,p.1∈(s.ev (.tmp t)).names∧p.1<base∧p.1∈o.op.operands.toList.flatMap fun x=>(s.ev x).names)∧(e.up=[]∨apartOk P ops base s i o=true)∧(mildL P ops i o=true∨beside P ops i o=true→∀ p∈e.up,base≤p.1∧p.1<base+16 * ops.size)∧(beside P ops i o=true→besideA ops i=true→mildEff base i e=true)∧(∀ t,appAt ops o=some t→lone ops i=false→∀ p∈e.up,(p.1∈(s.ev (.tmp t)).names∧p.1<base)∨(base+16 * i≤p.1∧p.1<base+16 * i+16))
theorem rootOf_spec:∀ {f:Nat} {t u:Tmp},rootOf ops f t=some u→∀ (k:Nat) (x:Oper),ops[k]? = some x→x.dst≠some u
 | 0,_,_,h=>by simp [rootOf] at h
 | f+1,t,u,h=>by
   simp only [rootOf] at h
   split at h
   ·rename_i hn
    cases h
    intro k x hx hd
    have:=List.find?_eq_none.1 hn x (by rw [← Array.getElem?_toList] at hx; exact List.mem_of_getElem? hx)
    simp [hd] at this
   ·split at h
    ·exact rootOf_spec h
    ·exact rootOf_spec h
    ·exact rootOf_spec h
    ·exact rootOf_spec h
    ·cases h
theorem storeAt_spec {o:Oper} {t:Tmp} (h:storeAt ops o=some t):(∃ ty a v,o.op=.store ty a v)∧∀ (k:Nat) (x:Oper),ops[k]? = some x→x.dst≠some t:=by
 unfold storeAt at h
 split at h
 ·rename_i ty u v ho
  exact ⟨⟨ty,_,v,ho⟩,rootOf_spec h⟩
 ·cases h
theorem appAt_spec {o:Oper} {t:Tmp} (h:appAt ops o=some t):isCall o.op=false∧look o.op=false∧still o.op=false∧∀ (k:Nat) (x:Oper),ops[k]? = some x→x.dst≠some t:=by
 unfold appAt at h
 split at h
 ·rename_i ho
  split at h
  ·rw [ho]
   exact ⟨rfl,rfl,rfl,rootOf_spec h⟩
  ·cases h
 ·cases h
theorem growEff_get {i:Nat} {s:St} {o:Oper} {e:Eff} (h:growEff ops base i s o e=true):∀ t,appAt ops o=some t→lone ops i=false→∀ p∈e.up,(p.1∈(s.ev (.tmp t)).names∧p.1<base)∨(base+16 * i≤p.1∧p.1<base+16 * i+16):=by
 intro t ht hl p hp
 unfold growEff at h
 rw [ht] at h
 simp only [hl,Bool.false_or] at h
 have:=List.all_eq_true.1 h p hp
 rw [Bool.or_eq_true,Bool.and_eq_true,Bool.and_eq_true,decide_eq_true_eq,decide_eq_true_eq,decide_eq_true_eq] at this
 exact this.imp (fun h=>⟨List.contains_iff_mem.1 h.1,h.2⟩) id
theorem nstore_at {P:Program} {s:St} {t:TypeId} {a:NC} {x:NV} {c:List Bool} {n:Nat} {g:Reg} (h:nstore P s t a x=some (c,n,g)):n∈names a:=by
 unfold nstore at h
 split at h
 case isFalse=>cases h
 split at h
 case h_3=>cases h
 case h_1=>
  rename_i r o w i cc
  split at h
  case h_2=>cases h
  show n∈[r]
  rw [List.mem_singleton]
  repeat' (first | (cases h; done) | (cases h; rfl) | split at h)
 rename_i r i cc
 split at h
 case h_2=>cases h
 show n∈[r]
 rw [List.mem_singleton]
 repeat' (first | (cases h; done) | (cases h; rfl) | split at h)
theorem store_eff {t:TypeId} {a v:Operand} {nm:Nat} {s:St} {R:Eff→Prop} (hr:(deff X (.store t a v) nm s).run R):(deff X (.store t a v) nm s).run fun e=>(∀ p∈e.up,p.1∈(s.ev a).names)∧R e:=by
 have e:deff X (.store t a v) nm s=(light X.P X.glob s (.store t a v)).eff nm:=rfl
 rw [e] at hr ⊢
 simp only [light] at hr ⊢
 split at hr
 ·rename_i ti y z h1 h2 h3
  split at hr
  ·rename_i c n g hn
   obtain ⟨h4,h5⟩:=(chkT_run _ _ _).1 hr
   refine (chkT_run _ _ _).2 ⟨h4,fun p hp=>?_,h5⟩
   rw [List.mem_singleton] at hp
   rw [hp,nc_names h2]
   exact nstore_at hn
  ·exact hr
 ·exact hr
theorem still_eff {op:Op} {nm:Nat} {s:St} {R:Eff→Prop} (h0:(still op||look op)=true) (hr:(deff X op nm s).run R):(deff X op nm s).run fun e=>e.up=[]∧R e:=by
 have val:∀ {r:R1},(∀ c g v,r≠.new c g v)→(∀ c n g,r≠.upd c n g)→(r.eff nm).run R→(r.eff nm).run fun e=>e.up=[]∧R e:=by
  intro r h1 h2 h
  cases r with
  | no=>exact h
  | val c v=>obtain ⟨h3,h4⟩:=(chkT_run _ _ _).1 h; exact (chkT_run _ _ _).2 ⟨h3,rfl,h4⟩
  | new c g v=>exact (h1 _ _ _ rfl).elim
  | upd c n g=>exact (h2 _ _ _ rfl).elim
 have ofv:∀ x,(∀ c g v,ofV x≠.new c g v)∧(∀ c n g,ofV x≠.upd c n g):=by
  intro x
  cases x with
  | none=>exact ⟨fun _ _ _ h=>by simp [ofV] at h,fun _ _ _ h=>by simp [ofV] at h⟩
  | some x=>exact ⟨fun _ _ _ h=>by simp [ofV] at h,fun _ _ _ h=>by simp [ofV] at h⟩
 have hl:(∀ c g v,light X.P X.glob s op≠.new c g v)∧(∀ c n g,light X.P X.glob s op≠.upd c n g):=by
  rw [Bool.or_eq_true] at h0
  rcases h0 with h | h
  ·unfold still at h
   split at h <;> first
    | (cases h; done)
    | (simp only [light]; constructor <;> intro a b c <;> repeat' (first | (exact (ofv _).1 _ _ _) | (exact (ofv _).2 _ _ _) | (intro h'; cases h'; done) | split))
  ·unfold look at h
   split at h <;> first
    | (cases h; done)
    | (simp only [light]; constructor <;> intro a b c <;> repeat' (first | (exact (ofv _).1 _ _ _) | (exact (ofv _).2 _ _ _) | (intro h'; cases h'; done) | split))
 unfold deff at hr ⊢
 split at hr
 ·split at hr
  ·simp only [Tr.run] at hr ⊢
   rcases sel_iff.1 hr with ⟨h1,h2⟩ | ⟨h1,h2⟩
   ·exact sel_iff.2 (.inl ⟨h1,fun i hi=>⟨trivial,h2 i hi⟩⟩)
   ·exact sel_iff.2 (.inr ⟨h1,trivial,h2⟩)
  ·split at hr
   ·exact ⟨rfl,hr⟩
   ·exact val hl.1 hl.2 hr
 ·split at hr
  ·simp only [Tr.run] at hr ⊢
   rcases sel_iff.1 hr with ⟨h1,h2⟩ | ⟨h1,h2⟩
   ·exact sel_iff.2 (.inl ⟨h1,trivial,h2⟩)
   ·exact sel_iff.2 (.inr ⟨h1,trivial,h2⟩)
  ·exact hr
 ·rename_i c
  split at hr
  ·exfalso
   rw [Bool.or_eq_true] at h0
   rcases h0 with h | h
   ·unfold still at h
    split at h <;> first | (cases h; done) | (simp_all; done)
   ·unfold look at h
    split at h <;> first | (cases h; done) | (simp_all; done)
  ·exfalso
   rw [Bool.or_eq_true] at h0
   rcases h0 with h | h
   ·unfold still at h
    split at h <;> first | (cases h; done) | (simp_all; done)
   ·unfold look at h
    split at h <;> first | (cases h; done) | (simp_all; done)
  ·exfalso
   rw [Bool.or_eq_true] at h0
   rcases h0 with h | h
   ·unfold still at h
    split at h <;> first | (cases h; done) | (simp_all; done)
   ·unfold look at h
    split at h <;> first | (cases h; done) | (simp_all; done)
  ·exfalso
   rw [Bool.or_eq_true] at h0
   rcases h0 with h | h
   ·unfold still at h
    split at h <;> first | (cases h; done) | (simp_all; done)
   ·unfold look at h
    split at h <;> first | (cases h; done) | (simp_all; done)
  ·exfalso
   rw [Bool.or_eq_true] at h0
   rcases h0 with h | h
   ·unfold still at h
    split at h <;> first | (cases h; done) | (simp_all; done)
   ·unfold look at h
    split at h <;> first | (cases h; done) | (simp_all; done)
  ·exact val hl.1 hl.2 hr
 ·simp [still,look] at h0
 ·simp [still,look] at h0
 ·simp [still,look] at h0
 ·simp [still,look] at h0
 ·simp [still,look] at h0
 ·simp [still,look] at h0
 ·exact val hl.1 hl.2 hr
theorem lowT_run {β:Type} {s:St} {k:Tr β} {R:β→Prop}:∀ {l:List (Nat × Option Reg)},(lowT base s l k).run R→(∀ u∈l,u.1<base→s.rg[u.1]? = some u.2)∧k.run R
 | [],h=>⟨fun _ hu=>(by cases hu),h⟩
 | (n,g)::l,h=>by
   unfold lowT at h
   split at h
   ·rename_i hn
    split at h
    ·rename_i g' hg
     have he:g'=g:=h.1
     have hk:(lowT base s l k).run R:=h.2
     subst he
     obtain ⟨h1,h2⟩:=lowT_run hk
     refine ⟨fun u hu hb=>?_,h2⟩
     rcases List.mem_cons.1 hu with rfl | hu
     ·exact hg
     ·exact h1 u hu hb
    ·exact h.elim
   ·rename_i hn
    obtain ⟨h1,h2⟩:=lowT_run h
    refine ⟨fun u hu hb=>?_,h2⟩
    rcases List.mem_cons.1 hu with rfl | hu
    ·exact absurd hb (of_decide_eq_false hn)
    ·exact h1 u hu hb
theorem putAt_same {l:List (Option Reg)} {n:Nat} {g:Option Reg} (h:l[n]? = some g):putAt l n g=l:=by
 obtain ⟨hn,he⟩:=List.getElem?_eq_some_iff.1 h
 unfold putAt
 rw [if_pos hn]
 apply List.ext_getElem?
 intro q
 rw [List.getElem?_set]
 split
 ·rename_i e; subst e
  first | exact h.symm | (rw [if_pos hn]; exact h.symm)
 ·rfl
theorem putAt_far {l:List (Option Reg)} {n m:Nat} {g x:Option Reg} (h:l[m]? = some x) (hne:m≠n):(putAt l n g)[m]? = some x:=by
 obtain ⟨hm,-⟩:=List.getElem?_eq_some_iff.1 h
 unfold putAt
 split
 ·rw [List.getElem?_set_ne (fun e=>hne e.symm)]; exact h
 ·rw [List.append_assoc,List.getElem?_append_left hm]; exact h
theorem ups_low:∀ {l:List (Nat × Option Reg)} {s:St},(∀ u∈l,u.1<base→s.rg[u.1]? = some u.2)→s.ups (l.filter fun u=>decide (base≤u.1))=s.ups l
 | [],_,_=>rfl
 | (n,g)::l,s,h=>by
   by_cases hn:base≤n
   ·rw [List.filter_cons_of_pos (by simpa using hn)]
    show (s.setReg n g).ups _=(s.setReg n g).ups l
    refine ups_low fun u hu hb=>?_
    exact putAt_far (h u (List.mem_cons_of_mem _ hu) hb) (by omega)
   ·rw [List.filter_cons_of_neg (by simpa using hn)]
    have e:s.setReg n g=s:=by
     unfold St.setReg
     rw [putAt_same (h (n,g) (List.mem_cons_self ..) (by omega))]
    show s.ups _=(s.setReg n g).ups l
    rw [e]
    exact ups_low fun u hu hb=>h u (List.mem_cons_of_mem _ hu) hb
theorem lowT_in {β:Type} {s:St} {k:Tr β} {R:β→Prop}:∀ {l:List (Nat × Option Reg)},(∀ u∈l,u.1<base→s.rg[u.1]? = some u.2)→k.run R→(lowT base s l k).run R
 | [],_,hk=>hk
 | (n,g)::l,h,hk=>by
   unfold lowT
   by_cases hn:n<base
   ·rw [decide_eq_true hn,h (n,g) (List.mem_cons_self ..) hn]
    exact ⟨rfl,lowT_in (fun u hu=>h u (List.mem_cons_of_mem _ hu)) hk⟩
   ·rw [decide_eq_false hn]
    exact lowT_in (fun u hu=>h u (List.mem_cons_of_mem _ hu)) hk
theorem deffE_good {P:Program} {i:Nat} {o:Oper} {s:St} {e:Eff} {R:Eff→Prop} (h1:(still o.op||look o.op)=true→e.up=[]) (h2:mildN P ops i o=true→mildEff base i e=true)
  (h3:∀ t,storeAt ops o=some t→∀ p∈e.up,p.1∈(s.ev (.tmp t)).names∧p.1<base∧p.1∈o.op.operands.toList.flatMap fun x=>(s.ev x).names) (h4:apartOk P ops base s i o=true)
  (h5:mildL P ops i o=true→∀ p∈e.up,base≤p.1∧p.1<base+16 * ops.size) (h7:growEff ops base i s o e=true) (h:(deffE P ops base i o s e).run R):(deffE P ops base i o s e).run fun e=>Good P ops base i o s e∧R e:=by
 unfold deffE at h ⊢
 split at h
 ·rename_i hb
  split at h
  ·rename_i hl
   rw [Bool.and_eq_true] at hl
   obtain ⟨hl,hl2⟩:=hl
   obtain ⟨k1,k2⟩:=lowT_run h
   refine lowT_in k1 ⟨⟨fun hs=>?_,fun hm=>?_,fun t ht p hp=>h3 t ht p (List.mem_filter.1 hp).1,.inr h4,fun _ p hp=>?_,fun _ ha=>?_,fun t ht hl p hp=>growEff_get h7 t ht hl p (List.mem_filter.1 hp).1⟩,k2⟩
   ·show e.up.filter _=[]
    rw [h1 hs]
    rfl
   ·have:=h2 hm
    unfold mildEff at this ⊢
    rw [List.all_eq_true] at this ⊢
    exact fun p hp=>this p (List.mem_filter.1 hp).1
   ·obtain ⟨q1,q2⟩:=List.mem_filter.1 hp
    unfold upLt at hl
    exact ⟨of_decide_eq_true q2,of_decide_eq_true (List.all_eq_true.1 hl p q1)⟩
   ·rw [ha] at hl2
    simpa using hl2
  ·exact h.elim
 ·rename_i hb
  exact ⟨⟨h1,h2,h3,.inr h4,fun hm p hp=>hm.elim (fun hm=>h5 hm p hp) fun hm=>by (rw [hb] at hm; cases hm),fun hm=>by (rw [hb] at hm; cases hm),growEff_get h7⟩,h⟩
theorem deffD_good {i:Nat} {o:Oper} {s:St} {R:Eff→Prop} (hr:(deffD X ops base i o s).run R):(deffD X ops base i o s).run fun e=>Good X.P ops base i o s e∧R e:=by
 unfold deffD at hr ⊢
 split at hr
 ·rename_i hcond
  have hok:apartOk X.P ops base s i o=true:=by
   rw [Bool.and_eq_true,Bool.and_eq_true,Bool.and_eq_true] at hcond
   exact hcond.1.1.2
  rw [Tr.run_bind] at hr ⊢
  have key:(deff X o.op (base+16 * i) s).run fun e=>(((still o.op||look o.op)=true→e.up=[])∧(∀ t,storeAt ops o=some t→∀ p∈e.up,p.1∈(s.ev (.tmp t)).names∧p.1<base∧p.1∈o.op.operands.toList.flatMap fun x=>(s.ev x).names))∧(match (!mildN X.P ops i o||mildEff base i e)&&(!mildL X.P ops i o||upOk base ops.size e)&&growEff ops base i s o e with | true=>deffE X.P ops base i o s e | false=>Tr.fail).run R:=by
   by_cases hs:(still o.op||look o.op)=true
   ·refine Tr.run_mono _ (fun e he=>⟨⟨fun _=>he.1,fun t ht=>?_⟩,he.2⟩) (still_eff hs hr)
    obtain ⟨⟨ty,a,v,hop⟩,-⟩:=storeAt_spec ht
    rw [hop] at hs
    cases hs
   ·cases hst:storeAt ops o with
    | none=>exact Tr.run_mono _ (fun e he=>⟨⟨fun h=>(hs h).elim,fun t ht=>by cases ht⟩,he⟩) hr
    | some t=>
      obtain ⟨⟨ty,a,v,hop⟩,-⟩:=storeAt_spec hst
      have hlt:(∀ n∈(s.ev (.tmp t)).names,n<base)∧∀ n∈(s.ev a).names,n∈(s.ev (.tmp t)).names:=by
       unfold apartOk at hok
       have hn:near X.P ops o=true:=by unfold near; rw [hst]; rfl
       have hs' : still o.op=false:=by rw [hop]; rfl
       rw [hs',hn,hst,hop] at hok
       simp only [Bool.not_true,Bool.or_self,Bool.false_or,Bool.and_eq_true,List.all_eq_true,decide_eq_true_eq] at hok
       exact ⟨hok.1.1,fun n hn=>List.contains_iff_mem.1 (hok.1.2 n hn)⟩
      rw [hop] at hr ⊢
      refine Tr.run_mono _ (fun e he=>⟨⟨fun h=>absurd h Bool.false_ne_true,fun t' ht' p hp=>?_⟩,he.2⟩) (store_eff hr)
      cases ht'
      have hm:=hlt.2 _ (he.1 p hp)
      exact ⟨hm,hlt.1 _ hm,by simp [Op.operands,he.1 p hp]⟩
  refine Tr.run_mono _ (fun e he=>?_) key
  obtain ⟨⟨h1,h1'⟩,h2⟩:=he
  cases hm:((!mildN X.P ops i o||mildEff base i e)&&(!mildL X.P ops i o||upOk base ops.size e)&&growEff ops base i s o e) with
  | false=>rw [hm] at h2; exact h2
  | true=>
    rw [hm] at h2
    rw [Bool.and_eq_true,Bool.and_eq_true] at hm
    obtain ⟨hm,hgr⟩:=hm
    refine deffE_good h1 (fun h=>?_) h1' hok (fun h p hp=>?_) hgr h2
    ·have hm:=hm.1
     rw [h] at hm
     simpa using hm
    ·have hm:=hm.2
     rw [h] at hm
     have hm:upOk base ops.size e=true:=by simpa using hm
     unfold upOk at hm
     have:=List.all_eq_true.1 hm p hp
     simpa [Bool.and_eq_true] using this
 ·exact hr
theorem TD_good {i:Nat} {o:Oper} {s:St} {R:Eff→Prop} (hr:(TD X ops base i o s).run R):(TD X ops base i o s).run fun e=>Good X.P ops base i o s e∧R e:=by
 unfold TD estep at hr ⊢
 split at hr
 ·exact deffD_good hr
 ·split at hr
  ·split at hr
   ·split at hr
    ·rename_i h; rw [if_pos h]; exact deffD_good hr
    ·rename_i h
     rw [if_neg h]
     exact ⟨⟨fun _=>rfl,fun _=>rfl,fun _ _ _ hp=>absurd hp (by simp),.inl rfl,fun _ p hp=>absurd hp (by simp),fun _ _=>rfl,fun _ _ _ _ hp=>absurd hp (by simp)⟩,hr⟩
   ·exact ⟨⟨fun _=>rfl,fun _=>rfl,fun _ _ _ hp=>absurd hp (by simp),.inl rfl,fun _ p hp=>absurd hp (by simp),fun _ _=>rfl,fun _ _ _ _ hp=>absurd hp (by simp)⟩,hr⟩
   ·exact hr
  ·exact hr
theorem putAt_comm {l:List (Option Reg)} {n m:Nat} {x y:Option Reg} (hn:n<l.length) (hm:m<l.length) (hne:n≠m):putAt (putAt l n x) m y=putAt (putAt l m y) n x:=by
 simp only [putAt,hn,hm,if_true,List.length_set]
 exact List.set_comm _ _ hne
theorem putAt_len {l:List (Option Reg)} {n:Nat} {x:Option Reg} (hn:n<l.length):(putAt l n x).length=l.length:=by simp [putAt,hn]
theorem ups_put_comm {s:St} {u:List (Nat × Option Reg)} {n:Nat} {x:Option Reg} (hn:n<s.rg.length) (hu:∀ p∈u,p.1<s.rg.length∧p.1≠n):(s.setReg n x).ups u=(s.ups u).setReg n x:=by
 induction u generalizing s with
 | nil=>rfl
 | cons p u ih=>
   obtain ⟨m,y⟩:=p
   obtain ⟨h1,h2⟩:=hu (m,y) (by simp)
   simp only [St.ups]
   have e:(s.setReg n x).setReg m y=(s.setReg m y).setReg n x:=by
    show St.mk s.fr (putAt (putAt s.rg n x) m y)=St.mk s.fr (putAt (putAt s.rg m y) n x)
    rw [putAt_comm hn h1 (Ne.symm h2)]
   rw [e]
   refine ih (s:=s.setReg m y) ?_ fun p hp=>?_
   ·show n<(putAt s.rg m y).length
    rw [putAt_len h1]; exact hn
   ·show p.1<(putAt s.rg m y).length∧_
    rw [putAt_len h1]; exact hu p (by simp [hp])
theorem ups_comm {s:St} {u v:List (Nat × Option Reg)} (hu:∀ p∈u,p.1<s.rg.length) (hv:∀ p∈v,p.1<s.rg.length) (hd:∀ p∈u,∀ q∈v,q.1≠p.1):(s.ups u).ups v=(s.ups v).ups u:=by
 induction u generalizing s with
 | nil=>rfl
 | cons p u ih=>
   obtain ⟨n,x⟩:=p
   have hn:=hu (n,x) (by simp)
   simp only [St.ups]
   have hl:∀ m,m<s.rg.length→m<(s.setReg n x).rg.length:=fun m hm=>by
    show m<(putAt s.rg n x).length
    rw [putAt_len hn]; exact hm
   rw [ih (s:=s.setReg n x) (fun p hp=>hl _ (hu p (by simp [hp]))) (fun q hq=>hl _ (hv q hq)) (fun p hp=>hd p (by simp [hp])),
    ups_put_comm hn fun q hq=>⟨hv q hq,hd (n,x) (by simp) q hq⟩]
theorem ups_reg {s:St} {u:List (Nat × Option Reg)} {n:Nat} (hu:∀ p∈u,p.1<s.rg.length) (h:∀ p∈u,p.1≠n):(s.ups u).reg n=s.reg n:=by
 induction u generalizing s with
 | nil=>rfl
 | cons p u ih=>
   obtain ⟨m,x⟩:=p
   have hm:=hu (m,x) (by simp)
   have h1:=h (m,x) (by simp)
   simp only [St.ups]
   rw [ih (s:=s.setReg m x) (fun p hp=>by
    show p.1<(putAt s.rg m x).length
    rw [putAt_len hm]; exact hu p (by simp [hp])) (fun p hp=>h p (by simp [hp]))]
   unfold St.reg St.setReg
   simp only [putAt]
   rw [if_pos hm,List.getElem?_set_ne h1]
theorem ups_at {s:St} {u:List (Nat × Option Reg)} {n:Nat} (hu:∀ p∈u,p.1<s.rg.length) (h:∀ p∈u,p.1≠n):(s.ups u).rg[n]? = s.rg[n]?:=by
 induction u generalizing s with
 | nil=>rfl
 | cons p u ih=>
   obtain ⟨m,x⟩:=p
   have hm:=hu (m,x) (by simp)
   have h1:=h (m,x) (by simp)
   simp only [St.ups]
   rw [ih (s:=s.setReg m x) (fun p hp=>by
    show p.1<(putAt s.rg m x).length
    rw [putAt_len hm]; exact hu p (by simp [hp])) (fun p hp=>h p (by simp [hp]))]
   unfold St.setReg
   simp only [putAt]
   rw [if_pos hm,List.getElem?_set_ne h1]
theorem ev_app {s:St} {e:Eff} {dst:Option Tmp} {x:Operand} (h:∀ d,dst=some d→x≠.tmp d):(s.app e dst).ev x=s.ev x:=by
 unfold St.app
 cases x with
 | tmp t=>
   cases dst with
   | none=>simp only [St.ev,St.put,ups_fr]
   | some d=>
     have:d≠t:=fun hh=>h d rfl (by rw [hh])
     simp only [St.ev,St.put,ups_fr,List.getD_eq_getElem?_getD]
     rw [List.getElem?_set_ne this]
 | _=>cases dst <;> rfl
theorem mem_looksAt {o:Oper} {t:Tmp} (h:Operand.tmp t∈o.op.operands.toList):t∈o.looksAt ops:=
 List.mem_append_left _ (List.mem_filterMap.2 ⟨.tmp t,h,rfl⟩)
theorem guard_looksAt {o:Oper} {j:Nat} {want:Bool} {d:Tmp} (h:o.guard=some (j,want)) (hd:guardSlot ops j=some d):d∈o.looksAt ops:=by
 refine List.mem_append_right _ ?_
 rw [h]
 have hd' : (ops[j]?).bind (·.dst)=some d:=hd
 simp only [hd',Option.toList]
 simp
theorem app_reg (s:St) (e:Eff) (dst:Option Tmp) (n:Nat):(s.app e dst).reg n=(s.ups e.up).reg n:=by cases dst <;> rfl
theorem nsSeeds_same {s s' : St} {x:NS} (h:∀ n∈x.names,s.reg n=s'.reg n):x.seeds s=x.seeds s':=by
 cases x with
 | v x=>
   show x.ncs.flatMap (seeds s)=x.ncs.flatMap (seeds s')
   refine flatMap_congr' fun c hc=>seeds_same fun n hn=>h n ?_
   show n∈x.ncs.flatMap names
   rw [List.mem_flatMap]
   exact ⟨c,hc,hn⟩
 | _=>rfl
def Free (P:Program) (ops:Array Oper) (x y:Oper):Prop:=
 still x.op=true∨still y.op=true∨(mild P x.op=true∧mild P y.op=true)∨((storeAt ops x).isSome=true∧near P ops y=true)∨((storeAt ops y).isSome=true∧near P ops x=true)∨(callS P x.op=true∧look y.op=true)∨(look x.op=true∧callS P y.op=true)∨(callS P x.op=true∧isAl y.op=true)∨(isAl x.op=true∧callS P y.op=true)∨((appAt ops x).isSome=true∧look y.op=true)∨(look x.op=true∧(appAt ops y).isSome=true)
theorem Free.swap {P:Program} {x y:Oper} (h:Free P ops x y):Free P ops y x:=by
 rcases h with h | h | ⟨h,h'⟩ | h | h | ⟨h,h'⟩ | ⟨h,h'⟩ | ⟨h,h'⟩ | ⟨h,h'⟩ | ⟨h,h'⟩ | ⟨h,h'⟩
 ·exact .inr (.inl h)
 ·exact .inl h
 ·exact .inr (.inr (.inl ⟨h',h⟩))
 ·exact .inr (.inr (.inr (.inr (.inl h))))
 ·exact .inr (.inr (.inr (.inl h)))
 ·exact .inr (.inr (.inr (.inr (.inr (.inr (.inl ⟨h',h⟩))))))
 ·exact .inr (.inr (.inr (.inr (.inr (.inl ⟨h',h⟩)))))
 ·exact .inr (.inr (.inr (.inr (.inr (.inr (.inr (.inr (.inl ⟨h',h⟩))))))))
 ·exact .inr (.inr (.inr (.inr (.inr (.inr (.inr (.inl ⟨h',h⟩)))))))
 ·exact .inr (.inr (.inr (.inr (.inr (.inr (.inr (.inr (.inr (.inr ⟨h',h⟩)))))))))
 ·exact .inr (.inr (.inr (.inr (.inr (.inr (.inr (.inr (.inr (.inl ⟨h',h⟩)))))))))
theorem near_cases {P:Program} {o:Oper} (h:near P ops o=true):(∃ t,storeAt ops o=some t)∨(mild P o.op=true∧isCall o.op=false):=by
 unfold near at h
 rw [Bool.or_eq_true,Bool.and_eq_true] at h
 rcases h with h | h
 ·exact .inl (Option.isSome_iff_exists.1 h)
 ·exact .inr ⟨h.1,by simpa using h.2⟩
theorem apartOk_get {P:Program} {s:St} {i k:Nat} {o x:Oper} {t:Tmp} (h:apartOk P ops base s i o=true) (hn:near P ops o=true) (hs:still o.op=false) (hx:ops[k]? = some x) (ht:storeAt ops x=some t) (hki:k≠i)
  (h1:ahead ops ops.size k i=false) (h2:ahead ops ops.size i k=false):∀ n∈(s.ev (.tmp t)).names,n<base∧n ∉ o.op.operands.toList.flatMap fun x=>(s.ev x).names:=by
 unfold apartOk at h
 rw [hs,hn] at h
 simp only [Bool.not_true,Bool.or_self,Bool.false_or,Bool.and_eq_true] at h
 have h3:=List.all_eq_true.1 h.2 k (List.mem_range.2 (Array.getElem?_eq_some_iff.1 hx).1)
 have hki' : (k==i)=false:=by simpa using hki
 rw [hx] at h3
 simp only [ht,hki',h1,h2,Bool.or_self,Bool.false_or] at h3
 intro n hmem
 have h4:=List.all_eq_true.1 h3 n hmem
 simp only [Bool.and_eq_true,decide_eq_true_eq,Bool.not_eq_true'] at h4
 refine ⟨h4.1,fun hc=>?_⟩
 have h5:=List.contains_iff_mem.2 hc
 rw [h4.2] at h5
 cases h5
theorem growOk_get {i k:Nat} {x y:Oper} {t:Tmp} {s:St} (h:growOk ops s i y=true) (hl:look y.op=true) (hx:ops[k]? = some x) (ht:appAt ops x=some t) (hki:k≠i) (h1:ahead ops ops.size k i=false) (h2:ahead ops ops.size i k=false) :
  ∀ n∈(s.ev (.tmp t)).names,n ∉ y.op.operands.toList.flatMap fun x=>(s.ev x).names:=by
 unfold growOk at h
 rw [hl] at h
 simp only [Bool.not_true,Bool.false_or] at h
 have h3:=List.all_eq_true.1 h k (List.mem_range.2 (Array.getElem?_eq_some_iff.1 hx).1)
 have hki' : (k==i)=false:=by simpa using hki
 rw [hx] at h3
 simp only [ht,hki',h1,h2,Bool.or_self,Bool.false_or] at h3
 intro n hmem hc
 have h4:=List.all_eq_true.1 h3 n hmem
 rw [Bool.not_eq_true'] at h4
 have h5:=List.contains_iff_mem.2 hc
 rw [h4] at h5
 cases h5
theorem mildEff_range {i:Nat} {e:Eff} (h:mildEff base i e=true):∀ p∈e.up,base+16 * i≤p.1∧p.1<base+16 * i+16:=by
 intro p hp
 unfold mildEff at h
 have:=List.all_eq_true.1 h p hp
 simp only [Bool.and_eq_true,decide_eq_true_eq] at this
 exact this.1
theorem lone_not {i k:Nat} {x:Oper} (hx:ops[k]? = some x) (hs:still x.op=false) (hki:k≠i) (h1:ahead ops ops.size k i=false) (h2:ahead ops ops.size i k=false):lone ops i=false:=by
 cases h:lone ops i with
 | false=>rfl
 | true=>
   unfold lone at h
   have h3:=List.all_eq_true.1 h k (List.mem_range.2 (Array.getElem?_eq_some_iff.1 hx).1)
   have hki' : (k==i)=false:=by simpa using hki
   rw [hx] at h3
   simp only [hki',h1,h2,hs,Bool.or_self] at h3
   cases h3
theorem mildN_of {P:Program} {i k:Nat} {x o:Oper} (hx:ops[k]? = some x) (hs:still x.op=false) (hki:k≠i) (h1:ahead ops ops.size k i=false) (h2:ahead ops ops.size i k=false) (hm:mild P o.op=true):mildN P ops i o=true∨(look x.op=true∧mildL P ops i o=true∧deep P o.op=true):=by
 unfold mildN mildL
 rw [hm,lone_not hx hs hki h1 h2]
 cases hd:(deep P o.op&&loneL ops i) with
 | false=>exact .inl rfl
 | true=>
   rw [Bool.and_eq_true] at hd
   refine .inr ⟨?_,rfl,hd.1⟩
   have h3:=List.all_eq_true.1 hd.2 k (List.mem_range.2 (Array.getElem?_eq_some_iff.1 hx).1)
   have hki' : (k==i)=false:=by simpa using hki
   rw [hx] at h3
   simp only [hki',h1,h2,hs,Bool.or_self,Bool.false_or] at h3
   exact h3
theorem lookOk_get {P:Program} {i k:Nat} {x y:Oper} {s:St} (h:lookOk P ops base s i y=true) (hl:look y.op=true) (hx:ops[k]? = some x) (hd:deep P x.op=true∨callS P x.op=true) (hki:k≠i) (h1:ahead ops ops.size k i=false) (h2:ahead ops ops.size i k=false) :
  ∀ n∈y.op.operands.toList.flatMap (fun z=>(s.ev z).names),n<base:=by
 unfold lookOk at h
 rw [Bool.and_eq_true] at h
 replace h:=h.1
 unfold lookOk0 at h
 rw [hl] at h
 simp only [Bool.not_true,Bool.false_or,Bool.or_eq_true] at h
 rcases h with h | h
 ·have h3:=List.all_eq_true.1 h k (List.mem_range.2 (Array.getElem?_eq_some_iff.1 hx).1)
  have hki' : (k==i)=false:=by simpa using hki
  rw [hx] at h3
  rcases hd with hd | hd
  ·simp only [hki',h1,h2,hd,Bool.or_self,Bool.not_true,Bool.false_and] at h3
   cases h3
  ·simp only [hki',h1,h2,hd,Bool.or_self,Bool.not_true,Bool.and_false] at h3
   cases h3
 ·intro n hn
  exact of_decide_eq_true (List.all_eq_true.1 h n hn)
theorem call_not {P:Program} {y:Oper} (h:callS P y.op=true):isCall y.op=true∧mild P y.op=false∧still y.op=false∧look y.op=false∧storeAt ops y=none:=by
 unfold callS at h
 rw [Bool.and_eq_true] at h
 refine ⟨h.1,by simpa using h.2,?_⟩
 have hc:=h.1
 cases hop:y.op <;> first | (rw [hop] at hc; simp [isCall] at hc; done) | skip
 rename_i c
 obtain ⟨cal,a1,a2⟩:=c
 rw [hop] at hc
 cases cal with
 | builtin b=>simp [isCall] at hc
 | invoke r m=>simp [isCall] at hc
 | value f=>exact ⟨rfl,rfl,by unfold storeAt; rw [hop]⟩
theorem al_not {P:Program} {y:Oper} (h:isAl y.op=true):isCall y.op=false∧mild P y.op=true∧still y.op=false∧look y.op=false∧storeAt ops y=none∧y.op.operands.toList=[]:=by
 unfold isAl at h
 split at h
 ·rename_i t ht
  rw [ht]
  exact ⟨rfl,rfl,rfl,rfl,by unfold storeAt; rw [ht],rfl⟩
 ·cases h
theorem besideA_of {i k:Nat} {x:Oper} (hx:ops[k]? = some x) (ha:isAl x.op=true) (hki:k≠i) (h1:ahead ops ops.size k i=false) (h2:ahead ops ops.size i k=false):besideA ops i=true:=by
 unfold besideA
 rw [List.any_eq_true]
 refine ⟨k,List.mem_range.2 (Array.getElem?_eq_some_iff.1 hx).1,?_⟩
 have hki' : (k==i)=false:=by simpa using hki
 rw [hx,h1,h2,hki']
 simpa using ha
theorem look_mild {P:Program} {op:Op} (h:look op=true):mild P op=true:=by
 cases op <;> first | rfl | (simp [look] at h)
theorem free_call {P:Program} {x y:Oper} (h:Free P ops x y) (hy:callS P y.op=true):(still x.op||look x.op)=true∨isAl x.op=true:=by
 obtain ⟨h1,h2,h3,h4,h5⟩:=call_not (ops:=ops) hy
 rcases h with h | h | ⟨-,h⟩ | ⟨-,h⟩ | ⟨h,-⟩ | ⟨-,h⟩ | ⟨h,-⟩ | ⟨-,h⟩ | ⟨h,-⟩ | ⟨-,h⟩ | ⟨h,-⟩
 ·rw [h]; exact .inl rfl
 ·rw [h3] at h; cases h
 ·rw [h2] at h; cases h
 ·unfold near at h; rw [h5,h2] at h; simp at h
 ·rw [h5] at h; cases h
 ·rw [h4] at h; cases h
 ·rw [h,Bool.or_true]; exact .inl rfl
 ·rw [(al_not (P:=P) (ops:=ops) h).1] at h1; cases h1
 ·exact .inr h
 ·rw [h4] at h; cases h
 ·rw [h,Bool.or_true]; exact .inl rfl
theorem TD_same {i k:Nat} {x y:Oper} {s:St} {e:Eff} (hlen:base+16 * ops.size≤s.rg.length) (hx:ops[k]? = some x) (hy:ops[i]? = some y) (hki:k≠i) (hap:∀ d,x.dst=some d→d ∉ y.looksAt ops)
  (hfree:Free X.P ops x y) (hg:Good X.P ops base k x s e) (hah:ahead ops ops.size k i=false) (hai:ahead ops ops.size i k=false) :
  TD X ops base i y (s.app e x.dst)=TD X ops base i y s:=by
 have hk:k<ops.size:=(Array.getElem?_eq_some_iff.1 hx).1
 have hev:∀ z∈y.op.operands.toList,(s.app e x.dst).ev z=s.ev z:=fun z hz=>ev_app fun d hd hzd=>hap d hd (mem_looksAt (by rw [← hzd]; exact hz))
 have hevt:∀ (j:Nat) (o:Oper) (t:Tmp),ops[j]? = some o→storeAt ops o=some t→(s.app e x.dst).ev (.tmp t)=s.ev (.tmp t):=fun j o t _ ht=>ev_app fun d hd hzd=>by
  cases hzd
  exact (storeAt_spec ht).2 k x hx hd
 have hevA:∀ (o:Oper) (t:Tmp),appAt ops o=some t→(s.app e x.dst).ev (.tmp t)=s.ev (.tmp t):=fun o t ht=>ev_app fun d hd hzd=>by
  cases hzd
  exact (appAt_spec ht).2.2.2 k x hx hd
 have e3:(y.op.operands.toList.flatMap fun z=>((s.app e x.dst).ev z).names)=(y.op.operands.toList.flatMap fun z=>(s.ev z).names):=flatMap_congr' fun z hz=>by rw [hev z hz]
 have mx:still y.op=false→mild X.P x.op=true→mildN X.P ops k x=true∨(look y.op=true∧mildL X.P ops k x=true∧deep X.P x.op=true):=fun hs hm=>mildN_of hy hs (Ne.symm hki) hai hah hm
 have hD:deffD X ops base i y (s.app e x.dst)=deffD X ops base i y s:=by
  have e1:namesOk ops base (s.app e x.dst) i y=namesOk ops base s i y:=by
   unfold namesOk
   congr 1
  have freshN:namesOk ops base s i y=true→mildN X.P ops k x=true→∀ n∈y.op.operands.toList.flatMap (fun z=>(s.ev z).names),(s.app e x.dst).reg n=s.reg n:=by
   intro hc1 h1 n hn
   rw [app_reg]
   unfold namesOk at hc1
   rw [List.all_eq_true] at hc1
   have hn2:=hc1 n hn
   have hb:=mildEff_range (hg.2.1 h1)
   refine ups_reg (fun p hp=>?_) fun p hp hpn=>?_
   ·have:=hb p hp; omega
   ·obtain ⟨h3,h4⟩:=hb p hp
    rw [hpn] at h3 h4
    rw [Bool.or_eq_true,decide_eq_true_eq] at hn2
    rcases hn2 with h5 | h5
    ·omega
    ·have:(n - base) / 16=k:=by omega
     rw [this,hah] at h5
     cases h5
  have e2:namesOk ops base s i y=true→(!(mildN X.P ops i y&&isCall y.op)||(y.op.operands.toList.flatMap fun z=>((s.app e x.dst).ev z).seeds (s.app e x.dst)).isEmpty)=(!(mildN X.P ops i y&&isCall y.op)||(y.op.operands.toList.flatMap fun z=>(s.ev z).seeds s).isEmpty):=by
   intro hn
   cases hmc:(mildN X.P ops i y&&isCall y.op) with
   | false=>rfl
   | true=>
     rw [Bool.and_eq_true] at hmc
     have hst:storeAt ops y=none:=by
      unfold storeAt
      cases hop:y.op <;> first | rfl | (rw [hop] at hmc; simp [isCall] at hmc)
     have hnear:near X.P ops y=false:=by
      unfold near
      rw [hst,hmc.2]
      simp
     have hstill:still y.op=false:=by
      cases hop:y.op <;> first | rfl | (rw [hop] at hmc; simp [isCall] at hmc; done) | skip
      rename_i c
      obtain ⟨cal,a1,a2⟩:=c
      rw [hop] at hmc
      cases cal with
      | builtin b=>simp [isCall] at hmc
      | invoke r m=>simp [isCall] at hmc
      | value f=>rfl
     have hreg:∀ n∈y.op.operands.toList.flatMap (fun z=>(s.ev z).names),(s.app e x.dst).reg n=s.reg n:=by
      rcases hfree with h | h | ⟨h1,-⟩ | ⟨-,h⟩ | ⟨h,-⟩ | ⟨-,h5⟩ | ⟨h,-⟩ | ⟨-,h5⟩ | ⟨h,h5⟩ | ⟨-,h5⟩ | ⟨h,-⟩
      rotate_right 4
      ·rw [(al_not (P:=X.P) (ops:=ops) h5).1] at hmc; cases hmc.2
      ·exact freshN hn ((mx hstill (al_not (P:=X.P) (ops:=ops) h).2.1).elim id fun h6=>by rw [(call_not (ops:=ops) h5).2.2.2.1] at h6; cases h6.1)
      ·exfalso
       cases hop:y.op <;> rw [hop] at h5 hmc <;> first | (cases h5; done) | (simp [isCall] at hmc)
      ·intro n _
       rw [app_reg,hg.1 (by rw [h,Bool.or_true])]; rfl
      ·intro n _
       rw [app_reg,hg.1 (by rw [h]; rfl)]; rfl
      ·rw [hstill] at h; cases h
      ·rcases mx hstill h1 with h5 | ⟨h5,-⟩
       ·exact freshN hn h5
       ·exfalso
        cases hop:y.op <;> rw [hop] at h5 hmc <;> first | (cases h5; done) | (simp [isCall] at hmc)
      ·rw [hnear] at h; cases h
      ·rw [hst] at h; cases h
      ·exfalso
       cases hop:y.op <;> rw [hop] at h5 hmc <;> first | (cases h5; done) | (simp [isCall] at hmc)
      ·intro n _
       rw [app_reg,hg.1 (by rw [h,Bool.or_true])]; rfl
     have e5:(y.op.operands.toList.flatMap fun z=>((s.app e x.dst).ev z).seeds (s.app e x.dst))=(y.op.operands.toList.flatMap fun z=>(s.ev z).seeds s):=by
      refine flatMap_congr' fun z hz=>?_
      rw [hev z hz]
      refine nsSeeds_same fun n hn=>hreg n ?_
      rw [List.mem_flatMap]
      exact ⟨z,hz,hn⟩
     rw [e5]
  have e4:apartOk X.P ops base (s.app e x.dst) i y=apartOk X.P ops base s i y:=by
   unfold apartOk
   rw [e3]
   congr 1
   congr 1
   ·cases hsy:storeAt ops y with
    | none=>rfl
    | some t=>
      obtain ⟨⟨ty,a,v,hop⟩,-⟩:=storeAt_spec hsy
      simp only [hop]
      rw [hevt i y t hy hsy,hev a (by rw [hop]; simp [Op.operands])]
   ·refine List.all_congr rfl fun j=>?_
    cases hj:ops[j]? with
    | none=>rfl
    | some o=>
      cases ho:storeAt ops o with
      | none=>simp only [ho]
      | some t=>simp only [ho]; rw [hevt j o t hj ho]
  have lowS:callS X.P y.op=true→∀ n,n<base→(s.app e x.dst).reg n=s.reg n:=by
   intro hcs n hn
   rcases free_call hfree hcs with h | h
   ·rw [app_reg,hg.1 h]; rfl
   ·have hst:=(call_not (ops:=ops) hcs).2.2.1
    have hlk:=(call_not (ops:=ops) hcs).2.2.2.1
    have hm:=(mx hst (al_not (P:=X.P) (ops:=ops) h).2.1).elim id fun h6=>by rw [hlk] at h6; cases h6.1
    have hb:=mildEff_range (hg.2.1 hm)
    rw [app_reg]
    refine ups_reg (fun p hp=>?_) fun p hp=>?_
    ·have:=hb p hp; omega
    ·have:=hb p hp; omega
  have namS:namesOk ops base s i y=true→callS X.P y.op=true→∀ n∈y.op.operands.toList.flatMap (fun z=>(s.ev z).names),(s.app e x.dst).reg n=s.reg n:=by
   intro hn hcs n hnm
   rcases free_call hfree hcs with h | h
   ·rw [app_reg,hg.1 h]; rfl
   ·have hst:=(call_not (ops:=ops) hcs).2.2.1
    have hlk:=(call_not (ops:=ops) hcs).2.2.2.1
    exact freshN hn ((mx hst (al_not (P:=X.P) (ops:=ops) h).2.1).elim id fun h6=>by rw [hlk] at h6; cases h6.1) n hnm
  have e7:namesOk ops base s i y=true→lookOk X.P ops base (s.app e x.dst) i y=lookOk X.P ops base s i y:=by
   intro hn
   unfold lookOk lookOk0
   rw [e3]
   congr 1
   cases hcs:callS X.P y.op with
   | false=>rfl
   | true=>
     rw [belowOk_same hev (fun n hm=>namS hn hcs n (by rw [← e3]; exact hm)) (lowS hcs)]
  have e8:growOk ops (s.app e x.dst) i y=growOk ops s i y:=by
   unfold growOk
   rw [e3]
   congr 1
   refine List.all_congr rfl fun j=>?_
   cases hj:ops[j]? with
   | none=>rfl
   | some o=>
     cases ho:appAt ops o with
     | none=>simp only [ho]
     | some t=>simp only [ho]; rw [hevA o t ho]
  have e6:(namesOk ops base (s.app e x.dst) i y&&(!(mildN X.P ops i y&&isCall y.op)||(y.op.operands.toList.flatMap fun z=>((s.app e x.dst).ev z).seeds (s.app e x.dst)).isEmpty)&&apartOk X.P ops base (s.app e x.dst) i y&&lookOk X.P ops base (s.app e x.dst) i y&&growOk ops (s.app e x.dst) i y)=(namesOk ops base s i y&&(!(mildN X.P ops i y&&isCall y.op)||(y.op.operands.toList.flatMap fun z=>(s.ev z).seeds s).isEmpty)&&apartOk X.P ops base s i y&&lookOk X.P ops base s i y&&growOk ops s i y):=by
   rw [e1,e4,e8]
   cases hn:namesOk ops base s i y with
   | false=>rfl
   | true=>rw [e2 hn,e7 hn]
  unfold deffD
  rw [e6]
  split
  ·rename_i hc
   rw [Bool.and_eq_true,Bool.and_eq_true,Bool.and_eq_true,Bool.and_eq_true] at hc
   obtain ⟨⟨⟨⟨hc1,hc2⟩,hc3⟩,hc4⟩,hc5⟩:=hc
   have fresh:=freshN hc1
   have stored:∀ t,storeAt ops x=some t→near X.P ops y=true→still y.op=false→∀ n∈y.op.operands.toList.flatMap (fun z=>(s.ev z).names),(s.app e x.dst).reg n=s.reg n:=by
    intro t ht hn hs n hmem
    rw [app_reg]
    have hd:=apartOk_get hc3 hn hs hx ht hki hah hai
    refine ups_reg (fun p hp=>?_) fun p hp hpn=>?_
    ·have:=(hg.2.2.1 t ht p hp).2.1; omega
    ·have h1:=(hg.2.2.1 t ht p hp).1
     rw [hpn] at h1
     exact (hd n h1).2 hmem
   have fin:(∀ n∈y.op.operands.toList.flatMap (fun z=>(s.ev z).names),(s.app e x.dst).reg n=s.reg n)→near X.P ops y=true→deff X y.op (base+16 * i) (s.app e x.dst)=deff X y.op (base+16 * i) s:=by
    intro hr hn
    rcases near_cases hn with ⟨t,ht⟩ | ⟨h1,h2⟩
    ·obtain ⟨⟨ty,a,v,hop⟩,-⟩:=storeAt_spec ht
     rw [hop] at hev hr e3 ⊢
     exact deff_store_same hev fun n hn=>hr n (by rw [← e3]; exact hn)
    ·exact deff_same hev (.inr (.inr ⟨h1,fun h=>absurd (h2.symm.trans h) Bool.false_ne_true,fun n hn=>hr n (by rw [← e3]; exact hn)⟩))
   have hdeff:deff X y.op (base+16 * i) (s.app e x.dst)=deff X y.op (base+16 * i) s:=by
    by_cases hs:still y.op=true
    ·exact deff_same hev (.inl hs)
    have hs' : still y.op=false:=by simpa using hs
    by_cases hsx:(still x.op||look x.op)=true
    ·refine deff_same hev (.inr (.inl fun n=>?_))
     rw [app_reg,hg.1 hsx]; rfl
    have hsx2:still x.op=false∧look x.op=false:=by simpa using hsx
    have hsx' : still x.op=false:=hsx2.1
    have fresh2:mild X.P x.op=true→∀ n∈y.op.operands.toList.flatMap (fun z=>(s.ev z).names),(s.app e x.dst).reg n=s.reg n:=by
     intro hm
     rcases mx hs' hm with h5 | ⟨h5,h6,h7⟩
     ·exact fresh h5
     ·intro n hn
      have hb:=lookOk_get hc4 h5 hx (.inl h7) hki hah hai n hn
      have hu:=hg.2.2.2.2.1 (.inl h6)
      rw [app_reg]
      refine ups_reg (fun p hp=>?_) fun p hp=>?_
      ·have:=hu p hp
       omega
      ·have:=hu p hp
       omega
    rcases hfree with h | h | ⟨h1,h2⟩ | ⟨h1,h2⟩ | ⟨h1,h2⟩ | ⟨h1,h2⟩ | ⟨h1,h2⟩ | ⟨h1,h2⟩ | ⟨h1,h2⟩ | ⟨h1,h2⟩ | ⟨h1,h2⟩
    rotate_right 2
    ·obtain ⟨t,ht⟩:=Option.isSome_iff_exists.1 h1
     refine deff_same hev (.inr (.inr ⟨look_mild h2,fun hcall=>?_,fun n hn=>?_⟩))
     ·exfalso
      cases hop:y.op <;> rw [hop] at h2 hcall <;> first | (cases h2; done) | (simp [isCall] at hcall)
     ·have hu:=hg.2.2.2.2.2.2 t ht (lone_not hy hs' (Ne.symm hki) hai hah)
      have hnn:n∈y.op.operands.toList.flatMap fun z=>(s.ev z).names:=by rw [← e3]; exact hn
      rw [app_reg]
      refine ups_reg (fun p hp=>?_) fun p hp hpn=>?_
      ·rcases hu p hp with h3 | h3 <;> omega
      ·rcases hu p hp with ⟨h3,-⟩ | h3
       ·exact growOk_get hc5 h2 hx ht hki hah hai p.1 h3 (hpn ▸ hnn)
       ·have hcn:=hc1
        unfold namesOk at hcn
        rw [List.all_eq_true] at hcn
        have hn2:=hcn n hnn
        rw [Bool.or_eq_true,decide_eq_true_eq] at hn2
        rcases hn2 with h5 | h5
        ·omega
        ·have:(n - base) / 16=k:=by omega
         rw [this,hah] at h5
         cases h5
    ·rw [hsx2.2] at h1; cases h1
    rotate_right 2
    ·obtain ⟨a1,a2,-,-,-,a6⟩:=al_not (P:=X.P) (ops:=ops) h2
     refine deff_same hev (.inr (.inr ⟨a2,fun hc=>absurd (a1.symm.trans hc) Bool.false_ne_true,fun n hn=>?_⟩))
     rw [a6] at hn
     cases hn
    ·have hb:belowOk X.P base s y.op=true:=by
      have h6:=hc4
      unfold lookOk at h6
      rw [Bool.and_eq_true,h2,besideA_of hx h1 hki hah hai] at h6
      simpa using h6.2
     have hb' : belowOk X.P base (s.app e x.dst) y.op=true:=by
      rw [belowOk_same hev (fun n hm=>namS hc1 h2 n (by rw [← e3]; exact hm)) (lowS h2)]
      exact hb
     exact deff_callA (call_not (ops:=ops) h2).1 hev (fun n hm=>namS hc1 h2 n (by rw [← e3]; exact hm)) (lowS h2) hb'
    ·rw [hsx'] at h; cases h
    ·exact (hs h).elim
    ·refine deff_same hev (.inr (.inr ⟨h2,fun hcall=>?_,fun n hn=>fresh2 h1 n (by rw [← e3]; exact hn)⟩))
     have hc3:=(e2 hc1).trans hc2
     rcases mildN_of hx hsx' hki hah hai h2 with h5 | ⟨h5,-⟩
     ·rw [h5,hcall] at hc3
      simpa using hc3
     ·rw [hsx2.2] at h5
      cases h5
    ·obtain ⟨t,ht⟩:=Option.isSome_iff_exists.1 h1
     exact fin (stored t ht h2 hs') h2
    ·have hny:near X.P ops y=true:=by unfold near; rw [h1]; rfl
     rcases near_cases h2 with ⟨t,ht⟩ | ⟨hm,-⟩
     ·exact fin (stored t ht hny hs') hny
     ·exact fin (fresh2 hm) hny
    ·refine deff_same hev (.inr (.inr ⟨look_mild h2,fun hcall=>?_,fun n hn=>?_⟩))
     ·exfalso
      cases hop:y.op <;> rw [hop] at h2 hcall <;> first | (cases h2; done) | (simp [isCall] at hcall)
     ·have hb:=lookOk_get hc4 h2 hx (.inr h1) hki hah hai n (by rw [← e3]; exact hn)
      have hu:=hg.2.2.2.2.1 (.inr (by unfold beside; rw [h1,lone_not hy hs' (Ne.symm hki) hai hah]; rfl))
      rw [app_reg]
      refine ups_reg (fun p hp=>?_) fun p hp=>?_
      ·have:=hu p hp
       omega
      ·have:=hu p hp
       omega
    ·rw [hsx2.2] at h1; cases h1
   have hE:∀ f,deffE X.P ops base i y (s.app e x.dst) f=deffE X.P ops base i y s f:=fun f=>by
    unfold deffE
    split
    ·rename_i hb
     unfold beside at hb
     rw [Bool.and_eq_true] at hb
     have hrg:∀ n,n<base→(s.app e x.dst).rg[n]? = s.rg[n]?:=fun n hn=>by
      rw [St.app,put_rg]
      rcases free_call hfree hb.1 with h | h
      ·rw [hg.1 h]; rfl
      ·have hst:=(call_not (ops:=ops) hb.1).2.2.1
       have hlk:=(call_not (ops:=ops) hb.1).2.2.2.1
       have hm:=(mx hst (al_not (P:=X.P) (ops:=ops) h).2.1).elim id fun h6=>by rw [hlk] at h6; cases h6.1
       have hr:=mildEff_range (hg.2.1 hm)
       exact ups_at (fun p hp=>by have:=hr p hp; omega) fun p hp=>by have:=hr p hp; omega
     have hlow:∀ (l:List (Nat × Option Reg)) (k:Tr Eff),lowT base (s.app e x.dst) l k=lowT base s l k:=by
      intro l k
      induction l with
      | nil=>rfl
      | cons p l ih=>
        obtain ⟨n,g⟩:=p
        unfold lowT
        rw [ih]
        split
        ·rename_i hn
         rw [hrg n (of_decide_eq_true hn)]
        ·rfl
     rw [hlow]
    ·rfl
   have hGr:∀ f,growEff ops base i (s.app e x.dst) y f=growEff ops base i s y f:=fun f=>by
    unfold growEff
    cases ha:appAt ops y with
    | none=>rfl
    | some t=>simp only; rw [hevA y t ha]
   rw [hdeff]
   congr 1
   funext f
   rw [hE f,hGr f]
  ·rfl
 unfold TD estep
 rw [hD]
 split
 ·rfl
 ·rename_i j want hgd
  split
  ·rename_i d hd
   have hdl:=guard_looksAt hgd hd
   have:(s.app e x.dst).fr[d]? = s.fr[d]?:=by
    unfold St.app
    cases hx:x.dst with
    | none=>simp only [St.put,ups_fr]
    | some d'=>
      have:d'≠d:=fun hh=>hap d' hx (hh ▸ hdl)
      simp only [St.put,ups_fr]
      rw [List.getElem?_set_ne this]
   rw [this]
  ·rfl
theorem free2_spec {P:Program} {x y:Oper} (h:free2 P ops x y=true):Free P ops x y∧Oper.apart ops x y=true:=by
 unfold free2 at h
 simp only [Bool.and_eq_true,Bool.or_eq_true] at h
 refine ⟨?_,h.2⟩
 rcases h.1 with (((((((((h | h) | h) | h) | h) | h) | h) | h) | h) | h) | h
 ·exact .inl h
 ·exact .inr (.inl h)
 ·exact .inr (.inr (.inl h))
 ·exact .inr (.inr (.inr (.inl h)))
 ·exact .inr (.inr (.inr (.inr (.inl h))))
 ·exact .inr (.inr (.inr (.inr (.inr (.inl h)))))
 ·exact .inr (.inr (.inr (.inr (.inr (.inr (.inl h))))))
 ·exact .inr (.inr (.inr (.inr (.inr (.inr (.inr (.inl h)))))))
 ·exact .inr (.inr (.inr (.inr (.inr (.inr (.inr (.inr (.inl h))))))))
 ·exact .inr (.inr (.inr (.inr (.inr (.inr (.inr (.inr (.inr (.inl h)))))))))
 ·exact .inr (.inr (.inr (.inr (.inr (.inr (.inr (.inr (.inr (.inr h)))))))))
theorem app_comm {i k:Nat} {x y:Oper} {s:St} {e f:Eff} (hlen:base+16 * ops.size≤s.rg.length) (hx:ops[k]? = some x) (hy:ops[i]? = some y) (hne:k≠i) (hd:∀ d,x.dst=some d→y.dst≠some d)
  (hah:ahead ops ops.size k i=false) (hai:ahead ops ops.size i k=false) (hfree:Free X.P ops x y) (hg:Good X.P ops base k x s e) (hg' : Good X.P ops base i y s f) :
  (s.app e x.dst).app f y.dst=(s.app f y.dst).app e x.dst:=by
 have hk:k<ops.size:=(Array.getElem?_eq_some_iff.1 hx).1
 have hi:i<ops.size:=(Array.getElem?_eq_some_iff.1 hy).1
 have e1:∀ (t:St) (u:List (Nat × Option Reg)) (d:Option Tmp) (v:NS),(t.put d v).ups u=(t.ups u).put d v:=by
  intro t u d v
  induction u generalizing t with
  | nil=>rfl
  | cons p u ih=>
    obtain ⟨n,g⟩:=p
    simp only [St.ups]
    have:(t.put d v).setReg n g=(t.setReg n g).put d v:=by cases d <;> rfl
    rw [this,ih]
 have e2:∀ (t:St) (v u:NS),(t.put x.dst v).put y.dst u=(t.put y.dst u).put x.dst v:=by
  intro t v u
  cases hx:x.dst with
  | none=>rfl
  | some d=>
    cases hy:y.dst with
    | none=>rfl
    | some d'=>
      have:d≠d':=fun hh=>hd d hx (by rw [hy,hh])
      simp only [St.put]
      rw [List.set_comm _ _ this]
 have b1:(still y.op||look y.op)=false→mild X.P x.op=true→∀ p∈e.up,base+16 * k≤p.1∧p.1<base+16 * k+16:=fun hs h=>by
  rw [Bool.or_eq_false_iff] at hs
  rcases mildN_of hy hs.1 (Ne.symm hne) hai hah h with h5 | ⟨h5,-⟩
  ·exact mildEff_range (hg.2.1 h5)
  ·rw [hs.2] at h5; cases h5
 have b2:(still x.op||look x.op)=false→mild X.P y.op=true→∀ p∈f.up,base+16 * i≤p.1∧p.1<base+16 * i+16:=fun hs h=>by
  rw [Bool.or_eq_false_iff] at hs
  rcases mildN_of hx hs.1 hne hah hai h with h5 | ⟨h5,-⟩
  ·exact mildEff_range (hg'.2.1 h5)
  ·rw [hs.2] at h5; cases h5
 have two:∀ t t',storeAt ops x=some t→storeAt ops y=some t'→∀ p∈e.up,∀ q∈f.up,q.1≠p.1:=by
  intro t t' ht ht' p hp q hq hpq
  rcases hg'.2.2.2.1 with h0 | hok
  ·rw [h0] at hq; cases hq
  ·obtain ⟨⟨ty,a,v,hop⟩,-⟩:=storeAt_spec ht'
   have hn:near X.P ops y=true:=by unfold near; rw [ht']; rfl
   have hs:still y.op=false:=by rw [hop]; rfl
   refine (apartOk_get hok hn hs hx ht hne hah hai p.1 (hg.2.2.1 t ht p hp).1).2 ?_
   rw [← hpq]
   exact (hg'.2.2.1 t' ht' q hq).2.2
 have hu:(s.ups e.up).ups f.up=(s.ups f.up).ups e.up:=by
  by_cases hsx:(still x.op||look x.op)=true
  ·rw [hg.1 hsx]; rfl
  by_cases hsy:(still y.op||look y.op)=true
  ·rw [hg'.1 hsy]; rfl
  have b1:=b1 (by simpa using hsy)
  have b2:=b2 (by simpa using hsx)
  have c1:callS X.P x.op=true→isAl y.op=true→∀ p∈e.up,base+16 * k≤p.1∧p.1<base+16 * k+16:=fun h h'=>by
   have hsy' : still y.op=false:=(al_not (P:=X.P) (ops:=ops) h').2.2.1
   exact mildEff_range (hg.2.2.2.2.2.1 (by unfold beside; rw [h,lone_not hy hsy' (Ne.symm hne) hai hah]; rfl) (besideA_of hy h' (Ne.symm hne) hai hah))
  have c2:callS X.P y.op=true→isAl x.op=true→∀ p∈f.up,base+16 * i≤p.1∧p.1<base+16 * i+16:=fun h h'=>by
   have hsx' : still x.op=false:=(al_not (P:=X.P) (ops:=ops) h').2.2.1
   exact mildEff_range (hg'.2.2.2.2.2.1 (by unfold beside; rw [h,lone_not hx hsx' hne hah hai]; rfl) (besideA_of hx h' hne hah hai))
  rcases hfree with h | h | ⟨h1,h2⟩ | ⟨h1,h2⟩ | ⟨h1,h2⟩ | ⟨h1,h2⟩ | ⟨h1,h2⟩ | ⟨h1,h2⟩ | ⟨h1,h2⟩ | ⟨h1,h2⟩ | ⟨h1,h2⟩
  rotate_right 2
  ·exact absurd (by rw [h2,Bool.or_true]) hsy
  ·exact absurd (by rw [h1,Bool.or_true]) hsx
  rotate_right 2
  ·refine ups_comm (fun p hp=>?_) (fun p hp=>?_) fun p hp q hq=>?_
   ·have:=c1 h1 h2 p hp; omega
   ·have:=b2 (al_not (P:=X.P) (ops:=ops) h2).2.1 p hp; omega
   ·have h3:=c1 h1 h2 p hp; have h4:=b2 (al_not (P:=X.P) (ops:=ops) h2).2.1 q hq; omega
  ·refine ups_comm (fun p hp=>?_) (fun p hp=>?_) fun p hp q hq=>?_
   ·have:=b1 (al_not (P:=X.P) (ops:=ops) h1).2.1 p hp; omega
   ·have:=c2 h2 h1 p hp; omega
   ·have h3:=b1 (al_not (P:=X.P) (ops:=ops) h1).2.1 p hp; have h4:=c2 h2 h1 q hq; omega
  rotate_right 2
  ·exact absurd (by rw [h2,Bool.or_true]) hsy
  ·exact absurd (by rw [h1,Bool.or_true]) hsx
  ·rw [hg.1 (by rw [h]; rfl)]; rfl
  ·rw [hg'.1 (by rw [h]; rfl)]; rfl
  ·refine ups_comm (fun p hp=>?_) (fun p hp=>?_) fun p hp q hq=>?_
   ·have:=b1 h1 p hp; omega
   ·have:=b2 h2 p hp; omega
   ·have h3:=b1 h1 p hp; have h4:=b2 h2 q hq; omega
  ·obtain ⟨t,ht⟩:=Option.isSome_iff_exists.1 h1
   rcases near_cases h2 with ⟨t',ht'⟩ | ⟨hm,-⟩
   ·refine ups_comm (fun p hp=>?_) (fun p hp=>?_) (two t t' ht ht')
    ·have:=(hg.2.2.1 t ht p hp).2; omega
    ·have:=(hg'.2.2.1 t' ht' p hp).2; omega
   ·refine ups_comm (fun p hp=>?_) (fun p hp=>?_) fun p hp q hq=>?_
    ·have:=(hg.2.2.1 t ht p hp).2; omega
    ·have:=b2 hm p hp; omega
    ·have h3:=(hg.2.2.1 t ht p hp).2; have h4:=b2 hm q hq; omega
  ·obtain ⟨t',ht'⟩:=Option.isSome_iff_exists.1 h1
   rcases near_cases h2 with ⟨t,ht⟩ | ⟨hm,-⟩
   ·refine ups_comm (fun p hp=>?_) (fun p hp=>?_) (two t t' ht ht')
    ·have:=(hg.2.2.1 t ht p hp).2; omega
    ·have:=(hg'.2.2.1 t' ht' p hp).2; omega
   ·refine ups_comm (fun p hp=>?_) (fun p hp=>?_) fun p hp q hq=>?_
    ·have:=b1 hm p hp; omega
    ·have:=(hg'.2.2.1 t' ht' p hp).2; omega
    ·have h3:=(hg'.2.2.1 t' ht' q hq).2; have h4:=b1 hm p hp; omega
 simp only [St.app]
 rw [e1,e1,hu,e2]
theorem app_len (s:St) (e:Eff) (d:Option Tmp):s.rg.length≤(s.app e d).rg.length:=by
 rw [St.app,put_rg]; exact ups_le _ _
theorem ndops'_swap {k i:Nat} {l:List Nat} {s:St} {K:St→Prop} (hlen:base+16 * ops.size≤s.rg.length) (hki:k<i) (hah:ahead ops ops.size k i=false) (hai:ahead ops ops.size i k=false)
  (hfree:∀ x y,ops[k]? = some x→ops[i]? = some y→free2 X.P ops x y=true) (h:ndops' X ops base (k::i::l) s K):ndops' X ops base (i::k::l) s K:=by
 obtain ⟨x,hx,h⟩:=h
 cases hy:ops[i]? with
 | none=>
   refine (Tr.run_false _ (Tr.run_mono _ (fun e he=>?_) h)).elim
   obtain ⟨y,hy',-⟩:=he
   rw [hy] at hy'; cases hy'
 | some y=>
   obtain ⟨hf,hap⟩:=free2_spec (hfree x y hx hy)
   obtain ⟨a1,a2,a3⟩:=Oper.apart_spec hap
   have h1:(TD X ops base k x s).run fun e=>(TD X ops base i y s).run fun f=>Good X.P ops base k x s e∧ndops' X ops base l ((s.app e x.dst).app f y.dst) K:=by
    refine Tr.run_mono _ (fun e he=>?_) (TD_good h)
    obtain ⟨hge,y',hy',h2⟩:=he
    rw [hy] at hy'; cases hy'
    rw [TD_same hlen hx hy (Nat.ne_of_lt hki) a1 hf hge hah hai] at h2
    exact Tr.run_mono _ (fun f hf=>⟨hge,hf⟩) h2
   refine ⟨y,hy,Tr.run_mono _ (fun f hf'=>?_) (TD_good (Tr.run_swap _ _ h1))⟩
   obtain ⟨hgf,h4⟩:=hf'
   refine ⟨x,hx,?_⟩
   rw [TD_same hlen hy hx (Nat.ne_of_gt hki) a3 hf.swap hgf hai hah]
   refine Tr.run_mono _ (fun e he=>?_) h4
   rw [← app_comm hlen hx hy (Nat.ne_of_lt hki) a2 hah hai hf he.1 hgf]
   exact he.2
theorem ndops'_first {i:Nat} {l2:List Nat}:∀ {l1:List Nat} {s:St} {K:St→Prop},base+16 * ops.size≤s.rg.length→(∀ k∈l1,k<i∧ahead ops ops.size k i=false∧ahead ops ops.size i k=false∧∀ x y,ops[k]? = some x→ops[i]? = some y→free2 X.P ops x y=true)→
  ndops' X ops base (l1++i::l2) s K→ndops' X ops base (i::(l1++l2)) s K
 | [],_,_,_,_,h=>h
 | k::l1,s,K,hlen,hk,h=>by
   obtain ⟨h1,h2,h3,h4⟩:=hk k (by simp)
   refine ndops'_swap hlen h1 h2 h3 h4 ?_
   obtain ⟨x,hx,h⟩:=h
   exact ⟨x,hx,Tr.run_mono _ (fun e he=>ndops'_first (Nat.le_trans hlen (app_len _ _ _)) (fun k hk'=>hk k (by simp [hk'])) he) h⟩
end
structure InvD (gl:List Nat) (ops:Array Oper) (base:Nat) (todo:Nat→Prop) (N:Nat) (Γ:Env) (s:St) (a:Act) (w:World):Prop where
 wr:WRel Γ s.rg w
 fr:FrRel Γ s.fr a.tmps
 gl:GlobOk gl Γ
 nw:∀ n,base+16 * ops.size≤n→Γ.μ n=none
 fresh:∀ i,todo i→∀ n,base+16 * i≤n→n<base+16 * i+16→Γ.μ n=none
 df:Df N Γ a.defers
 len:base+16 * ops.size≤s.rg.length
section
variable {X:Cx} {ops:Array Oper} {base N:Nat}
theorem deffE_run {P:Program} {i:Nat} {o:Oper} {s:St} {x:Eff} {R:Eff→Prop} (h:(deffE P ops base i o s x).run R):∃ y,R y∧y.v=x.v∧s.ups y.up=s.ups x.up:=by
 unfold deffE at h
 split at h
 ·split at h
  ·obtain ⟨h1,h2⟩:=lowT_run h
   exact ⟨_,h2,rfl,ups_low h1⟩
  ·exact h.elim
 ·exact ⟨x,h,rfl,rfl⟩
theorem deffD_sound (hcon:∀ f T,X.con f=some T→Known X.P X.glob f T) {i:Nat} {o:Oper} {s:St} {Γ:Env} {w:World} {a:Act} {R:Eff→Prop}
  (hw:WRel Γ s.rg w) (hG:GlobOk X.glob Γ) (hfr:FrRel Γ s.fr a.tmps) (hnm:∀ k,base+16 * i≤k→k<base+16 * i+16→Γ.μ k=none) (h:(deffD X ops base i o s).run R) {K:Act→World→Prop} {Q:Exit→Act→World→Prop}
  (hK:∀ x u w',R x→EffOk Γ s w (base+16 * i) x u w'→K (a.put o.dst u) w'):o.wp X.P a w K Q:=by
 unfold deffD at h
 split at h
 ·rw [Tr.run_bind] at h
  refine deff_sound hcon hw hG hfr hnm h fun x u w' hR hE=>?_
  split at hR
  ·obtain ⟨y,h1,h2,h3⟩:=deffE_run hR
   refine hK y u w' h1 ?_
   unfold EffOk EffQ at hE ⊢
   rw [h2,h3]
   exact hE
  ·exact hR.elim
 ·exact h.elim
theorem InvD.app {gl:List Nat} {N:Nat} {todo:Nat→Prop} {Γ:Env} {s:St} {a:Act} {w w' : World} {x:Eff} {u:Value} {dst:Option Tmp} {i:Nat} (h:InvD gl ops base todo N Γ s a w) (hi:i<ops.size) (hE:EffOk Γ s w (base+16 * i) x u w') :
  ∃ Γ',Ext Γ w Γ'∧Wd w w'∧InvD gl ops base (fun j=>todo j∧j≠i) N Γ' (s.app x dst) (a.put dst u) w':=by
 obtain ⟨Γ',h1,h2,h3,h4,h5⟩:=hE
 refine ⟨Γ',h1,h4,by rw [St.app,put_rg]; exact h3,?_,h.gl.mono h1.le,fun n hn=>h5 n (h.nw n hn) (by omega),fun j hj n hn hn'=>h5 n (h.fresh j hj.1 n hn hn') (by have:=hj.2; omega),by rw [put_defers]; exact h.df.mono h1.le,Nat.le_trans h.len (app_len _ _ _)⟩
 refine FrRel.put ?_ dst h2
 rw [ups_fr]; exact h.fr.mono h1.le
theorem InvD.put {gl:List Nat} {N:Nat} {todo todo' : Nat→Prop} {Γ:Env} {s:St} {a:Act} {w:World} {x:NS} {u:Value} {dst:Option Tmp} (h:InvD gl ops base todo N Γ s a w) (r:SRel Γ x u) (ht:∀ j,todo' j→todo j):InvD gl ops base todo' N Γ (s.put dst x) (a.put dst u) w:=
 ⟨by rw [put_rg]; exact h.wr,h.fr.put dst r,h.gl,h.nw,fun j hj=>h.fresh j (ht j hj),by rw [put_defers]; exact h.df,by rw [put_rg]; exact h.len⟩
theorem TD_sound (hcon:∀ f T,X.con f=some T→Known X.P X.glob f T) {i:Nat} {o:Oper} {s:St} {Γ:Env} {w:World} {a:Act} {todo:Nat→Prop} {R:St→Prop} {K' : Act→World→Prop} {Q:Exit→Act→World→Prop} (ho:ops[i]? = some o) (ht:todo i)
  (hI:InvD X.glob ops base todo N Γ s a w) (h:(TD X ops base i o s).run fun e=>R (s.app e o.dst))
  (hK:∀ s' a' w' Γ',R s'→Ext Γ w Γ'→Wd w w'→InvD X.glob ops base (fun j=>todo j∧j≠i) N Γ' s' a' w'→K' a' w') :
  wpOp X.P ops Q i K' a w:=by
 have hi:i<ops.size:=(Array.getElem?_eq_some_iff.1 ho).1
 have run:((deffD X ops base i o s).run fun e=>R (s.app e o.dst))→o.wp X.P a w K' Q:=by
  intro h2
  refine deffD_sound hcon hI.wr hI.gl hI.fr (hI.fresh i ht) h2 fun x u w' hR hE=>?_
  obtain ⟨Γ',h3,h4,h5⟩:=hI.app hi hE
  exact hK _ _ _ Γ' hR h3 h4 h5
 unfold wpOp
 rw [ho]
 simp only
 unfold TD estep at h
 split at h
 ·rename_i hg
  have:Region.wanted o (yielded ops a.tmps)=true:=by simp [Region.wanted,hg]
  rw [if_pos this]
  exact .inl (run h)
 ·rename_i j want hg
  split at h
  case h_2=>exact h.elim
  rename_i d hd
  split at h
  case h_3=>exact h.elim
  case h_2 hx=>
   have hy:yielded ops a.tmps j=Option.none:=by
    obtain ⟨v,h1,h2⟩:=R2.get hI.fr hx
    obtain ⟨vs,rfl,h2⟩:=h2
    cases h2
    have h3:a.tmps[d]? = some (.tuple #[]):=by simpa using h1
    have h4:(ops[j]?).bind (·.dst)=some d:=hd
    unfold yielded
    rw [h4,Option.bind_some,h3]
   have hwant:Region.wanted o (yielded ops a.tmps)=false:=by simp [Region.wanted,hg,hy]
   rw [hwant,if_neg (by decide)]
   exact hK _ _ _ Γ h (Ext.refl Γ w) (Wd.refl w) (hI.put ⟨[],rfl,.nil⟩ fun _ hj=>hj.1)
  rename_i x hx
  have hy:yielded ops a.tmps j=some x:=by
   obtain ⟨v,h1,h2⟩:=R2.get hI.fr hx
   obtain ⟨h2,-⟩:=h2
   have h2' : v=.bool x:=h2
   subst h2'
   have h3:a.tmps[d]? = some (.bool x):=by simpa using h1
   have h4:(ops[j]?).bind (·.dst)=some d:=hd
   unfold yielded
   rw [h4,Option.bind_some,h3]
  have hwant:Region.wanted o (yielded ops a.tmps)=(x==want):=by simp [Region.wanted,hg,hy]
  rw [hwant]
  split at h
  ·rename_i e
   rw [if_pos (by simp [e])]
   exact .inl (run h)
  ·rename_i e
   rw [if_neg (by simp [e])]
   exact hK _ _ _ Γ h (Ext.refl Γ w) (Wd.refl w) (hI.put ⟨[],rfl,.nil⟩ fun j hj=>hj.1)
theorem ahead_lt (hd:∀ (i:Nat) (o:Oper),ops[i]? = some o→∀ m∈depsOf o,m<i):∀ (fuel:Nat) {k i:Nat},ahead ops fuel k i=true→k<i
 | 0,_,_,h=>by simp [ahead] at h
 | fuel+1,k,i,h=>by
   simp only [ahead] at h
   split at h
   ·rename_i o ho
    rw [List.any_eq_true] at h
    obtain ⟨m,hm,h⟩:=h
    have h1:=hd i o ho m hm
    rw [Bool.or_eq_true,beq_iff_eq] at h
    rcases h with rfl | h
    ·exact h1
    ·exact Nat.lt_trans (ahead_lt hd fuel h) h1
   ·cases h
theorem ahead_listed {L:Nat→Prop} (hdown:∀ (i:Nat) (o:Oper),L i→ops[i]? = some o→∀ m∈depsOf o,L m):∀ (fuel:Nat) {k i:Nat},(∀ o,ops[i]? = some o→∀ m∈depsOf o,L m)→ahead ops fuel k i=true→L k
 | 0,_,_,_,h=>by simp [ahead] at h
 | fuel+1,k,i,hi,h=>by
   simp only [ahead] at h
   split at h
   ·rename_i o ho
    rw [List.any_eq_true] at h
    obtain ⟨m,hm,h⟩:=h
    have h1:=hi o ho m hm
    rw [Bool.or_eq_true,beq_iff_eq] at h
    rcases h with rfl | h
    ·exact h1
    ·exact ahead_listed hdown fuel (fun o' ho'=>hdown m o' h1 ho') h
   ·cases h
theorem mem_depsOf {o:Oper} {m:Nat}:m∈depsOf o↔∃ e∈o.after,Region.binds .any e=true∧e.on=m:=by
 unfold depsOf
 simp only [List.mem_map,List.mem_filter,Array.mem_toList_iff,and_assoc]
def todoOf (ops:Array Oper) (listed:Array Bool):List Nat:=(List.range ops.size).filter fun i=>!listed.getD i true
theorem mem_todoOf {listed:Array Bool} {i:Nat}:i∈todoOf ops listed↔i<ops.size∧listed.getD i true=false:=by
 unfold todoOf
 rw [List.mem_filter,List.mem_range,Bool.not_eq_eq_eq_not,Bool.not_true]
theorem filter_first {p q:Nat→Bool} {i:Nat}:∀ {l:List Nat},l.Pairwise (·<·)→i∈l→p i=true→(∀ j,q j=(p j&&decide (j≠i)))→∃ l1 l2,l.filter p=l1++i::l2∧l.filter q=l1++l2∧∀ k∈l1,k<i∧p k=true
 | [],_,hi,_,_=>by cases hi
 | x::l,hl,hi,hp,hq=>by
   rw [List.pairwise_cons] at hl
   by_cases hx:x=i
   ·subst hx
    refine ⟨[],l.filter p,by simp [hp],?_,by simp⟩
    have:(x::l).filter q=l.filter q:=by simp [hq]
    rw [this,List.nil_append]
    refine List.filter_congr fun j hj=>?_
    have:j≠x:=by have:=hl.1 j hj; omega
    simp [hq,this]
   ·have hi' : i∈l:=by simpa [Ne.symm hx] using hi
    obtain ⟨l1,l2,h1,h2,h3⟩:=filter_first hl.2 hi' hp hq
    by_cases hpx:p x=true
    ·refine ⟨x::l1,l2,by simp [hpx,h1],by simp [hq,hpx,hx,h2],fun k hk=>?_⟩
     rcases List.mem_cons.1 hk with rfl | hk
     ·exact ⟨hl.1 i hi',hpx⟩
     ·exact h3 k hk
    ·exact ⟨l1,l2,by simp [hpx,h1],by simp [hq,hpx,h2],h3⟩
theorem drawOk_spec {P:Program} (h:drawOk P ops=true):(∀ (i:Nat) (o:Oper),ops[i]? = some o→∀ m∈depsOf o,m<i)∧
  ∀ k i,k<i→i<ops.size→ahead ops ops.size k i=false→∀ x y,ops[k]? = some x→ops[i]? = some y→free2 P ops x y=true:=by
 unfold drawOk at h
 rw [List.all_eq_true] at h
 refine ⟨fun i o ho m hm=>?_,fun k i hki hi ha x y hx hy=>?_⟩
 ·have:=h i (List.mem_range.2 (Array.getElem?_eq_some_iff.1 ho).1)
  rw [ho] at this
  simp only [Bool.and_eq_true,List.all_eq_true,decide_eq_true_eq] at this
  exact this.1 m hm
 ·have:=h i (List.mem_range.2 hi)
  rw [hy] at this
  simp only [Bool.and_eq_true,List.all_eq_true,decide_eq_true_eq] at this
  have:=this.2 k (List.mem_range.2 hki)
  rw [ha,hx] at this
  simpa using this
theorem wpAny_of (hcon:∀ f T,X.con f=some T→Known X.P X.glob f T) (hok:drawOk X.P ops=true) {Q:Exit→Act→World→Prop} :
  ∀ (fuel:Nat) {listed:Array Bool} {s:St} {Γ:Env} {a:Act} {w:World} {K:St→Prop},listed.size=ops.size→(∀ (i:Nat) (o:Oper),listed.getD i false=true→ops[i]? = some o→∀ m∈depsOf o,listed.getD m false=true)→
   (todoOf ops listed).length≤fuel→InvD X.glob ops base (fun i=>i∈todoOf ops listed) N Γ s a w→ndops' X ops base (todoOf ops listed) s K→
   (∀ s' a' w' Γ',K s'→Ext Γ w Γ'→Wd w w'→InvD X.glob ops base (fun _=>False) N Γ' s' a' w'→Q .normal a' w')→
   wpAny X.P .any ops Q fuel listed a w:=by
 obtain ⟨hdep,hfree⟩:=drawOk_spec hok
 intro fuel
 induction fuel with
 | zero=>
   intro listed s Γ a w K hsz hdown hlen hI h hK
   have h0:todoOf ops listed=[]:=List.length_eq_zero_iff.1 (by omega)
   rw [h0] at h hI
   refine ⟨?_,hK s a w Γ h (Ext.refl Γ w) (Wd.refl w) ⟨hI.wr,hI.fr,hI.gl,hI.nw,fun _ h=>h.elim,hI.df,hI.len⟩⟩
   refine List.eq_nil_iff_forall_not_mem.2 fun i hi=>?_
   obtain ⟨h1,o,ho,-⟩:=mem_ready.1 hi
   have:i∈todoOf ops listed:=mem_todoOf.2 ⟨(Array.getElem?_eq_some_iff.1 ho).1,h1⟩
   rw [h0] at this
   cases this
 | succ fuel ih=>
   intro listed s Γ a w K hsz hdown hlen hI h hK
   refine ⟨fun hr=>?_,fun i hi=>?_⟩
   ·-- nothing is ready: nothing is to come
    have h0:todoOf ops listed=[]:=by
     refine List.eq_nil_iff_forall_not_mem.2 fun i=>?_
     induction i using Nat.strongRecOn with
     | _ i ihi=>
       intro hi
       obtain ⟨h1,h2⟩:=mem_todoOf.1 hi
       have:i∈Region.ready .any ops listed:=by
        refine mem_ready.2 ⟨h2,ops[i],Array.getElem?_eq_getElem h1,fun e he hb=>?_⟩
        have hlt:=hdep i _ (Array.getElem?_eq_getElem h1) e.on (mem_depsOf.2 ⟨e,he,hb,rfl⟩)
        have hnot:=ihi e.on hlt
        rw [mem_todoOf] at hnot
        have hlt2:e.on<listed.size:=by omega
        have hno:¬ listed.getD e.on true=false:=fun h=>hnot ⟨by omega,h⟩
        simp only [Array.getD_eq_getD_getElem?,Array.getElem?_eq_getElem hlt2,Option.getD_some] at hno ⊢
        simpa using hno
       rw [hr] at this
       cases this
    rw [h0] at h hI
    exact hK s a w Γ h (Ext.refl Γ w) (Wd.refl w) ⟨hI.wr,hI.fr,hI.gl,hI.nw,fun _ h=>h.elim,hI.df,hI.len⟩
   ·obtain ⟨hun,o,ho,hall⟩:=mem_ready.1 hi
    have his:i<ops.size:=(Array.getElem?_eq_some_iff.1 ho).1
    have hil:i<listed.size:=by omega
    have hid:∀ m∈depsOf o,listed.getD m false=true:=fun m hm=>by
     obtain ⟨e,he,hb,rfl⟩:=mem_depsOf.1 hm
     exact hall e he hb
    obtain ⟨l1,l2,e1,e2,e3⟩:=filter_first (p:=fun j=>!listed.getD j true) (q:=fun j=>!(listed.setIfInBounds i true).getD j true) (i:=i) (l:=List.range ops.size) List.pairwise_lt_range (List.mem_range.2 his) (by rw [hun]; rfl) (fun j=>by
     by_cases hj:j=i
     ·subst hj; simp [hil]
     ·rw [getD_set_ne true (Ne.symm hj)]; simp [hj])
    have e2' : todoOf ops (listed.setIfInBounds i true)=l1++l2:=e2
    have e1' : todoOf ops listed=l1++i::l2:=e1
    rw [e1'] at h
    have h1:=ndops'_first hI.len (fun k hk=>?_) h
    ·obtain ⟨o',ho',h2⟩:=h1
     rw [ho] at ho'; cases ho'
     refine TD_sound hcon (todo:=fun j=>j∈todoOf ops listed) (R:=fun s'=>ndops' X ops base (l1++l2) s' K) ho (by rw [e1']; simp) hI h2 fun s' a' w' Γ' k1 k2 k3 k4=>?_
     refine ih (listed:=listed.setIfInBounds i true) (s:=s') (Γ:=Γ') (K:=K) (by simpa using hsz) ?_ ?_ ?_ ?_ fun s2 a2 w2 Γ2 j1 j2 j3 j4=>hK s2 a2 w2 Γ2 j1 (k2.trans k3 j2) (k3.trans j3) j4
     ·intro j oj hj hoj m hm
      by_cases hji:j=i
      ·subst hji
       rw [ho] at hoj; cases hoj
       exact getD_set_true (hid m hm)
      ·rw [getD_set_ne false (Ne.symm hji)] at hj
       exact getD_set_true (hdown j oj hj hoj m hm)
     ·rw [e2']
      rw [e1'] at hlen
      simp only [List.length_append,List.length_cons] at hlen ⊢
      omega
     ·refine ⟨k4.wr,k4.fr,k4.gl,k4.nw,fun j hj=>k4.fresh j ?_,k4.df,k4.len⟩
      rw [mem_todoOf] at hj ⊢
      by_cases hji:j=i
      ·subst hji
       exfalso
       have:=hj.2
       simp [hil] at this
      ·rw [getD_set_ne true (Ne.symm hji)] at hj
       exact ⟨hj,hji⟩
     ·rw [e2']; exact k1
    ·obtain ⟨h2,h3⟩:=e3 k hk
     have hka:ahead ops ops.size k i=false:=by
      cases hh:ahead ops ops.size k i with
      | false=>rfl
      | true=>
        exfalso
        have:=ahead_listed (L:=fun m=>listed.getD m false=true) (fun i o h1 h2=>hdown i o h1 h2) ops.size (fun o' ho'=>by rw [ho] at ho'; cases ho'; exact hid) hh
        have hks:k<listed.size:=by omega
        simp only [Array.getD_eq_getD_getElem?,Array.getElem?_eq_getElem hks,Option.getD_some] at this h3
        rw [this] at h3
        cases h3
     refine ⟨h2,hka,?_,hfree k i h2 his hka⟩
     cases hh:ahead ops ops.size i k with
     | false=>rfl
     | true=>have:=ahead_lt hdep ops.size hh; omega
theorem draw_any {β:Type} (hcon:∀ f T,X.con f=some T→Known X.P X.glob f T) {Q:Exit→Act→World→Prop} {s:St} {Γ:Env} {w:World} {a:Act} {K:St→Tr β} {R:β→Prop} (hI:Inv X.glob N Γ s a w)
  (hok:drawOk X.P ops=true) (h:(ndops X ops s.rg.length (List.range ops.size) {s with rg:=s.rg++List.replicate (16 * ops.size) none} K).run R)
  (hK:∀ s' a' w' Γ',(K s').run R→Ext Γ w Γ'→Wd w w'→Inv X.glob N Γ' s' a' w'→Q .normal a' w'):wpAny X.P .any ops Q ops.size (Array.replicate ops.size false) a {w with drawn:=w.drawn+1}:=by
 have h0:todoOf ops (Array.replicate ops.size false)=List.range ops.size:=by
  unfold todoOf
  refine List.filter_eq_self.2 fun i hi=>?_
  rw [List.mem_range] at hi
  simp [hi]
 have hlive:∀ n,live (s.rg++List.replicate (16 * ops.size) none) n→live s.rg n:=by
  rintro n ⟨g,hg⟩
  rw [List.getElem?_append] at hg
  split at hg
  ·exact ⟨g,hg⟩
  ·rw [List.getElem?_replicate] at hg
   split at hg
   ·cases hg
   ·cases hg
 have hw' : WRel Γ (s.rg++List.replicate (16 * ops.size) none) {w with drawn:=w.drawn+1}:=by
  refine ⟨fun n g hg=>?_,fun n m B B' hne ln lm=>hI.wr.inj n m B B' hne (hlive n ln) (hlive m lm),hI.wr.kp,fun n B ln=>hI.wr.apart n B (hlive n ln),hI.wr.ro⟩
  obtain ⟨g',hg'⟩:=hlive n ⟨g,hg⟩
  have:g'=g:=by
   have hn:n<s.rg.length:=(List.getElem?_eq_some_iff.1 hg').1
   rw [List.getElem?_append_left hn,hg'] at hg
   cases hg; rfl
  subst this
  obtain ⟨B,hB,hr⟩:=hI.wr.live n g' hg'
  exact ⟨B,hB,hr.heap fun _=>rfl⟩
 refine wpAny_of (base:=s.rg.length) (N:=N) hcon hok ops.size (Γ:=Γ) (s:={s with rg:=s.rg++List.replicate (16 * ops.size) none}) (K:=fun s'=>(K s').run R) (by simp) (fun i o hi=>?_) (by rw [h0]; simp) ?_ (by rw [h0]; exact ndops_to h) fun s' a' w' Γ' h1 h2 h3 h4=>?_
 ·exfalso
  simp only [Array.getD_eq_getD_getElem?,Array.getElem?_replicate] at hi
  split at hi <;> simp at hi
 ·exact ⟨hw',hI.fr,hI.gl,fun n hn=>hI.nw n (by omega),fun i _ n hn _=>hI.nw n (by omega),hI.df,by simp⟩
 ·have hwd:Wd w {w with drawn:=w.drawn+1}:=⟨rfl,rfl,rfl,Nat.le_refl _⟩
  refine hK s' a' w' Γ' h1 ⟨h2.le,h2.ro,h2.nw⟩ (hwd.trans h3) ⟨h4.wr,h4.fr,h4.gl,fun n hn=>h4.nw n (Nat.le_trans h4.len hn),h4.df⟩
theorem draw_sound {β:Type} (hcon:∀ f T,X.con f=some T→Known X.P X.glob f T) (hm:X.P.follows .mixedOrders=true) {id:Nat} {Q:Exit→Act→World→Prop} {s:St} {Γ:Env} {w:World} {a:Act} {K:St→Tr β} {R:β→Prop} (hI:Inv X.glob N Γ s a w)
  (hok:drawOk X.P ops=true) (h:(ndops X ops s.rg.length (List.range ops.size) {s with rg:=s.rg++List.replicate (16 * ops.size) none} K).run R)
  (hK:∀ s' a' w' Γ',(K s').run R→Ext Γ w Γ'→Wd w w'→Inv X.glob N Γ' s' a' w'→Q .normal a' w'):(Code.region id ops true).wp X.P Q a w:=
 wp_region_any hm (draw_any hcon hI hok h hK)
end
def Env.strip (l:List Nat) (Γ:Env):Env:={μ:=Γ.μ,kp:=fun b=>if b∈l then none else Γ.kp b,ro:=fun b=>if b∈l then false else Γ.ro b,er:=Γ.er}
def _root_.Go.Obj.isCM:Obj→Bool
 | .cells _ _ _=>true
 | .map _ _=>true
 | _=>false
def NoCells (Γ:Env) (l:List Nat):Prop:=∀ b∈l,∃ o,Γ.kp b=some o∧o.isCM=false
section
variable {Γ:Env} {l:List Nat}
theorem strip_kp_of {b:Nat} (h:b ∉ l):(Γ.strip l).kp b=Γ.kp b:=if_neg h
theorem strip_ro_of {b:Nat} (h:b ∉ l):(Γ.strip l).ro b=Γ.ro b:=if_neg h
theorem NoCells.not_mem (h:NoCells Γ l) {b:Nat} {c:Array Value} {e:TypeId} {fz:Nat × Nat} (hb:Γ.kp b=some (.cells c e fz)):b ∉ l:=fun hm=>by
 obtain ⟨o,h1,h2⟩:=h b hm
 rw [hb] at h1
 cases h1
 cases h2
theorem NoCells.not_mem' (h:NoCells Γ l) {b:Nat} (hb:Γ.kp b=none):b ∉ l:=fun hm=>by
 obtain ⟨o,h1,-⟩:=h b hm
 rw [hb] at h1
 cases h1
theorem RoRow.strip (hn:NoCells Γ l) {b o:Nat} {vs:List Value} (r:RoRow Γ b o vs):RoRow (Γ.strip l) b o vs:=by
 obtain ⟨h1,c,e,fz,h2,h3⟩:=r
 have hb:=hn.not_mem h2
 exact ⟨(strip_ro_of hb).trans h1,c,e,fz,(strip_kp_of hb).trans h2,h3⟩
theorem FR.strip (hn:NoCells Γ l) {x:NC} {v:Value} (r:FR Γ x v):FR (Γ.strip l) x v:=by
 refine ⟨?_,r.2⟩
 replace r:=r.1
 cases x with
 | l k xs=>
   obtain ⟨a,cap,h1,h2,h3⟩:=r
   exact ⟨a,cap,h1,h2,h3.imp id fun ⟨blk,off,h4,h5⟩=>⟨blk,off,h4,h5.strip hn⟩⟩
 | lr ks xs=>
   obtain ⟨a,cap,h1,h2,h0,h3⟩:=r
   exact ⟨a,cap,h1,h2,h0,h3.imp id fun ⟨blk,off,h4,h5⟩=>⟨blk,off,h4,h5.strip hn⟩⟩
 | _=>exact r
theorem RowV.strip (hn:NoCells Γ l) {sch:List Part} {row:List FC} {v:Value} (r:RowV Γ sch row v):RowV (Γ.strip l) sch row v:=by
 obtain ⟨vs,h1,h2,h3⟩:=r
 exact ⟨vs,h1,h2.imp fun _ _ r=>r.strip hn,h3⟩
theorem CRel.strip (hn:NoCells Γ l) {x:NC} {v:Value} (r:CRel Γ x v):CRel (Γ.strip l) x v:=by
 cases x with
 | l k xs=>
   obtain ⟨a,cap,h1,h2,h3⟩:=r
   exact ⟨a,cap,h1,h2,h3.imp id fun ⟨blk,off,h4,h5⟩=>⟨blk,off,h4,h5.strip hn⟩⟩
 | lr ks xs=>
   obtain ⟨a,cap,h1,h2,h0,h3⟩:=r
   exact ⟨a,cap,h1,h2,h0,h3.imp id fun ⟨blk,off,h4,h5⟩=>⟨blk,off,h4,h5.strip hn⟩⟩
 | pl k xs i=>obtain ⟨blk,off,h1,h2⟩:=r; exact ⟨blk,off,h1,h2.strip hn⟩
 | pr ks xs i c=>obtain ⟨blk,off,h1,h2⟩:=r; exact ⟨blk,off,h1,h2.strip hn⟩
 | lt sch xs=>
   obtain ⟨a,cap,h1,h2,h0,hk,h3⟩:=r
   exact ⟨a,cap,h1,h2,h0,hk,h3.imp id fun ⟨b,o,vs,h4,h5,h6⟩=>⟨b,o,vs,h4,h5.strip hn,h6.imp fun _ _ r=>r.strip hn⟩⟩
 | pt sch xs i c=>
   obtain ⟨b,o,vs,h1,h0,hk,h2,h3⟩:=r
   exact ⟨b,o,vs,h1,h0,hk,h2.strip hn,h3.imp fun _ _ r=>r.strip hn⟩
 | _=>exact r
theorem CR.strip (hn:NoCells Γ l) {x:NC} {v:Value} (r:CR Γ x v):CR (Γ.strip l) x v:=⟨CRel.strip hn r.1,r.2⟩
theorem VRel.strip (hn:NoCells Γ l) {x:NV} {v:Value} (r:VRel Γ x v):VRel (Γ.strip l) x v:=by
 cases x with
 | c x=>exact CR.strip hn r
 | ag xs=>obtain ⟨vs,h1,h2⟩:=r; exact ⟨vs,h1,h2.imp fun _ _ r=>CR.strip hn r⟩
 | sg l=>obtain ⟨vs,h1,h2,h3⟩:=r; exact ⟨vs,h1,h2.imp fun _ _ r=>CR.strip hn r,h3⟩
theorem SRel.strip (hn:NoCells Γ l) {x:NS} {v:Value} (r:SRel Γ x v):SRel (Γ.strip l) x v:=by
 cases x with
 | v x=>exact VRel.strip hn r
 | tu xs=>obtain ⟨vs,h1,h2⟩:=r; exact ⟨vs,h1,h2.imp fun _ _ r=>VRel.strip hn r⟩
 | dead=>trivial
theorem FrRel.strip (hn:NoCells Γ l) {fr:List NS} {t:Array Value} (r:FrRel Γ fr t):FrRel (Γ.strip l) fr t:=R2.imp r fun _ _ r=>SRel.strip hn r
theorem BodyRel.strip (hn:NoCells Γ l) {st:Nat} {b:Body} {vs:List Value} (r:BodyRel Γ st b vs):BodyRel (Γ.strip l) st b vs:=by
 cases b with
 | cells xs=>obtain ⟨l1,l2,h1,h2⟩:=r; exact ⟨l1,l2,h1,h2.imp fun _ _ r=>CR.strip hn r⟩
 | sg s=>obtain ⟨l1,l2,h1,h2,h3⟩:=r; exact ⟨l1,l2,h1,h2.imp fun _ _ r=>CR.strip hn r,h3⟩
 | ints k xs=>exact r
 | recs ks xs=>exact r
 | mp ks sch xs=>exact r
 | tab sch xs=>obtain ⟨hs,h0,l1,l2,h1,h2,h3⟩:=r; exact ⟨hs,h0,l1,l2,h1,h2.imp fun _ _ r=>FR.strip hn r,h3⟩
theorem WRel.strip {rg:List (Option Reg)} {w w' : World} (hn:NoCells Γ l) (h:WRel Γ rg w) (hh:∀ b,b ∉ l→w'.heap[b]? = w.heap[b]?):WRel (Γ.strip l) rg w':=by
 refine ⟨fun n g hg=>?_,h.inj,fun b o hb=>?_,fun n B hl hB=>?_,fun b hb=>?_⟩
 ·obtain ⟨B,hB,hr⟩:=h.live n g hg
  refine ⟨B,hB,?_⟩
  rcases hr with hr | ⟨h0,c,hA⟩ | ⟨h0,hM⟩
  ·exact .inl hr
  ·have hm:=hn.not_mem' (h.apart n B ⟨g,hg⟩ (Env.pt_iff.2 ⟨hB,h0⟩))
   exact .inr (.inl ⟨h0,c,(hh _ hm).trans hA.heap,hA.st,hA.sz,hA.body.strip hn,hA.part⟩)
  ·have hm:=hn.not_mem' (h.apart n B ⟨g,hg⟩ (Env.pt_iff.2 ⟨hB,h0⟩))
   obtain ⟨⟨ks,sch,xs,es,ck,h1,h2,h3⟩,h4,h5⟩:=hM
   exact .inr (.inr ⟨h0,⟨ks,sch,xs,es,ck,h1,(hh _ hm).trans h2,h3.imp fun _ _ r=>⟨r.1.strip hn,r.2.strip hn⟩⟩,h4,h5⟩)
 ·have hb' : (if b∈l then none else Γ.kp b)=some o:=hb
  by_cases hm:b∈l
  ·rw [if_pos hm] at hb'; cases hb'
  ·rw [if_neg hm] at hb'; exact (hh b hm).trans (h.kp b o hb')
 ·show (if B.blk∈l then none else Γ.kp B.blk)=none
  rw [if_neg (hn.not_mem' (h.apart n B hl hB))]
  exact h.apart n B hl hB
 ·have hb' : (if b∈l then false else Γ.ro b)=true:=hb
  by_cases hm:b∈l
  ·rw [if_pos hm] at hb'; cases hb'
  ·rw [if_neg hm] at hb'
   obtain ⟨o,ho⟩:=h.ro b hb'
   exact ⟨o,(if_neg hm).trans ho⟩
theorem GlobOk.strip {gl:List Nat} (hn:NoCells Γ l) (h:GlobOk gl Γ):GlobOk gl (Γ.strip l):=by
 refine ⟨fun x hx=>?_,h.2⟩
 obtain ⟨ad,c,e,fz,ca,ta,h1,h2,h3,h4⟩:=h.1 x hx
 exact ⟨ad,c,e,fz,ca,ta,h1,(strip_kp_of (hn.not_mem h2)).trans h2,h3,(strip_kp_of (hn.not_mem h4)).trans h4⟩
theorem Ext.strip {Γ0:Env} {w0:World} (h:Ext Γ0 w0 Γ) (h0:∀ b∈l,Γ0.kp b=none∧Γ0.ro b=false):Ext Γ0 w0 (Γ.strip l):=by
 refine ⟨⟨h.le.μ,fun b o hb=>?_,fun b hb=>?_,h.le.er⟩,fun b hb=>?_,h.nw⟩
 ·have hm:b ∉ l:=fun hm=>by rw [(h0 b hm).1] at hb; cases hb
  exact (strip_kp_of hm).trans (h.le.kp b o hb)
 ·have hm:b ∉ l:=fun hm=>by rw [(h0 b hm).2] at hb; cases hb
  exact (strip_ro_of hm).trans (h.le.ro b hb)
 ·have hb' : (if b∈l then false else Γ.ro b)=true:=hb
  by_cases hm:b∈l
  ·rw [if_pos hm] at hb'; cases hb'
  ·rw [if_neg hm] at hb'; exact h.ro b hb'
end
def Env.hold (b:Nat) (o:Obj) (Γ:Env):Env:={μ:=Γ.μ,kp:=fun b'=>if b'=b then some o else Γ.kp b',ro:=Γ.ro,er:=Γ.er}
section
variable {Γ:Env} {b:Nat} {o:Obj}
theorem hold_kp:(Γ.hold b o).kp b=some o:=if_pos rfl
theorem hold_le (h:Γ.kp b=none):Γ.le (Γ.hold b o):=by
 refine ⟨fun _ _ h=>h,fun b' o' hb=>?_,fun _ h=>h,rfl⟩
 have hne:b'≠b:=fun e=>by rw [e,h] at hb; cases hb
 exact (if_neg hne).trans hb
theorem WRel.hold {rg:List (Option Reg)} {w:World} (h:WRel Γ rg w) (hk:Γ.kp b=none) (hw:w.heap[b]? = some o) (ho:o.isCM=false):WRel (Γ.hold b o) rg w:=by
 refine ⟨fun n g hg=>?_,h.inj,fun b' o' hb=>?_,fun n B hl hB=>?_,fun b' hb=>?_⟩
 ·obtain ⟨B,hB,r⟩:=h.live n g hg
  exact ⟨B,hB,r.mono (hold_le hk)⟩
 ·have hb' : (if b'=b then some o else Γ.kp b')=some o':=hb
  by_cases hm:b'=b
  ·rw [if_pos hm] at hb'; cases hb'; rw [hm]; exact hw
  ·rw [if_neg hm] at hb'; exact h.kp b' o' hb'
 ·obtain ⟨g,hg⟩:=hl
  have hB:Γ.pt n=some B:=hB
  have hne:B.blk≠b:=by
   rcases h.at_or hB hg with ⟨c,hA⟩ | hM
   ·have h1:=hA.heap
    exact fun e=>by rw [e,hw] at h1; cases h1; cases ho
   ·obtain ⟨ks,sch,xs,es,ck,-,h1,-⟩:=hM.mp
    exact fun e=>by rw [e,hw] at h1; cases h1; cases ho
  exact (if_neg hne).trans (h.apart n B ⟨g,hg⟩ hB)
 ·obtain ⟨o',ho'⟩:=h.ro b' hb
  exact ⟨o',(hold_le hk).kp _ _ ho'⟩
theorem hold_ext {w:World} (hk:Γ.kp b=none):Ext Γ w (Γ.hold b o):=⟨hold_le hk,fun _ h=>.inl h,fun n B h=>.inr ⟨n,B,h,rfl⟩⟩
end
def shut:List Nat→World→World
 | [],w=>w
 | D::l,w=>shut l (w.putObj D (.deferred none))
theorem shut_other:∀ (l:List Nat) (w:World) (b:Nat),b ∉ l→(shut l w).heap[b]? = w.heap[b]?
 | [],_,_,_=>rfl
 | D::l,w,b,h=>by
   rw [List.mem_cons,not_or] at h
   exact (shut_other l _ b h.2).trans (World.putObj_heap_other h.1)
theorem shut_wd:∀ (l:List Nat) (w:World),Wd w (shut l w)
 | [],w=>Wd.refl w
 | D::l,w=>by
   have h:Wd w (w.putObj D (.deferred none)):=⟨rfl,rfl,rfl,by rw [World.putObj_size]; exact Nat.le_refl _⟩
   exact h.trans (shut_wd l _)
theorem leaves_marks {n:Nat} {P:Program} {fn:Func} {tmps:Array Value} {R:Ending→World→Prop}:∀ (l:List Nat) {w:World},l.Nodup→(∀ D∈l,w.heap[D]? = some (.deferred (some [])))→
  LeavesIn Fence.wide n P fn tmps R [] .returning (shut l w)→LeavesInM Fence.wide n P fn tmps R (l.map fun D=>{target:=.collected D,args:=#[]}) .returning w
 | [],_,_,_,h=>h
 | D::l,w,hnd,hw,h=>by
   rw [List.nodup_cons] at hnd
   refine ⟨by simp,.inl ⟨D,w.putObj D (.deferred none),rfl,run_takeDeferred (hw D (by simp)),leaves_marks l hnd.2 (fun D' hD'=>?_) h⟩⟩
   have hne:D'≠D:=fun e=>hnd.1 (e ▸ hD')
   exact (World.putObj_heap_other hne).trans (hw D' (by simp [hD']))
theorem Inv.shut {gl:List Nat} {N:Nat} {rg0:List (Option Reg)} {Γ Γ0:Env} {s:St} {a:Act} {w w0:World} (hI:Inv gl N Γ s a w) (hE:Ext Γ0 w0 Γ) (h0:WRel Γ0 rg0 w0) (hN:w0.heap.size≤N) :
  ∃ l Γ',a.defers=l.map (fun D=>{target:=.collected D,args:=#[]})∧l.Nodup∧(∀ D∈l,w.heap[D]? = some (.deferred (some [])))∧Ext Γ0 w0 Γ'∧Inv gl N Γ' s {a with defers:=[]} (Nx.shut l w)∧(∀ b,b<N→Γ'.kp b=Γ.kp b)∧∀ D∈l,N≤D:=by
 obtain ⟨l,h1,h2,h3⟩:=hI.df
 have hn:NoCells Γ l:=fun D hD=>⟨_,(h3 D hD).2,rfl⟩
 have hk0:∀ D∈l,Γ0.kp D=none:=fun D hD=>by
  cases hk:Γ0.kp D with
  | none=>rfl
  | some o=>
    have:=(Array.getElem?_eq_some_iff.1 (h0.kp D o hk)).1
    have:=(h3 D hD).1
    omega
 refine ⟨l,Γ.strip l,h1,h2,fun D hD=>hI.wr.kp _ _ (h3 D hD).2,hE.strip fun D hD=>⟨hk0 D hD,?_⟩,⟨hI.wr.strip hn (shut_other l w),FrRel.strip hn hI.fr,hI.gl.strip hn,hI.nw,Df.nil _ _⟩,fun b hb=>strip_kp_of fun hm=>by have:=(h3 b hm).1; omega,fun D hD=>(h3 D hD).1⟩
 cases hr:Γ0.ro D with
 | false=>rfl
 | true=>
   obtain ⟨o,ho⟩:=h0.ro D hr
   rw [hk0 D hD] at ho
   cases ho
theorem narrow_all {gl:List Nat} {N m:Nat} {s:St} {Γ Γ0:Env} {a:Act} {w w0:World} {fuel:Nat} {roots:List Nat} {rg:List (Option Reg)} (hI:Inv gl N Γ s a w) (hE:Ext Γ0 w0 Γ) (h0:∀ n,m≤n→Γ0.μ n=none)
  (hrg:mapRg (mapNC (posIn (List.range m++(reach s fuel roots []).filter fun n=>decide (m≤n)))) ((List.range m++(reach s fuel roots []).filter fun n=>decide (m≤n)).map s.reg)=some rg) :
  ∃ Γ',Ext Γ0 w0 Γ'∧Ren (posIn (List.range m++(reach s fuel roots []).filter fun n=>decide (m≤n))) Γ Γ'∧RoOk Γ Γ'∧WRel Γ' rg w∧GlobOk gl Γ'∧(∀ n,rg.length≤n→Γ'.μ n=none)∧Γ'.kp=Γ.kp:=by
 generalize hL:List.range m++(reach s fuel roots []).filter (fun n=>decide (m≤n))=L at *
 have hnd:L.Nodup:=by
  rw [← hL,List.nodup_append]
  refine ⟨List.nodup_range,(reach_nodup s fuel roots [] (by simp)).filter _,fun x hx y hy=>?_⟩
  rw [List.mem_range] at hx
  rw [List.mem_filter,decide_eq_true_eq] at hy
  omega
 have hlow:∀ n,n<m→L[n]? = some n:=by
  intro n hn
  rw [← hL,List.getElem?_append_left (by simpa using hn),List.getElem?_range hn]
 let Γ' : Env:={μ:=fun j=>(L[j]?).bind Γ.μ,kp:=Γ.kp,ro:=Γ.ro,er:=Γ.er}
 have hro:RoOk Γ Γ':=fun b o h1 h2=>⟨h1,h2⟩
 have hren:Ren (posIn L) Γ Γ':=⟨fun n j B h1 h2=>by show (L[j]?).bind Γ.μ=_; rw [posIn_spec h1]; exact h2,rfl⟩
 refine ⟨Γ',⟨⟨fun n B hB=>?_,hE.le.kp,hE.le.ro,hE.le.er⟩,hE.ro,fun n B hB=>?_⟩,hren,hro,?_,?_,fun n hn=>?_,rfl⟩
 ·have hn:n<m:=by
   rcases Nat.lt_or_ge n m with h | h
   ·exact h
   ·rw [h0 n h] at hB; cases hB
  show (L[n]?).bind Γ.μ=_
  rw [hlow n hn]
  exact hE.le.μ n B hB
 ·obtain ⟨hB1,hB2⟩:=Env.pt_iff.1 hB
  have hB' : (L[n]?).bind Γ.μ=some B:=hB1
  rw [Option.bind_eq_some_iff] at hB'
  obtain ⟨n',-,h2⟩:=hB'
  exact hE.nw n' B (Env.pt_iff.2 ⟨h2,hB2⟩)
 ·exact hI.wr.restrict hnd hrg (fun _=>rfl) rfl hro hI.wr.kp (fun n B _ hl hB=>hI.wr.apart n B hl hB) hI.wr.ro
 ·exact hI.gl
 ·show (L[n]?).bind Γ.μ=none
  have:=(mapRg_get hrg).1
  rw [List.getElem?_eq_none (by rw [List.length_map] at this; omega)]
  rfl
theorem keepFr_rel {Γ:Env} {live:List Nat}:∀ {fr:List NS} {vs:List Value} {i:Nat},R2 (SRel Γ) fr vs→R2 (SRel Γ) (keepFr live i fr) vs
 | [],vs,i,h=>by cases h; exact .nil
 | x::fr,vs,i,h=>by
   cases h with
   | cons r h=>
     refine .cons ?_ (keepFr_rel h)
     split
     ·exact r
     ·trivial
theorem norm_sound' {gl:List Nat} {N m:Nat} {live:List Nat} {s s' : St} {Γ Γ0:Env} {a:Act} {w w0:World} (hI:Inv gl N Γ s a w) (hE:Ext Γ0 w0 Γ) (h0:∀ n,m≤n→Γ0.μ n=none) (h:norm m live s=some s') :
  ∃ Γ',Ext Γ0 w0 Γ'∧Inv gl N Γ' s' a w∧Γ'.kp=Γ.kp∧Γ'.er=Γ.er:=by
 unfold norm at h
 simp only at h
 split at h
 case h_2=>cases h
 rename_i rg hrg
 cases h
 obtain ⟨Γ',h1,hren,hro,h2,h3,h4,hkp⟩:=narrow_all hI hE h0 hrg
 refine ⟨Γ',h1,⟨h2,?_,h3,h4,by obtain ⟨l,h5,h6,h7⟩:=hI.df; exact ⟨l,h5,h6,fun D hD=>⟨(h7 D hD).1,by rw [hkp]; exact (h7 D hD).2⟩⟩⟩,hkp,by rw [h1.le.er,hE.le.er]⟩
 refine R2.map_left (keepFr_rel (live:=live) (i:=0) hI.fr) fun x v r=>?_
 cases hm:mapNS (mapNC (posIn (List.range m++(reach s 256 (List.range m++(keepFr live 0 s.fr).flatMap NS.names) []).filter fun n=>decide (m≤n)))) x with
 | none=>trivial
 | some y=>exact mapNS_rel hren (fun _=>hro) r hm
theorem norm_sound {gl:List Nat} {N m:Nat} {live:List Nat} {s s' : St} {Γ Γ0:Env} {a:Act} {w w0:World} (hI:Inv gl N Γ s a w) (hE:Ext Γ0 w0 Γ) (h0:∀ n,m≤n→Γ0.μ n=none) (h:norm m live s=some s') :
  ∃ Γ',Ext Γ0 w0 Γ'∧Inv gl N Γ' s' a w:=by
 obtain ⟨Γ',h1,h2,-,-⟩:=norm_sound' hI hE h0 h
 exact ⟨Γ',h1,h2⟩
def toExit:NExit→Exit
 | .normal=>.normal
 | .exit id=>.exit id
 | .ret=>.ret
def LOk (P:Program) (gl:List Nat) (m:Nat) (id:Nat) (body:Code) (L:St→Tr (NExit × St)):Prop:=
 ∀ (Γ0:Env) (w0:World),(∀ n,m≤n→Γ0.μ n=none)→∀ (s:St) (Γ:Env) (a:Act) (w:World) (R:NExit × St→Prop) (Q:Exit→Act→World→Prop),Inv gl w0.heap.size Γ s a w→Ext Γ0 w0 Γ→Wd w0 w→(L s).run R→
  (∀ e s' a' w' Γ',R (e,s')→Ext Γ0 w0 Γ'→Wd w0 w'→Inv gl w0.heap.size Γ' s' a' w'→Q (toExit e) a' w')→(Code.block id (.loop body)).wp P Q a w
def RgOk (P:Program) (gl:List Nat) (m:Nat) (id:Nat) (c:Code) (L:St→Tr (NExit × St)):Prop:=
 ∀ (Γ0:Env) (w0:World),(∀ n,m≤n→Γ0.μ n=none)→∀ (s:St) (Γ:Env) (a:Act) (w:World) (R:NExit × St→Prop) (Q:Exit→Act→World→Prop),Inv gl w0.heap.size Γ s a w→Ext Γ0 w0 Γ→Wd w0 w→(L s).run R→
  (∀ e s' a' w' Γ',R (e,s')→Ext Γ0 w0 Γ'→Wd w0 w'→Inv gl w0.heap.size Γ' s' a' w'→Q (toExit e) a' w')→(Code.block id c).wp P Q a w
structure LAll (X:Cx) (c:Code):Prop where
 loops:∀ id body,(id,body)∈loopsIn c→∀ x,X.loops.find? (·.1==id)=some x→LOk X.P X.glob X.m id body x.2.2
 ranges:∀ id b,(id,b)∈rangesIn c→∀ x,X.loops.find? (·.1==id)=some x→RgOk X.P X.glob X.m id b x.2.2
theorem LAll.seq1 {X:Cx} {x y:Code} (h:LAll X (.seq x y)):LAll X x:=⟨fun id b hb=>h.loops id b (by simp [loopsIn,hb]),fun id b hb=>h.ranges id b (by simp [rangesIn,hb])⟩
theorem LAll.seq2 {X:Cx} {x y:Code} (h:LAll X (.seq x y)):LAll X y:=⟨fun id b hb=>h.loops id b (by simp [loopsIn,hb]),fun id b hb=>h.ranges id b (by simp [rangesIn,hb])⟩
theorem LAll.cond1 {X:Cx} {c:Operand} {x y:Code} (h:LAll X (.cond c x y)):LAll X x:=⟨fun id b hb=>h.loops id b (by simp [loopsIn,hb]),fun id b hb=>h.ranges id b (by simp [rangesIn,hb])⟩
theorem LAll.cond2 {X:Cx} {c:Operand} {x y:Code} (h:LAll X (.cond c x y)):LAll X y:=⟨fun id b hb=>h.loops id b (by simp [loopsIn,hb]),fun id b hb=>h.ranges id b (by simp [rangesIn,hb])⟩
theorem nwp_block {β:Type} {X:Cx} {id:Nat} {c:Code} {s:St} {K:NExit→St→Tr β} (h:∀ b,c≠.loop b) (h' : ∀ g ps a b,c≠.rangeFunc g ps a b):nwp X (.block id c) s K=nwp X c s (fun e s'=>match e with
  | .exit j=>if j=id then K .normal s' else K (.exit j) s'
  | e=>K e s'):=by
 cases c <;> first | rfl | exact (h _ rfl).elim | exact (h' _ _ _ _ rfl).elim
theorem rangesIn_block {id:Nat} {c:Code} (h:∀ b,c≠.loop b) (h' : ∀ g ps a b,c≠.rangeFunc g ps a b):rangesIn (.block id c)=rangesIn c:=by
 cases c <;> first | rfl | exact (h _ rfl).elim | exact (h' _ _ _ _ rfl).elim
theorem loopsIn_block {id:Nat} {c:Code} (h:∀ b,c≠.loop b):loopsIn (.block id c)=loopsIn c:=by
 cases c <;> first | rfl | exact (h _ rfl).elim
theorem nwp_sound {X:Cx} (hcon:∀ f T,X.con f=some T→Known X.P X.glob f T) (hm:X.P.follows .mixedOrders=true) {Γ0:Env} {w0:World} (h0:∀ n,X.m≤n→Γ0.μ n=none) :
  ∀ (c:Code) {β:Type},LAll X c→∀ {s:St} {Γ:Env} {a:Act} {w:World} {K:NExit→St→Tr β} {R:β→Prop} {Q:Exit→Act→World→Prop},Inv X.glob w0.heap.size Γ s a w→Ext Γ0 w0 Γ→Wd w0 w→(nwp X c s K).run R→
   (∀ e s' a' w' Γ',(K e s').run R→Ext Γ0 w0 Γ'→Wd w0 w'→Inv X.glob w0.heap.size Γ' s' a' w'→Q (toExit e) a' w')→c.wp X.P Q a w:=by
 intro c
 induction c with
 | skip=>
   intro β hl s Γ a w K R Q hI hE hW h hK
   exact wp_skip (hK .normal s a w Γ h hE hW hI)
 | exit id=>
   intro β hl s Γ a w K R Q hI hE hW h hK
   exact wp_exit (hK (.exit id) s a w Γ h hE hW hI)
 | ret=>
   intro β hl s Γ a w K R Q hI hE hW h hK
   exact wp_ret (hK .ret s a w Γ h hE hW hI)
 | seq x y ihx ihy=>
   intro β hl s Γ a w K R Q hI hE hW h hK
   refine wp_seq (ihx hl.seq1 hI hE hW h fun e s' a' w' Γ' h' hE' hW' hI'=>?_)
   cases e with
   | normal=>exact ihy hl.seq2 hI' hE' hW' h' hK
   | exit id=>exact hK (.exit id) s' a' w' Γ' h' hE' hW' hI'
   | ret=>exact hK .ret s' a' w' Γ' h' hE' hW' hI'
 | cond c x y ihx ihy=>
   intro β hl s Γ a w K R Q hI hE hW h hK
   have hlx:LAll X x:=hl.cond1
   have hly:LAll X y:=hl.cond2
   have hb:∀ b,s.ev c=.v (.c (.b b))→a.eval c=.bool b:=fun b hb=>by
    have:=ev_rel hI.fr c
    rw [hb] at this
    exact this.1
   simp only [nwp] at h
   split at h
   ·rename_i t b he
    have hslot:s.fr[t]? = some (.v (.c (.b b))):=by
     have:s.fr.getD t .dead=.v (.c (.b b)):=he
     rw [List.getD_eq_getElem?_getD] at this
     cases e:s.fr[t]? with
     | none=>rw [e] at this; cases this
     | some z=>rw [e] at this; simpa using this
    refine wp_cond (hb b he) ?_
    rcases sel_iff.1 h with ⟨rfl,h⟩ | ⟨rfl,h⟩
    ·rw [put_lit hslot] at h; exact ihx hlx hI hE hW h hK
    ·rw [put_lit hslot] at h; exact ihy hly hI hE hW h hK
   ·rename_i b hne he
    refine wp_cond (hb b he) ?_
    rcases sel_iff.1 h with ⟨rfl,h⟩ | ⟨rfl,h⟩
    ·exact ihx hlx hI hE hW h hK
    ·exact ihy hly hI hE hW h hK
   ·exact h.elim
 | block id c ih=>
   intro β hl s Γ a w K R Q hI hE hW h hK
   by_cases hc:∃ b,c=.loop b
   ·obtain ⟨body,rfl⟩:=hc
    simp only [nwp] at h
    split at h
    case h_2=>exact h.elim
    rename_i y live L hf
    split at h
    case h_2=>exact h.elim
    rename_i s' hn
    rw [Tr.run_bind] at h
    obtain ⟨Γ',hE',hI'⟩:=norm_sound hI hE h0 hn
    exact hl.loops id body (by simp [loopsIn]) _ hf Γ0 w0 h0 s' Γ' a w _ Q hI' hE' hW h fun e s2 a2 w2 Γ2 k1 k2 k3 k4=>hK e s2 a2 w2 Γ2 k1 k2 k3 k4
   by_cases hcr:∃ g ps a b,c=.rangeFunc g ps a b
   ·obtain ⟨g,ps,ac,bc,rfl⟩:=hcr
    simp only [nwp] at h
    split at h
    case h_2=>exact h.elim
    rename_i y live L hf
    split at h
    case h_2=>exact h.elim
    rename_i s' hn
    rw [Tr.run_bind] at h
    obtain ⟨Γ',hE',hI'⟩:=norm_sound hI hE h0 hn
    exact hl.ranges id _ (by simp [rangesIn]) _ hf Γ0 w0 h0 s' Γ' a w _ Q hI' hE' hW h fun e s2 a2 w2 Γ2 k1 k2 k3 k4=>hK e s2 a2 w2 Γ2 k1 k2 k3 k4
   ·have hc' : ∀ b,c≠.loop b:=fun b e=>hc ⟨b,e⟩
    have hc2:∀ g ps a b,c≠.rangeFunc g ps a b:=fun g ps a b e=>hcr ⟨g,ps,a,b,e⟩
    rw [nwp_block hc' hc2] at h
    refine wp_block (ih ⟨fun i b hb=>hl.loops i b (by rw [loopsIn_block hc']; exact hb),fun i b hb=>hl.ranges i b (by rw [rangesIn_block hc' hc2]; exact hb)⟩ hI hE hW h fun e s' a' w' Γ' h' hE' hW' hI'=>?_)
    cases e with
    | normal=>exact hK .normal s' a' w' Γ' h' hE' hW' hI'
    | ret=>exact hK .ret s' a' w' Γ' h' hE' hW' hI'
    | exit j=>
      simp only at h'
      show if j=id then _ else _
      split at h'
      ·rename_i e; rw [if_pos e]; exact hK .normal s' a' w' Γ' h' hE' hW' hI'
      ·rename_i e; rw [if_neg e]; exact hK (.exit j) s' a' w' Γ' h' hE' hW' hI'
 | region id ops d=>
   intro β hl s Γ a w K R Q hI hE hW h hK
   have hk:∀ s' a' w' Γ',(K .normal s').run R→Ext Γ w Γ'→Wd w w'→Inv X.glob w0.heap.size Γ' s' a' w'→Q .normal a' w':=fun s' a' w' Γ' h1 h2 h3 h4=>hK .normal s' a' w' Γ' h1 (hE.trans hW h2) (hW.trans h3) h4
   cases d with
   | false=>exact wp_region_list (nops_sound hcon ops.toList hI h hk)
   | true=>
     simp only [nwp] at h
     split at h
     ·rename_i hok
      exact draw_sound hcon hm hI hok h hk
     ·exact h.elim
 | _=>
   intro β hl s Γ a w K R Q hI hE hW h hK
   exact h.elim
inductive RO where
 | next (s:St)
 | done (e:NExit) (s:St)
def roundT (X:Cx) (id:Nat) (live out:List Nat) (body:Code) (s:St):Tr RO:=
 nwp X body s fun e s'=>match e with
  | .normal=>(match norm X.m live s' with
    | some s''=>.ret (.next s'')
    | none=>.fail)
  | .exit j=>(match norm X.m out s' with
    | some s''=>if j=id then .ret (.done .normal s'') else .ret (.done (.exit j) s'')
    | none=>.fail)
  | .ret=>(match norm X.m out s' with
    | some s''=>.ret (.done .ret s'')
    | none=>.fail)
theorem loop_ok {X:Cx} (hcon:∀ f T,X.con f=some T→Known X.P X.glob f T) (hm:X.P.follows .mixedOrders=true) {id:Nat} {body:Code} {L:St→Tr (NExit × St)} (hl:LAll X body) (live out:List Nat) {α:Type} (h:α→St) (μ:α→Nat) (Pre:α→(NExit × St→Prop)→Prop)
  (start:∀ s R,(L s).run R→∃ x,s=h x∧Pre x R)
  (round:∀ x R,Pre x R→(roundT X id live out body (h x)).run fun o=>match o with
    | .next s=>∃ y,s=h y∧μ y<μ x∧Pre y R
    | .done e s=>R (e,s)):LOk X.P X.glob X.m id body L:=by
 intro Γ0 w0 h0 s Γ a w R Q hI hE hW hL hK
 obtain ⟨x,rfl,hp⟩:=start s R hL
 refine wp_block (wp_loop_ghost (fun n a w=>∃ x Γ,μ x=n∧Pre x R∧Inv X.glob w0.heap.size Γ (h x) a w∧Ext Γ0 w0 Γ∧Wd w0 w) (μ x) ⟨x,Γ,rfl,hp,hI,hE,hW⟩ ?_)
 rintro n a1 w1 ⟨y,Γ1,rfl,hp1,hI1,hE1,hW1⟩
 refine nwp_sound hcon hm h0 body hl hI1 hE1 hW1 (round y R hp1) fun e s' a' w' Γ' h' hE' hW' hI'=>?_
 cases e with
 | normal=>
   simp only at h'
   split at h'
   ·rename_i s2 hn
    obtain ⟨z,hz,hlt,hpz⟩:=h'
    obtain ⟨Γ2,hE2,hI2⟩:=norm_sound hI' hE' h0 hn
    subst hz
    exact ⟨μ z,hlt,z,Γ2,rfl,hpz,hI2,hE2,hW'⟩
   ·exact h'.elim
 | exit j=>
   simp only at h'
   show if j=id then _ else _
   split at h'
   ·rename_i s2 hn
    obtain ⟨Γ2,hE2,hI2⟩:=norm_sound hI' hE' h0 hn
    split at h'
    ·rename_i e; rw [if_pos e]; exact hK .normal s2 a' w' Γ2 h' hE2 hW' hI2
    ·rename_i e; rw [if_neg e]; exact hK (.exit j) s2 a' w' Γ2 h' hE2 hW' hI2
   ·exact h'.elim
 | ret=>
   simp only at h'
   split at h'
   ·rename_i s2 hn
    obtain ⟨Γ2,hE2,hI2⟩:=norm_sound hI' hE' h0 hn
    exact hK .ret s2 a' w' Γ2 h' hE2 hW' hI2
   ·exact h'.elim
def unroll (X:Cx) (id:Nat) (live out:List Nat) (body:Code):Nat→St→Tr (NExit × St)
 | 0,_=>.fail
 | n+1,s=>(roundT X id live out body s).bind fun o=>match o with
   | .next s'=>unroll X id live out body n s'
   | .done e s'=>.ret (e,s')
theorem unroll_ok {X:Cx} (hcon:∀ f T,X.con f=some T→Known X.P X.glob f T) (hm:X.P.follows .mixedOrders=true) {id:Nat} {body:Code} (hl:LAll X body) (live out:List Nat) (n:Nat):LOk X.P X.glob X.m id body (unroll X id live out body n):=by
 refine loop_ok hcon hm hl live out (α:=Nat × St) (·.2) (·.1) (fun x R=>(unroll X id live out body x.1 x.2).run R) (fun s R h=>⟨(n,s),rfl,h⟩) ?_
 rintro ⟨k,s⟩ R h
 cases k with
 | zero=>exact h.elim
 | succ k=>
   simp only [unroll] at h
   rw [Tr.run_bind] at h
   refine Tr.run_mono _ (fun o ho=>?_) h
   cases o with
   | next s'=>exact ⟨(k,s'),rfl,Nat.lt_succ_self k,ho⟩
   | done e s'=>exact ho
def frame (n:Nat) (l:List (Nat × NS)):List NS:=(List.range n).map fun j=>match l.find? (·.1==j) with
 | some x=>x.2
 | none=>.dead
theorem nload_ptr {P:Program} {gl:List Nat} {s:St} {Γ:Env} {t:TypeId} {x:NC} {v:Value} {r:List Bool × NS} (hx:CR Γ x v) (h:nload P gl s t x=some r):∃ ad,v=.pointer (some ad):=by
 cases x with
 | p r i c=>obtain ⟨⟨B,-,h⟩,-⟩:=hx; exact ⟨_,h⟩
 | q r o w i c=>obtain ⟨⟨B,-,h⟩,-⟩:=hx; exact ⟨_,h⟩
 | pl k xs i=>obtain ⟨⟨b,o,h,-⟩,-⟩:=hx; exact ⟨_,h⟩
 | pr ks xs i c=>obtain ⟨⟨b,o,h,-⟩,-⟩:=hx; exact ⟨_,h⟩
 | pt sch xs i c=>obtain ⟨⟨b,o,vs,h,-⟩,-⟩:=hx; exact ⟨_,h⟩
 | g x=>obtain ⟨h,-⟩:=hx; exact ⟨_,h⟩
 | _=>cases h
def rvRun (a:Act) (rv:ResultVar):Sem Value:=
 match rv with
 | .tmp t=>pure (a.tmps.getD t undef)
 | .cell c t=>do loadVar t (← asAddr (a.tmps.getD c undef))
theorem resOf_rel {P:Program} {gl:List Nat} {N:Nat} {s:St} {Γ:Env} {a:Act} {w:World} {rv:ResultVar} {x:NV} (hI:Inv gl N Γ s a w) (h:resOf P gl s rv=some x) :
  ∃ v,(rvRun a rv).run P w=.ok v w∧VRel Γ x v:=by
 cases rv with
 | tmp t=>exact ⟨_,rfl,nv_rel (ev_rel hI.fr (.tmp t)) h⟩
 | cell c t=>
   simp only [resOf] at h
   split at h
   case h_2=>cases h
   rename_i y hy
   split at h
   case h_2=>cases h
   rename_i z hz
   split at h
   case h_2=>cases h
   rename_i d hu
   cases h
   have hc:=nc_rel (ev_rel hI.fr (.tmp c)) hy
   obtain ⟨u,h1,h2⟩:=nload_sound hI.wr hI.gl (by rw [hu]; rfl) hc hz (fun _ h=>by cases h)
   refine ⟨u,?_,h2⟩
   obtain ⟨ad,hp⟩:=nload_ptr hc hz
   rw [hp] at h1
   have hp' : a.tmps.getD c undef=.pointer (some ad):=hp
   simpa [rvRun,hp',Instr.loadAt,Instr.sureAddr,asAddr] using h1
theorem ress_rel {P:Program} {gl:List Nat} {N:Nat} {s:St} {Γ:Env} {a:Act} {w:World} (hI:Inv gl N Γ s a w):∀ {l:List ResultVar} {xs:List NV},mapL (resOf P gl s) l=some xs→
  ∃ vs:List Value,(l.mapM (rvRun a)).run P w=.ok vs w∧R2 (VRel Γ) xs vs
 | [],xs,h=>by simp [mapL] at h; subst h; exact ⟨[],by simp,.nil⟩
 | rv::l,xs,h=>by
   simp only [mapL] at h
   split at h
   ·rename_i x r h1 h2
    cases h
    obtain ⟨v,e1,r1⟩:=resOf_rel hI h1
    obtain ⟨vs,e2,r2⟩:=ress_rel hI h2
    refine ⟨v::vs,?_,.cons r1 r2⟩
    rw [List.mapM_cons]
    simp only [Sem.run_bind]
    rw [e1]
    simp only [Result.andThen_ok]
    rw [e2]
    simp
   ·cases h
theorem results_rel {P:Program} {gl:List Nat} {N:Nat} {s:St} {Γ:Env} {a:Act} {w:World} {fn:Func} {x:NS} (hI:Inv gl N Γ s a w) (h:ressOf P gl s fn.results.toList=some x) :
  ∃ v,(results fn a.tmps).run P w=.ok v w∧SRel Γ x v:=by
 have key:∀ xs,mapL (resOf P gl s) fn.results.toList=some xs→∃ vs:List Value,(results fn a.tmps).run P w=.ok (if h:vs.toArray.size=1 then vs.toArray[0] else .tuple vs.toArray) w∧R2 (VRel Γ) xs vs:=by
  intro xs hxs
  obtain ⟨vs,e,r⟩:=ress_rel hI hxs
  refine ⟨vs,?_,r⟩
  have e0:results fn a.tmps=(do
    let vs ← fn.results.mapM (rvRun a)
    pure (if h:vs.size=1 then vs[0] else .tuple vs)):=by
   unfold results
   congr 1
  rw [e0,Array.mapM_eq_mapM_toList]
  simp only [Sem.run_bind,Sem.run_map]
  rw [e]
  rfl
 unfold ressOf at h
 split at h
 ·rename_i y hy
  cases h
  obtain ⟨vs,e,r⟩:=key _ hy
  cases r with
  | cons r1 r2=>cases r2; exact ⟨_,e,r1⟩
 ·rename_i l hne hl
  cases h
  obtain ⟨vs,e,r⟩:=key _ hl
  refine ⟨_,e,?_⟩
  rw [dif_neg]
  ·exact ⟨vs,rfl,r⟩
  ·intro h1
   have hlen:=r.length
   simp only [List.size_toArray] at h1
   rw [h1] at hlen
   match l,hlen with
   | [y],_=>exact hne y rfl
 ·cases h
theorem known_ofF {P:Program} {gl:List Nat} {f:FuncId} {fn:Func} {c:Code} {T:Con} (hf:P.funcs[f]? = some fn) (hb:fn.body=some c) (hname:(fn.name=="runtime.NumGoroutine")=false) (hm:P.follows .mixedOrders=true)
  (hT:∀ args regs R,(T args regs).run R→∃ con loops,(∀ f T,con f=some T→Known P gl f T)∧LAll {P:=P,con:=con,glob:=gl,m:=regs.length,loops:=loops} c∧(nfun P gl con loops fn args regs).run R):KnownF P gl f T:=by
 refine ⟨fun args w=>?_,?_⟩
 ·have h1:fn.name≠"runtime.NumGoroutine":=by simpa using hname
  simp [callFunc,hf,h1,hb]
 ·intro args regs R hR Γ w vs hw hG hargs hout
  obtain ⟨con,loops,hcon,hl,h⟩:=hT args regs R hR
  refine (callsIn_wide (n:=0)).1 (callsIn_of_wp_marks hf hb trivial (wpIn_wide.2 ?_) rfl)
  unfold nfun at h
  rw [hb] at h
  simp only at h
  have hlen:=hargs.length
  have hI:Inv gl w.heap.size Γ (enter fn args regs) {tmps:=vs.toArray++Array.replicate (fn.ntmps - vs.toArray.size) undef,defers:=[]} w:=by
   refine ⟨hw,?_,hG,fun n hn=>hout n (by simpa [enter] using hn),Df.nil _ _⟩
   show R2 (SRel Γ) (args.map .v++List.replicate (fn.ntmps - args.length) .dead) _
   have e:(vs.toArray++Array.replicate (fn.ntmps - vs.toArray.size) undef).toList=vs++List.replicate (fn.ntmps - args.length) undef:=by simp [hlen]
   rw [e]
   have e1:R2 (SRel Γ) (args.map .v) vs:=R2.map_left hargs fun _ _ r=>r
   have e2:R2 (SRel Γ) (List.replicate (fn.ntmps - args.length) .dead) (List.replicate (fn.ntmps - args.length) undef):=R2.replicate _ (show SRel Γ .dead undef from trivial)
   exact e1.append e2
  refine nwp_sound (X:={P:=P,con:=con,glob:=gl,m:=regs.length,loops:=loops}) hcon hm (Γ0:=Γ) (w0:=w) hout c hl hI (Ext.refl Γ w) (Wd.refl w) h fun e s' a' w' Γ' h' hE' hW' hI'=>?_
  have key:(match outOf P gl regs.length fn s' with | some o=>Tr.ret o | none=>.fail).run R→LeavesInM Fence.wide 0 P fn a'.tmps (fun e w'=>∃ o v Γ',(R o∧∀ n,o.rg.length≤n→Γ'.μ n=none)∧e=.returned v∧Ext Γ w Γ'∧SRel Γ' o.res v∧WRel Γ' o.rg w'∧Wd w w') a'.defers .returning w':=by
   intro h'
   obtain ⟨l,Γs,hd,hnd,hheap,hEs,hIs,-,-⟩:=hI'.shut hE' hw (Nat.le_refl _)
   rw [hd]
   refine leaves_marks l hnd hheap ?_
   split at h'
   case h_2=>exact h'.elim
   rename_i o ho
   unfold outOf at ho
   split at ho
   case h_2=>cases ho
   rename_i res hres
   simp only at ho
   split at ho
   case h_2=>cases ho
   rename_i res' rg' hmr hrg
   cases ho
   obtain ⟨v,hv,hr⟩:=results_rel hIs hres
   obtain ⟨Γ2,h1,hren,hro,h2,h3,h4⟩:=narrow_all hIs hEs hout hrg
   exact ⟨v,hv,_,v,Γ2,⟨h',h4.1⟩,rfl,h1,mapNS_rel hren (fun _=>hro) hr hmr,h2,hW'.trans (shut_wd l w')⟩
  cases e with
  | normal=>exact key h'
  | ret=>exact key h'
  | exit j=>exact h'.elim
theorem known_of {P:Program} {gl:List Nat} {f:FuncId} {fn:Func} {c:Code} {T:Con} (hf:P.funcs[f]? = some fn) (hb:fn.body=some c) (hname:(fn.name=="runtime.NumGoroutine")=false) (hm:P.follows .mixedOrders=true)
 (hT:∀ args regs R,(T args regs).run R→∃ con loops,(∀ f T,con f=some T→Known P gl f T)∧LAll {P:=P,con:=con,glob:=gl,m:=regs.length,loops:=loops} c∧(nfun P gl con loops fn args regs).run R):Known P gl f T:=(known_ofF hf hb hname hm hT).known
end Go.Nx
