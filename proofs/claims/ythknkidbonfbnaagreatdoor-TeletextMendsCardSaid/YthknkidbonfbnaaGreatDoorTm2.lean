/-
  Joined: EngB.
-/
import Derived.Test.YthknkidbonfbnaaGreatDoorTm1
import Derived.Lib.AppendZeros
import Derived.Laws.CopyRow
import Derived.Laws.StructEq
import Derived.WideKeyRuns
import Derived.RangeFuncRecord
set_option linter.unusedVariables false
open Array renaming foldl_toList->ayj,length_toList->ayi,toArray_toList->ayp,toList_map->ayl,toList_range->aym
open Bool renaming and_eq_true->ayu,false_eq_true->ayH,or_eq_true->ayq
open List renaming any_cons->ayA,append_assoc->axC,append_nil->ayw,cons_append->ayh,drop_drop->ayG,drop_zero->axZ,eq_nil_of_length_eq_zero->ayb,ext_getElem?->ays,flatMap_cons->axA,getElem?_eq_getElem->axP,getElem?_eq_none->axD,getElem?_map->ayn,getElem?_of_mem->ayE,getElem?_take->axQ,length->ayF,length_append->axG,length_cons->ayg,length_drop->ax1,length_replicate->ayv,length_take->ax7,mapM_cons->ayk,map_append->ayr,map_take->ax2,mem_append->ayC,mem_cons->ayD,mem_map->ayt,mem_of_getElem?->ayB,mem_singleton->ayx,nil_append->axY,replicate->axx,replicate_succ->axz,take_append_drop->axE,take_append_of_le_length->axW,take_of_length_le->axN
open Nat renaming add_assoc->aye,add_zero->ax9,le_refl->axB,succ_mul->axH,zero_add->ayf,zero_mul->ayc
open Option renaming bind_eq_some_iff->ayy,map_eq_some_iff->ayz,map_some->ayo
namespace Go.Nx
open Go
theorem E4 {α:Type} (xs:List α) (o:Nat) (v:α) (l:List α) (h:o<xs.length):aw (xs.set o v) (o+1) l=aw xs o (v::l):=by
 have e1:(xs.set o v).take (o+1)=xs.take o++[v]:=by
  rw [List.set_eq_take_append_cons_drop,if_pos h,List.take_append,ax7,Nat.min_eq_left (by omega),axN (by simp; omega)]
  simp
 have e2:(xs.set o v).drop (o+1+l.length)=xs.drop (o+1+l.length):=List.drop_set_of_lt (by omega)
 simp only [aw,e1,e2,ayg,axC,ayh,axY]
 congr 4
 omega
theorem jD (off:Nat):∀ (l:List Value) (k:Nat) (cs:Array Value),off+k+l.length<=cs.size->
  ((l.zipIdx k).foldl (fun (cs:Array Value) (x:Value × Nat)=>cs.setIfInBounds (off+x.2) x.1) cs).toList=aw cs.toList (off+k) l
 | [],k,cs,_=>by simp [aw]
 | v::l,k,cs,h=>by
   simp only [List.zipIdx_cons,List.foldl_cons]
   rw [jD off l (k+1) _ (by simp at h ⊢; omega)]
   simp only [ayg] at h
   simp only [Array.toList_setIfInBounds]
   rw [<- E4 _ _ _ _ (by simp; omega),aye]
def ow (Γ:Env):List (Nat × NS)->List (Nat × Value)->Prop:=R2 fun x y=>x.1=y.1∧b5 Γ x.2 y.2
theorem fA {P:Program} {Γ:Env} {size:Nat->Option (Nat × Nat)}:∀ {parts:List (Nat × NS)} {pv:List (Nat × Value)} {xs l:List NC} {cells:Array Value},
  gd P size xs parts=some l->ow Γ parts pv->R2 (CR Γ) xs cells.toList->∃ cs,Instr.fill size cells pv=some cs∧R2 (CR Γ) l cs.toList
 | [],pv,xs,l,cells,h,hp,hr=>by
   cases hp
   simp only [gd,Option.some.injEq] at h
   subst h
   exact ⟨cells,rfl,hr⟩
 | (i,v)::rest,pv,xs,l,cells,h,hp,hr=>by
   cases hp with
   | cons h1 h2=>
     rename_i y m
     obtain ⟨i',u⟩:=y
     obtain ⟨rfl,hv⟩:=h1
     simp only [gd] at h
     split at h
     case h_2=>cases h
     rename_i off n x hs hx
     split at h
     case isFalse=>cases h
     rename_i hc
     have hxr:=(iE hv hx).cells
     have jd:=(iE hv hx).my.2
     rw [<- jd] at hc
     have Ez:=hxr.length
     have LG:=hr.length
     have cS:u.cells.size=n:=by rw [<- hc.1,Ez]; simp
     have hle:off+u.cells.size<=cells.size:=by rw [cS,<- ayi,<- LG]; exact hc.2
     have key:=jD off u.cells.toList 0 cells (by simpa using hle)
     have Pa:(u.cells.zipIdx.foldl (fun (cs:Array Value) (x:Value × Nat)=>cs.setIfInBounds (off+x.2) x.1) cells).toList=aw cells.toList off u.cells.toList:=by
      rw [ax9] at key
      rw [<- key,<- ayj]
      simp
     obtain ⟨cs,hf,hrr⟩:=fA (cells:=u.cells.zipIdx.foldl (fun (cs:Array Value) (x:Value × Nat)=>cs.setIfInBounds (off+x.2) x.1) cells) h h2 (by rw [Pa]; exact hr.aw off hxr)
     refine ⟨cs,?_,hrr⟩
     have c1:(u.cells.size !=n||decide (off+u.cells.size > cells.size))=false:=by simp [cS]; omega
     simp only [Instr.fill,hs]
     rw [if_neg (by simpa using c1)]
     exact hf
theorem sf {α β:Type} {P:Program} {w:World} (f:α->Sem β) (g:α->β):∀ (l:List α),(∀ x∈l,(f x).run P w=.ok (g x) w)->(l.mapM f).run P w=.ok (l.map g) w
 | [],_=>by simp
 | x::l,h=>by
   rw [ayk]
   simp [h x (by simp),sf f g l (fun y hy=>h y (by simp [hy]))]
theorem qs {α β:Type} {P:Program} {w:World} (f:α->Sem β) (g:α->β) (a:Array α) (h:∀ x∈a.toList,(f x).run P w=.ok (g x) w):(a.mapM f).run P w=.ok (a.map g) w:=by
 rw [Array.mapM_eq_mapM_toList]
 simp only [Sem.run_map,sf f g a.toList h,Result.andThen_ok]
 rw [<- ayl]
theorem Cv {P:Program} {Γ:Env} {w:World} {t:TypeId} {parts:List (Nat × NS)} {pv:Array (Nat × Value)} {l:List NC} (h:Iu P t parts=some l) (hp:ow Γ parts pv.toList) :
  ∃ cs:List Value,(Instr.build t pv).run P w=.ok (.agg cs.toArray) w∧R2 (CR Γ) l cs:=by
 unfold Iu at h
 split at h
 ·rename_i z fs hz hu
  split at h
  case isFalse=>cases h
  rename_i hall
  obtain ⟨i,v,hi,hv,cS,hs⟩:=cr hz
  obtain ⟨cs,hf,hr⟩:=fA h hp (cQ hs)
  refine ⟨cs.toList,?_,hr⟩
  have hm:=qs (P:=P) (w:=w) (fun (f:Field)=>(do pure (f.offset,<- sizeOf f.type):Sem (Nat × Nat))) (fun f=>(f.offset,al P f.type)) fs (fun f hf=>by
   obtain ⟨fi,hfi⟩:=Option.isSome_iff_exists.1 (List.all_eq_true.1 hall f hf)
   simp [run_sizeOf hfi])
  have IE:(fun (x:Nat)=>(fs.map fun f=>(f.offset,al P f.type))[x]?)=fun i=>(fs[i]?).map fun f=>(f.offset,al P f.type):=by
   funext x; simp
  simp only [Instr.build,Sem.run_bind,cC hi hv,Result.andThen_ok,run_underlying hu,hm,IE,hf]
  simp
 ·rename_i z n e hz hu
  split at h
  case isFalse=>cases h
  rename_i Ch
  obtain ⟨i,v,hi,hv,cS,hs⟩:=cr hz
  obtain ⟨ei,jn,-⟩:=aT Ch
  obtain ⟨cs,hf,hr⟩:=fA h hp (cQ hs)
  refine ⟨cs.toList,?_,hr⟩
  simp only [Instr.build,Sem.run_bind,cC hi hv,Result.andThen_ok,run_underlying hu,run_sizeOf jn,hf]
  simp
 ·cases h
theorem jr {Γ:Env} {size:Nat->Option (Nat × Nat)}:∀ {parts:List (Nat × NS)} {pv:List (Nat × Value)} {xs l:List bq} {cells:Array Value},
  jH size xs parts=some l->ow Γ parts pv->aK xs->R2 (CR Γ) (ay xs) cells.toList->∃ cs,Instr.fill size cells pv=some cs∧R2 (CR Γ) (ay l) cs.toList∧aK l
 | [],pv,xs,l,cells,h,hp,ho,hr=>by
   cases hp
   simp only [jH,Option.some.injEq] at h
   subst h
   exact ⟨cells,rfl,hr,ho⟩
 | (i,v)::rest,pv,xs,l,cells,h,hp,ho,hr=>by
   cases hp with
   | cons h1 h2=>
     rename_i y m
     obtain ⟨i',u⟩:=y
     obtain ⟨rfl,hv⟩:=h1
     simp only [jH] at h
     split at h
     case h_2=>cases h
     rename_i off n x hs hx
     split at h
     case isFalse=>cases h
     rename_i hc
     split at h
     case h_2=>cases h
     rename_i ys Cr
     have hxr:=(iE hv hx).cells
     obtain ⟨hxo,jd⟩:=(iE hv hx).my
     have Ez:=hxr.length
     have LG:=hr.length
     have Sr:=aZ ho
     obtain ⟨hyo,hyf⟩:=fh ho hxo (by rw [NV.dU,jd]; exact hc.1) (by omega) Cr
     rw [NV.dU] at hyf
     have cS:u.cells.size=n:=by rw [<- hc.1,<- jd,Ez]; simp
     have hle:off+u.cells.size<=cells.size:=by rw [cS,<- ayi,<- LG]; omega
     have key:=jD off u.cells.toList 0 cells (by simpa using hle)
     have Pa:(u.cells.zipIdx.foldl (fun (cs:Array Value) (x:Value × Nat)=>cs.setIfInBounds (off+x.2) x.1) cells).toList=aw cells.toList off u.cells.toList:=by
      rw [ax9] at key
      rw [<- key,<- ayj]
      simp
     obtain ⟨cs,hf,hrr⟩:=jr (cells:=u.cells.zipIdx.foldl (fun (cs:Array Value) (x:Value × Nat)=>cs.setIfInBounds (off+x.2) x.1) cells) h h2 hyo (by rw [Pa,hyf]; exact hr.aw off hxr)
     refine ⟨cs,?_,hrr⟩
     have c1:(u.cells.size !=n||decide (off+u.cells.size > cells.size))=false:=by simp [cS]; omega
     simp only [Instr.fill,hs]
     rw [if_neg (by simpa using c1)]
     exact hf
theorem z8 {P:Program} {Γ:Env} {w:World} {t:TypeId} {parts:List (Nat × NS)} {pv:Array (Nat × Value)} {v:NV} (h:B5 P t parts=some v) (hp:ow Γ parts pv.toList) :
  ∃ u,(Instr.build t pv).run P w=.ok u w∧cM Γ v u:=by
 unfold B5 at h
 split at h
 ·split at h
  case h_2=>cases h
  rename_i l hl
  cases h
  obtain ⟨cs,bE,hr⟩:=Cv (w:=w) hl hp
  exact ⟨_,bE,⟨cs,rfl,hr⟩⟩
 ·split at h
  ·rename_i z fs hz hu
   split at h
   case isFalse=>cases h
   rename_i hall
   split at h
   case h_2=>cases h
   rename_i l hl
   cases h
   obtain ⟨i,v,hi,hv,hzo,hz⟩:=iX hz
   obtain ⟨cs,hf,hr,ho⟩:=jr hl hp hzo (hz Γ)
   refine ⟨.agg cs,?_,⟨cs.toList,by simp,hr,ho⟩⟩
   have hm:=qs (P:=P) (w:=w) (fun (f:Field)=>(do pure (f.offset,<- sizeOf f.type):Sem (Nat × Nat))) (fun f=>(f.offset,al P f.type)) fs (fun f hf=>by
    obtain ⟨fi,hfi⟩:=Option.isSome_iff_exists.1 (List.all_eq_true.1 hall f hf)
    simp [run_sizeOf hfi])
   have IE:(fun (x:Nat)=>(fs.map fun f=>(f.offset,al P f.type))[x]?)=fun i=>(fs[i]?).map fun f=>(f.offset,al P f.type):=by
    funext x; simp
   simp only [Instr.build,Sem.run_bind,cC hi hv,Result.andThen_ok,run_underlying hu,hm,IE,hf]
   simp
  ·rename_i z n e hz hu
   split at h
   case isFalse=>cases h
   rename_i Ch
   split at h
   case h_2=>cases h
   rename_i l hl
   cases h
   obtain ⟨i,v,hi,hv,hzo,hz⟩:=iX hz
   obtain ⟨ei,jn,-⟩:=aT Ch
   obtain ⟨cs,hf,hr,ho⟩:=jr hl hp hzo (hz Γ)
   refine ⟨.agg cs,?_,⟨cs.toList,by simp,hr,ho⟩⟩
   simp only [Instr.build,Sem.run_bind,cC hi hv,Result.andThen_ok,run_underlying hu,run_sizeOf jn,hf]
   simp
  ·cases h
theorem E5 {α:Type} (z:List α):∀ (n j:Nat),((axx n z).flatten)[j]? = if j<n * z.length then z[j % z.length]? else none
 | 0,j=>by simp
 | n+1,j=>by
   rw [axz,List.flatten_cons,List.getElem?_append]
   split
   ·rename_i h
    rw [Nat.mod_eq_of_lt h,if_pos (by rw [axH]; omega)]
   ·rename_i h
    rw [E5 z n (j - z.length)]
    have hm:(j - z.length) % z.length=j % z.length:=by
     conv=>rhs; rw [show j=(j - z.length)+z.length by omega]
     simp
    rw [hm,axH]
    by_cases h2:j - z.length<n * z.length
    ·rw [if_pos h2,if_pos (by omega)]
    ·rw [if_neg h2,if_neg (by omega)]
theorem SB {Γ:Env} {z:List NC} {zv:Array Value} (r:R2 (CR Γ) z zv.toList) (n:Nat):R2 (CR Γ) (aa' n z) ((Array.range (n * zv.size)).map (zv[· % zv.size]!)).toList:=by
 have hl:=r.length
 simp only [ayi] at hl
 refine R2.aiD ?_ fun j x hx=>?_
 ·simp [aa',hl]
 ·unfold aa' at hx
  rw [E5] at hx
  split at hx
  ·rename_i hj
   obtain ⟨u,hu,hr⟩:=r.get hx
   refine ⟨u,?_,hr⟩
   rw [hl] at hj hu
   have ff:j % zv.size<zv.size:=Nat.mod_lt _ (Nat.pos_of_ne_zero fun h=>by rw [h] at hj; simp at hj)
   simp only [Array.getElem?_toList] at hu
   rw [Array.getElem?_eq_getElem ff] at hu
   simp only [Option.some.injEq] at hu
   simp only [ayl,aym,ayn,List.getElem?_range hj,ayo]
   rw [getElem!_pos zv _ ff,hu]
  ·cases hx
theorem ox {P:Program} {w:World} {t e:TypeId} {i:TypeInfo} {v:Value} {len:Nat} {pv:Array (Nat × Value)} {cs:Array Value} (hu:P.underlying t=some (.slice e)) (hi:P.info? e=some i) (hv:i.zero=some v)
  (cS:v.cells.size=al P e) (h24:len * al P e<=16777216)
  (hf:Instr.fill (fun i=>some (i * al P e,al P e)) ((Array.range (len * al P e)).map (fun x=>v.cells[x % al P e]!)) pv.toList=some cs) :
  (Instr.buildSlice t len pv).run P w=.ok (.slice (some ⟨w.heap.size,0,none⟩) len len) (w.alloc (.cells cs e)):=by
 have aul:¬ (len * al P e > 2 ^ 24):=by omega
 by_cases hn:len * al P e=0
 ·simp only [hn,Array.range_zero',List.map_toArray,List.map_nil] at hf
  simp only [Instr.buildSlice,Sem.run_bind,run_underlying hu,Result.andThen_ok,run_sizeOf hi,hn,if_true,Array.range_zero',List.map_toArray,List.map_nil]
  rw [hf]
  simp [newRow]
 ·simp only [Instr.buildSlice,Sem.run_bind,run_underlying hu,Result.andThen_ok,run_sizeOf hi,aul,hn,if_false,Sem.run_pure,cC hi hv,cS]
  rw [hf]
  simp [newRow]
def ROk (Γ:Env) (s:St) (w:World) (run:Result Next):R1->Prop
 | .no=>True
 | .val c v=>bT c->∃ u,run=.ok (.value u) w∧b5 Γ v u
 | .new c g vf=>bT c->∃ u cs,run=.ok (.value u) (w.alloc (.cells cs g.e))∧bG Γ g.st g.body cs.toList∧
    ∀ nm,Γ.μ nm=none->b5 (Γ.add nm (cR.all w.heap.size g.st cs.size g.e)) (vf nm) u
 | .pH c n g=>bT c->∃ w',run=.ok .skip w'∧aQ Γ (putAt s.rg n (some g)) w'∧Wd w w'
theorem je:∀ {z:List NC} {ks:List CK},qM z=some ks->ks.length=z.length
 | [],ks,h=>by simp [qM] at h; subst h; rfl
 | x::z,ks,h=>by
   cases x <;> simp only [qM,reduceCtorEq] at h <;>
   ·split at h
    ·rename_i r hr
     cases h
     simp [je hr]
    ·cases h
theorem E6 {P:Program} {e:TypeId} {z:List NC} (n:Nat) (xs:List NC) (hz:zeroCells P e=some z) (hl:z.length=al P e):(gV P e n xs).1=al P e:=by
 have hk:∀ ks,xh P e=some ks->ks.length=al P e:=fun ks h=>by
  simp only [xh,hz] at h
  rw [je h,hl]
 unfold gV
 split
 ·rename_i k h
  have:=hk _ h
  simp only [List.length_singleton] at this
  split <;> exact this
 ·rename_i ks _ h
  have:=hk _ h
  split
  ·split
   ·exact this
   ·rfl
  ·rfl
 ·rfl
theorem oy {Γ:Env} {s:St} {w:World} {run:Result Next} {x:Option (List Bool × NS)} (h:∀ c v,x=some (c,v)->bT c->∃ u,run=.ok (.value u) w∧b5 Γ v u):ROk Γ s w run (zU x):=by
 cases x with
 | none=>trivial
 | some p=>exact h p.1 p.2 rfl
theorem AI {Γ:Env} {s:St} {a:Act} (dr:cO Γ s.fr a.tmps) {x:Option Operand} {y:Option NC} (h:xk s x=some y):Sw Γ y (x.map a.eval):=by
 unfold xk at h
 split at h
 ·cases h; rfl
 ·rename_i o
  split at h
  ·rename_i z hz
   cases h
   exact ⟨_,rfl,cD (aS dr o) hz⟩
  ·cases h
theorem AJ {Γ:Env} {s:St} {a:Act} (dr:cO Γ s.fr a.tmps) (parts:Array (Nat × Operand)) :
  ow Γ (parts.toList.map fun (i,x)=>(i,s.ev x)) (parts.map fun (i,x)=>(i,a.eval x)).toList:=by
 rw [ayl]
 exact R2.jh _ _ _ fun x=>⟨rfl,aS dr x.2⟩
theorem oz {Γ:Env} {nm:Nat} {w:World} {st sz:Nat} {e:TypeId}:b5 (Γ.add nm (cR.all w.heap.size st sz e)) (.v (.c (.p nm 0 0))) (.pointer (some ⟨w.heap.size,0,none⟩)):=
 ⟨⟨cR.all w.heap.size st sz e,Env.mH rfl,by simp [cR.o,cR.all]⟩,rfl⟩
theorem SC {P:Program} {s:St} {Γ:Env} {w:World} {a:Act} {o:Oper} {c:Call} (dr:cO Γ s.fr a.tmps) (less:Bool) (dk:o.op=.call c)
  (hcal:c.callee=.builtin (match less with | true=>.min | false=>.max)) {cc:List Bool} {v:NS} (h:nmm less s c.args.toList=some (cc,v)) :
  ∃ u,(execOp a.eval o).run P w=.ok (.value u) w∧b5 Γ v u:=by
 unfold nmm at h
 split at h
 case h_2=>cases h
 rename_i x y ha
 split at h
 case h_2=>cases h
 rename_i k m k' n hx hy
 cases h
 obtain ⟨callee,args,argTypes⟩:=c
 simp only at hcal ha
 subst hcal
 have ha' : args=#[x,y]:=by rw [<- ayp (xs:=args),ha]
 subst ha'
 have h1:=aS dr x
 have h2:=aS dr y
 rw [hx] at h1
 rw [hy] at h2
 have e1:a.eval x=.int k m:=h1.1
 have e2:a.eval y=.int k' n:=h2.1
 cases less with
 | true=>
   refine ⟨.int k (if n<m then n else m),?_,?_,rfl⟩
   ·simp [execOp,dk,resolve,invoke,builtin,e1,e2,Builtin.min_,Builtin.min2]
   ·show _=Value.int k (bif decide (n<m) then n else m)
    by_cases c:n<m <;> simp [c]
 | false=>
   refine ⟨.int k (if n > m then n else m),?_,?_,rfl⟩
   ·simp [execOp,dk,resolve,invoke,builtin,e1,e2,Builtin.max_,Builtin.max2]
   ·show _=Value.int k (bif decide (n > m) then n else m)
    by_cases c:n > m <;> simp [c]
theorem abj {P:Program} {s:St} {Γ:Env} {w:World} {a:Act} {o:Oper} {c:Call} (dr:cO Γ s.fr a.tmps) (dk:o.op=.call c)
  (hcal:c.callee=.builtin .cap) {cc:List Bool} {v:NS} (h:OU P s c.args.toList c.argTypes.toList=some (cc,v)) :
  ∃ u,(execOp a.eval o).run P w=.ok (.value u) w∧b5 Γ v u:=by
 unfold OU at h
 split at h
 case h_2=>cases h
 rename_i x t ha ht
 split at h
 case h_2=>cases h
 rename_i e hu hx
 cases h
 obtain ⟨callee,args,argTypes⟩:=c
 simp only at hcal ha ht
 subst hcal
 have ha' : args=#[x]:=by rw [<- ayp (xs:=args),ha]
 have E7 : argTypes=#[t]:=by rw [<- ayp (xs:=argTypes),ht]
 subst ha' E7
 have h1:=aS dr x
 rw [hx] at h1
 have e1:a.eval x=.slice none 0 0:=h1.1
 refine ⟨goInt 0,?_,⟨rfl,rfl⟩⟩
 simp [execOp,dk,resolve,invoke,builtin,e1,Builtin.cap_,run_underlying hu]
theorem xF {Γ:Env}:∀ {l:List NS} {t:List (Nat × Nat × Nat)} {vs:List Value},xm l=some t->R2 (b5 Γ) l vs->R2 (fun (x:Nat × Nat × Nat) u=>∃ B,Γ.pt x.1=some B∧u=.pointer (some ⟨B.ax,B.o+(x.2.1 * B.st+x.2.2),none⟩)) t vs
 | [],t,vs,h,r=>by simp [xm] at h; subst h; cases r; exact .nil
 | x::l,t,vs,h,r=>by
   unfold xm at h
   split at h
   ·rename_i heq; cases heq
   ·rename_i r' i c l' heq
    cases heq
    split at h
    ·rename_i t' ht
     cases h
     cases r with
     | cons r1 r2=>
       obtain ⟨⟨B,hB,hv⟩,-⟩:=r1
       exact .cons ⟨B,hB,hv⟩ (xF ht r2)
    ·cases h
   ·cases h
theorem Aa {P:Program} {gl:List Nat} {x:NC} {u:Value} {xt asserted:TypeId} {v:NS} {Γ:Env} {rg:List (Option aG)} {w:World} (hw:aQ Γ rg w) (hG:GlobOk gl Γ) (hx:CR Γ x u) (h:B9 P gl x asserted=some v) :
  ∃ z,(Instr.typeAssert u xt asserted true).run P w=.ok z w∧b5 Γ v z:=by
 have _:=hw
 have res:b5 Γ (.tu [.c .pn,.c (.b false)]) (.tuple #[.pointer none,.bool false]):=
  ⟨[.pointer none,.bool false],rfl,.cons ⟨rfl,rfl⟩ (.cons ⟨rfl,rfl⟩ .nil)⟩
 have zv:wH P asserted=true->(zeroValue asserted).run P w=.ok (.pointer none) w:=by
  intro hz
  unfold wH at hz
  split at hz
  ·rename_i i hi
   split at hz
   ·rename_i xG
    exact cC hi xG w
   ·cases hz
  ·cases hz
 unfold B9 at h
 split at h
 ·obtain ⟨rfl,-⟩:=hx
  split at h
  ·rename_i p hp hz
   cases h
   refine ⟨_,?_,res⟩
   unfold Instr.typeAssert
   simp [run_underlying hp,zv hz]
  ·cases h
 ·rename_i k
  split at h
  ·cases h
  ·rename_i hif
   simp only [ayq,not_or,Bool.not_eq_true,beq_eq_false_iff_ne,Bool.not_eq_false'] at hif
   obtain ⟨h2,h3⟩:=hif
   split at h
   ·rename_i p hp hz
    cases h
    obtain ⟨ad,c,e,fz,ca,ta,g1,-⟩:=hG.1 k (List.contains_iff_mem.1 h3)
    have hu:Γ.er k=some u:=hx.1
    rw [g1] at hu
    cases hu
    refine ⟨_,?_,res⟩
    unfold Instr.typeAssert
    generalize gl.headD 0=q at h2
    simp [run_underlying hp,zv hz,h2]
   ·cases h
 ·cases h
theorem AK (z:Array Value) (q:Nat):(madeCells z (q * z.size)).toList=(axx q z.toList).flatten:=by
 unfold madeCells
 simp only [ayl,aym]
 induction q with
 | zero=>simp
 | succ q ih=>
   rw [axH,Nat.add_comm,List.range_add,ayr,axz,List.flatten_cons]
   congr 1
   ·refine ays fun j=>?_
    rw [ayn]
    by_cases hj:j<z.size
    ·rw [List.getElem?_range hj,ayo,Nat.mod_eq_of_lt hj]
     simp [hj]
    ·rw [axD (by rw [List.length_range]; omega),axD (by simp; omega)]
     rfl
   ·rw [List.map_map,<- ih]
    congr 1
    funext i
    show z[(z.size+i) % z.size]! = z[i % z.size]!
    rw [Nat.add_mod_left]
theorem E8 {P:Program} {glob:List Nat} {s:St} {Γ:Env} {w:World} {a:Act} (hw:aQ Γ s.rg w) (hG:GlobOk glob Γ) (dr:cO Γ s.fr a.tmps) (o:Oper) :
  ROk Γ s w ((execOp a.eval o).run P w) (fG P glob s o.op):=by
 cases dk:o.op <;> simp only [fG]
 case move x=>exact fun _=>⟨a.eval x,by simp [execOp,dk],aS dr x⟩
 case assign x=>exact fun _=>⟨a.eval x,by simp [execOp,dk],aS dr x⟩
 case alloc t=>
  split
  case h_2=>trivial
  rename_i g hg
  intro _
  unfold EH at hg
  split at hg
  ·split at hg
   case h_2=>cases hg
   rename_i l hl
   cases hg
   obtain ⟨i,v,hi,hv,hzo,hz⟩:=iX hl
   refine ⟨.pointer (some ⟨w.heap.size,0,none⟩),v.cells,?_,⟨v.cells.toList,[],by simp,hz Γ,hzo⟩,fun nm _=>oz⟩
   simp [execOp,dk,Instr.alloc,cC hi hv,newVar,newRow]
  split at hg
  case h_2=>cases hg
  rename_i z hz
  cases hg
  obtain ⟨i,v,hi,hv,cS,hs⟩:=cr hz
  obtain ⟨hb,he⟩:=xv (Γ:=Γ) P t (cQ hs)
  refine ⟨.pointer (some ⟨w.heap.size,0,none⟩),v.cells,?_,hb,fun nm _=>oz⟩
  rw [he]
  simp [execOp,dk,Instr.alloc,cC hi hv,newVar,newRow]
 case box t x=>
  split
  case h_2=>trivial
  rename_i nv hnv
  split
  case isFalse=>trivial
  split
  case h_2=>trivial
  rename_i g hg
  intro _
  have hr:=iE (aS dr x) hnv
  have bE:(execOp a.eval o).run P w=.ok (.value (.pointer (some ⟨w.heap.size,0,none⟩))) (w.alloc (.cells (a.eval x).cells t)):=by simp [execOp,dk,Instr.box,newVar,newRow]
  unfold R4 at hg
  split at hg
  ·split at hg
   ·cases hg
    refine ⟨_,_,bE,⟨(a.eval x).cells.toList,[],by simp,hr.cells,hr.my.1⟩,fun nm _=>oz⟩
   ·split at hg
    case h_2=>cases hg
    rename_i l hl
    cases hg
    obtain ⟨h1,h2⟩:=mQ hl
    exact ⟨_,_,bE,⟨(a.eval x).cells.toList,[],by simp,by rw [h2]; exact hr.cells,h1⟩,fun nm _=>oz⟩
  cases hg
  obtain ⟨hb,he⟩:=xv (Γ:=Γ) P t hr.cells
  refine ⟨.pointer (some ⟨w.heap.size,0,none⟩),(a.eval x).cells,?_,hb,fun nm _=>oz⟩
  rw [he]
  simp [execOp,dk,Instr.box,newVar,newRow]
 case build t parts=>
  split
  case h_2=>trivial
  rename_i l hl
  intro _
  obtain ⟨u,bE,hr⟩:=z8 (w:=w) hl (AJ dr parts)
  exact ⟨u,by simp [execOp,dk,bE],hr⟩
 case buildSlice t len parts=>
  split
  case h_2=>trivial
  rename_i e hu
  split
  case h_2=>trivial
  rename_i z hz
  split
  case isFalse=>trivial
  rename_i hle
  split
  case h_2=>trivial
  rename_i l hl
  intro _
  obtain ⟨i,v,hi,hv,cS,hs⟩:=cr hz
  have hzl:z.length=al P e:=by rw [(cQ (Γ:=Γ) hs).length]; simpa using cS
  have hm:=SB (cQ (Γ:=Γ) hs) len
  rw [cS] at hm
  obtain ⟨cs,hf,hr⟩:=fA hl (AJ dr parts) hm
  have hlen:cs.size=len * al P e:=by
   have h1:∀ (ps:List (Nat × Value)) (c0 c1:Array Value),Instr.fill (fun i=>some (i * al P e,al P e)) c0 ps=some c1->c1.size=c0.size:=by
    intro ps
    induction ps with
    | nil=>intro c0 c1 h; simp [Instr.fill] at h; rw [h]
    | cons p ps ih=>
      intro c0 c1 h
      simp only [Instr.fill] at h
      split at h
      ·cases h
      ·rw [ih _ _ h]
       have:∀ (l:List (Value × Nat)) (q:Array Value),(l.foldl (fun (cs:Array Value) (x:Value × Nat)=>cs.setIfInBounds (p.1 * al P e+x.2) x.1) q).size=q.size:=by
        intro l
        induction l with
        | nil=>intro q; rfl
        | cons y l ihl=>intro q; rw [List.foldl_cons,ihl]; simp
       rw [<- ayj]
       exact this _ _
   rw [h1 _ _ _ hf]; simp
  refine ⟨.slice (some ⟨w.heap.size,0,none⟩) len len,cs,?_,rZ P e len hr,fun nm _=>⟨⟨_,0,len,Env.tT rfl rfl rfl,rfl,axB _,?_,?_⟩,rfl⟩⟩
  ·simp only [execOp,dk,Sem.run_bind,ox (w:=w) hu hi hv cS (by rw [<- hzl]; exact hle.1) hf,Result.andThen_ok,Sem.run_pure]
  ·simp only [maxLen]; omega
  ·left
   simp only [ayc,ayf,true_and,cR.aiE,cR.aiF]
   rw [E6 len l hz hzl,hlen]
 case load t x=>
  split
  case h_2=>trivial
  rename_i d y hu hy
  refine oy fun c v h hc=>?_
  obtain ⟨u,hr,hs⟩:=vd hw hG (by rw [hu]; rfl) (cD (aS dr x) hy) h hc
  exact ⟨u,by simp only [execOp,dk,Sem.run_bind,hr,Result.andThen_ok,Sem.run_pure],hs⟩
 case store t x y=>
  split
  case h_2=>trivial
  rename_i i nx ny hi hx hy
  split
  case h_2=>trivial
  rename_i c n g h
  intro hc
  obtain ⟨w',hr,h1,h2⟩:=Cq hw hi (cD (aS dr x) hx) (iE (aS dr y) hy) h hc
  exact ⟨w',by simp only [execOp,dk,Sem.run_bind,hr,Result.andThen_ok,Sem.run_pure],h1,h2⟩
 case nilCheck x=>
  have hr:=aS dr x
  split
  ·rename_i r i c he
   intro _
   rw [he] at hr
   have lz:=hr
   obtain ⟨⟨B,hB,hv⟩,-⟩:=lz
   exact ⟨a.eval x,by simp only [execOp,dk,hv]; rfl,hr⟩
  ·rename_i r o ww i c he
   intro _
   rw [he] at hr
   have lz:=hr
   obtain ⟨⟨B,hB,hv⟩,-⟩:=lz
   exact ⟨a.eval x,by simp only [execOp,dk,hv]; rfl,hr⟩
  ·rename_i k xs i he
   intro _
   rw [he] at hr
   have lz:=hr
   obtain ⟨⟨ax,off,hv,-⟩,-⟩:=lz
   exact ⟨a.eval x,by simp only [execOp,dk,hv]; rfl,hr⟩
  ·rename_i ks xs i c he
   intro _
   rw [he] at hr
   have lz:=hr
   obtain ⟨⟨ax,off,hv,-⟩,-⟩:=lz
   exact ⟨a.eval x,by simp only [execOp,dk,hv]; rfl,hr⟩
  ·rename_i sch xs i c he
   intro _
   rw [he] at hr
   have lz:=hr
   obtain ⟨⟨ax,off,vs,hv,-⟩,-⟩:=lz
   exact ⟨a.eval x,by simp only [execOp,dk,hv]; rfl,hr⟩
  ·rename_i g he
   intro _
   rw [he] at hr
   have lz:=hr
   obtain ⟨hv,-⟩:=lz
   exact ⟨a.eval x,by simp only [execOp,dk,show a.eval x=_ from hv]; rfl,hr⟩
  ·trivial
 case binOp op t x y yt=>
  split
  case h_2=>trivial
  rename_i p q hp hq
  split
  case h_2=>trivial
  rename_i c r h
  intro hc
  obtain ⟨z,hr,hs⟩:=E1 (P:=P) hw hG (cD (aS dr x) hp) (cD (aS dr y) hq) h hc
  exact ⟨z,by simp only [execOp,dk,Sem.run_bind (x:=(do eqGuard op t x y (a.eval x) (a.eval y); binOp op t (a.eval x) (a.eval y):Sem Value)),hr,Result.andThen_ok,Sem.run_pure],hs⟩
 case unOp op t x=>
  split
  case h_2=>trivial
  rename_i p hp
  split
  case h_2=>trivial
  rename_i r h
  intro _
  obtain ⟨z,hr,hs⟩:=O7 (P:=P) w (cD (aS dr x) hp) h
  exact ⟨z,by simp only [execOp,dk,Sem.run_bind,hr,Result.andThen_ok,Sem.run_pure],hs⟩
 case convert src dst x=>
  split
  ·rename_i k n hn
   split
   ·rename_i ds k' hs hd
    intro _
    obtain ⟨hv,-⟩:=cD (aS dr x) hn
    refine ⟨.int k' (k'.wrap n),?_,⟨rfl,rfl⟩⟩
    have hv' : a.eval x=.int k n:=hv
    simp only [execOp,dk,hv',convert,Sem.run_bind,run_underlying hs,run_underlying hd,Result.andThen_ok,Conv.intToInt,Sem.run_pure]
   ·trivial
  ·trivial
 case makeSlice t l c=>
  split
  case h_2=>trivial
  rename_i e n m hu hl hcp
  split
  case h_2=>trivial
  rename_i g hg
  intro hc
  have lJ : 0<=n∧n<=m∧m * bf P e<=140737488355328∧m<=9223372036854775807:=by simpa [bT] using hc
  obtain ⟨h0,h1,h2,h3⟩:=lJ
  obtain ⟨hv1,-⟩:=cD (aS dr l) hl
  obtain ⟨hv2,-⟩:=cD (aS dr c) hcp
  have aiH : a.eval l=.int .i64 n:=hv1
  have aiI : a.eval c=.int .i64 m:=hv2
  have key:∀ (z:NC),zeroCells P e=some [z]->∃ (u:Value),CR Γ z u∧
    (Instr.makeSlice t (.int .i64 n) (.int .i64 m)).run P w=.ok (.slice (some ⟨w.heap.size,0,none⟩) n.toNat m.toNat) (w.alloc (.cells (axx m.toNat u).toArray e)):=by
   intro z hz
   obtain ⟨i,v,hi,hv,cS,hs⟩:=cr hz
   obtain ⟨u,RI,EV⟩:=R2.one (cQ (Γ:=Γ) hs)
   have hvc:v.cells=#[u]:=by rw [<- ayp (xs:=v.cells),RI]
   have oA:i.size=1:=by
    have:al P e=1:=by rw [<- cS,hvc]; rfl
    simpa [al,hi] using this
   refine ⟨u,EV,?_⟩
   have AL:(i.bytes:Int) * m<=281474976710656:=by
    have:bf P e=i.bytes:=by simp [bf,hi]
    rw [this] at h2
    rw [Int.mul_comm]; omega
   rw [run_make w t e i v hu hi hv .i64 .i64 n m h0 h1 AL h3]
   congr 4
   rw [hvc,oA]
   apply Array.ext'
   simp only [madeCells,Nat.mul_one,ayl,aym]
   apply ays
   intro j
   by_cases hj:j<m.toNat
   ·simp [hj,Nat.mod_one]
   ·simp [hj]
  have SD:∀ (u:Value),axx m.toNat u=axx n.toNat u++axx (m.toNat - n.toNat) u:=fun u=>by
   rw [List.replicate_append_replicate]; congr 1; omega
  unfold Ly at hg
  split at hg
  ·rename_i k z hz
   cases hg
   obtain ⟨u,EV,bE⟩:=key _ hz
   have hu3:u=.int k z:=EV.1
   refine ⟨.slice (some ⟨w.heap.size,0,none⟩) n.toNat m.toNat,(axx m.toNat u).toArray,by simp only [execOp,dk,aiH,aiI,Sem.run_bind,bE,Result.andThen_ok,Sem.run_pure],⟨rfl,axx (m.toNat - n.toNat) u,?_⟩,fun nm _=>⟨⟨_,0,m.toNat,Env.tT rfl rfl rfl,rfl,by omega,by simp only [maxLen]; omega,.inl ?_⟩,rfl⟩⟩
   ·rw [SD,hu3]; simp
   ·simp
  ·rename_i z hz
   cases hg
   obtain ⟨u,EV,bE⟩:=key _ hz
   have hu3:u=.bool z:=EV.1
   refine ⟨.slice (some ⟨w.heap.size,0,none⟩) n.toNat m.toNat,(axx m.toNat u).toArray,by simp only [execOp,dk,aiH,aiI,Sem.run_bind,bE,Result.andThen_ok,Sem.run_pure],⟨rfl,by decide,axx (m.toNat - n.toNat) u,?_⟩,fun nm _=>⟨⟨_,0,m.toNat,Env.tT rfl rfl rfl,rfl,by omega,by simp only [maxLen]; omega,.inl ?_⟩,rfl⟩⟩
   ·have Pb:∀ q,aL [.b] (axx q [.b z])=axx q (Value.bool z):=fun q=>by
     unfold aL
     induction q with
     | zero=>rfl
     | succ q ih=>rw [axz,axz,axA,ih]; rfl
    rw [Pb,hu3]; exact SD _
   ·simp
  ·rename_i zs _ _ hz
   split at hg
   case h_2=>cases hg
   rename_i ks jc
   split at hg
   case h_2=>cases hg
   rename_i row mM
   split at hg
   case isFalse=>cases hg
   rename_i h1k
   cases hg
   obtain ⟨i,v,hi,hv,cS,hs⟩:=cr hz
   have hus:=jV (Γ:=Γ) mM (cQ hs)
   have oA:i.size=v.cells.size:=by
    rw [cS]
    simp [al,hi]
   have O6:ks.length=v.cells.size:=by
    rw [je jc,(cQ (Γ:=Γ) hs).length]
    simp
   have AL:(i.bytes:Int) * m<=281474976710656:=by
    have:bf P e=i.bytes:=by simp [bf,hi]
    rw [this] at h2
    rw [Int.mul_comm]; omega
   have bE:=run_make (P:=P) w t e i v hu hi hv .i64 .i64 n m h0 h1 AL h3
   rw [oA] at bE
   have Pb:∀ q,aL ks (axx q row)=(axx q v.cells.toList).flatten:=fun q=>by
    unfold aL
    rw [hus]
    induction q with
    | zero=>rfl
    | succ q ih=>rw [axz,axz,axA,ih,List.flatten_cons]
   refine ⟨.slice (some ⟨w.heap.size,0,none⟩) n.toNat m.toNat,madeCells v.cells (m.toNat * v.cells.size),by simp only [execOp,dk,aiH,aiI,Sem.run_bind,bE,Result.andThen_ok,Sem.run_pure],⟨rfl,by omega,aL ks (axx (m.toNat - n.toNat) row),?_⟩,fun nm _=>⟨⟨_,0,m.toNat,Env.tT rfl rfl rfl,rfl,by omega,by simp only [maxLen]; omega,.inl ?_⟩,rfl⟩⟩
   ·rw [AK,Pb,Pb,<- List.flatten_append,List.replicate_append_replicate]
    congr 2
    omega
   ·rw [size_madeCells,O6]
    simp
  ·cases hg
 case slice t x lo hi mx=>
  cases mx with
  | some _=>trivial
  | none=>
    simp only
    split
    case h_2=>trivial
    rename_i p pl ph hp hl hh
    refine oy fun c v h hc=>?_
    obtain ⟨z,hr,hs⟩:=Ct hw (cD (aS dr x) hp) (AI dr hl) (AI dr hh) h hc
    exact ⟨z,by simp only [execOp,dk,Option.map_none,Sem.run_bind,hr,Result.andThen_ok,Sem.run_pure],hs⟩
 case fieldAddr t x f=>
  split
  ·rename_i r i c o ft hx hf
   intro _
   obtain ⟨⟨B,hB,hv⟩,-⟩:=cD (aS dr x) hx
   refine ⟨.pointer (some ⟨B.ax,B.o+(i * B.st+c)+o,none⟩),by simp only [execOp,dk,hv,Sem.run_bind,kI hf,Result.andThen_ok,Sem.run_pure],⟨⟨B,hB,by rw [aye,aye]⟩,rfl⟩⟩
  ·rename_i r q ww i c o ft hx hf
   intro _
   obtain ⟨⟨B,hB,hv⟩,-⟩:=cD (aS dr x) hx
   refine ⟨.pointer (some ⟨B.ax,B.o+(q+i * ww+c)+o,none⟩),by simp only [execOp,dk,hv,Sem.run_bind,kI hf,Result.andThen_ok,Sem.run_pure],⟨⟨B,hB,by rw [aye B.o,aye (q+_)]⟩,rfl⟩⟩
  ·rename_i ks xs i c o ft hx hf
   intro _
   obtain ⟨⟨ax,off,hv,dK⟩,-⟩:=cD (aS dr x) hx
   refine ⟨.pointer (some ⟨ax,off+i * ks.length+c+o,none⟩),by simp only [execOp,dk,hv,Sem.run_bind,kI hf,Result.andThen_ok,Sem.run_pure],⟨⟨ax,off,by rw [aye (off+_)],dK⟩,rfl⟩⟩
  ·rename_i sch xs i c o ft hx hf
   intro _
   obtain ⟨⟨ax,off,vs,hv,h0,hk,dK⟩,-⟩:=cD (aS dr x) hx
   refine ⟨.pointer (some ⟨ax,off+(i * aO sch+c)+o,none⟩),by simp only [execOp,dk,hv,Sem.run_bind,kI hf,Result.andThen_ok,Sem.run_pure],⟨⟨ax,off,vs,by rw [aye off,aye (i * _)],h0,hk,dK⟩,rfl⟩⟩
  ·trivial
 case field t x f=>
  split
  case h_3=>trivial
  case h_2=>
   rename_i l o ft hx hf
   split
   case h_2=>trivial
   rename_i d hd
   split
   case h_2=>trivial
   rename_i v hv
   intro _
   have hr:=aS dr x
   rw [hx] at hr
   obtain ⟨vs,he,hr,fI⟩:=hr
   have hg:=ji fI hv
   obtain ⟨fs,fx,fi,hu,hfx,rfl,rfl,hi,hs⟩:=lh hf
   cases ha:b4 P fx.type with
   | true=>
     obtain ⟨g1,g2,g3,g4⟩:=hg.all ha
     have lz : R2 (CR Γ) v.cells ((vs.drop fx.offset).take (al P fx.type)):=g1 ▸ (hr.drop _).take _
     refine ⟨.agg ((vs.drop fx.offset).take (al P fx.type)).toArray,?_,iZ lz g3 g4⟩
     simp [execOp,dk,he,Instr.field,run_underlying hu,hfx,part,dI hd,ha,asAgg,run_sizeOf hi]
   | false=>
     obtain ⟨y,gy,g1⟩:=hg.one ha
     obtain ⟨z,hz,lz⟩:=hr.get g1
     refine ⟨z,?_,by rw [gy]; exact lz⟩
     simp [execOp,dk,he,Instr.field,run_underlying hu,hfx,part,dI hd,ha,asAgg,hz]
  rename_i xs o ft hx hf
  split
  case h_2=>trivial
  rename_i d hd
  have hr:=aS dr x
  rw [hx] at hr
  obtain ⟨vs,hv,hr⟩:=hr
  obtain ⟨h1,h2⟩:=O8 (P:=P) (w:=w) hf hr
  split
  ·rename_i ha
   split
   ·rename_i l hl
    intro _
    obtain ⟨z,hz,hs⟩:=h1 l ha (by rw [hd]; rfl) hl
    exact ⟨z,by simp only [execOp,dk,hv,Sem.run_bind,hz,Result.andThen_ok,Sem.run_pure],hs⟩
   ·trivial
  ·rename_i ha
   split
   ·rename_i y hy
    intro _
    obtain ⟨z,hz,hs⟩:=h2 y (by simpa using ha) (by rw [hd]; rfl) hy
    exact ⟨z,by simp only [execOp,dk,hv,Sem.run_bind,hz,Result.andThen_ok,Sem.run_pure],hs⟩
   ·trivial
 case indexAddr t x ix=>
  split
  case h_2=>trivial
  rename_i p q hp hq
  refine oy fun c v h hc=>?_
  obtain ⟨z,hr,hs⟩:=tX hw (cD (aS dr x) hp) (cD (aS dr ix) hq) h hc
  exact ⟨z,by simp only [execOp,dk,Sem.run_bind,hr,Result.andThen_ok,Sem.run_pure],hs⟩
 case sliceToArrayPointer t x=>
  split
  case h_2=>trivial
  rename_i n e r off len hu hx
  split
  case isFalse=>trivial
  rename_i h0
  intro hc
  have hc:n<=len:=by simpa [bT] using hc
  obtain ⟨⟨B,o,cap,hB,hv,eQ,nV,dh⟩,-⟩:=cD (aS dr x) hx
  have ho:o=off * B.st:=by
   rcases dh with h | h
   ·exact h.1
   ·omega
  have hr:(Instr.arrayAt t (a.eval x)).run P w=.ok (.pointer (some ⟨B.ax,o,none⟩)) w:=by
   rw [hv]
   simp [Instr.arrayAt,run_underlying hu,show ¬ len<n by omega]
  exact ⟨.pointer (some ⟨B.ax,o,none⟩),by simp only [execOp,dk,Sem.run_bind,hr,Result.andThen_ok,Sem.run_pure],⟨⟨B,Env.gY hB,by rw [ho,ax9,Env.Sf hB,ayf]⟩,rfl⟩⟩
 case index t x ix=>
  split
  case h_2=>trivial
  rename_i q hq
  refine oy fun c v h hc=>?_
  obtain ⟨z,hr,hs⟩:=Cu (P:=P) (w:=w) (aS dr x) (cD (aS dr ix) hq) h hc
  exact ⟨z,by simp only [execOp,dk,Sem.run_bind,hr,Result.andThen_ok,Sem.run_pure],hs⟩
 case makeFunc fn first caps=>
  cases fn
  case func f=>
   simp only
   split
   case isFalse=>trivial
   rename_i h0
   split
   case h_2=>trivial
   rename_i l hl
   intro _
   have hf:first=#[]:=Array.eq_empty_of_size_eq_zero h0
   refine ⟨.func (.func f) #[] (caps.map a.eval),by simp [execOp,dk,hf,Instr.makeFunc],⟨caps.toList.map a.eval,?_,?_⟩,rfl⟩
   ·congr 1
    apply Array.ext'
    simp
   ·exact xF hl (R2.jh _ _ _ fun x=>aS dr x)
  all_goals trivial
 case typeAssert x xt asserted ok=>
  cases ok
  ·trivial
  ·simp only
   split
   case h_2=>trivial
   rename_i p hp
   split
   case h_2=>trivial
   rename_i v hv
   intro _
   obtain ⟨z,hr,hs⟩:=Aa (P:=P) (xt:=xt) hw hG (cD (aS dr x) hp) hv
   exact ⟨z,by simp only [execOp,dk,Sem.run_bind,hr,Result.andThen_ok,Sem.run_pure],hs⟩
 case extract x i=>
  have hr:=aS dr x
  split
  ·rename_i l hx
   split
   ·rename_i v hv
    intro _
    rw [hx] at hr
    obtain ⟨vs,he,hr⟩:=hr
    obtain ⟨u,hu,hs⟩:=hr.get hv
    exact ⟨u,by simp [execOp,dk,he,Instr.extract,hu],hs⟩
   ·trivial
  ·trivial
 case call c=>
  split
  case h_5=>trivial
  case h_2 hcal=>
   refine oy fun cc v h hc=>?_
   exact abj dr dk hcal h
  case h_3 hcal=>
   refine oy fun cc v h hc=>?_
   exact SC dr true dk hcal h
  case h_4 hcal=>
   refine oy fun cc v h hc=>?_
   exact SC dr false dk hcal h
  rename_i hcal
  refine oy fun cc v h hc=>?_
  unfold R7 at h
  split at h
  case h_2=>cases h
  rename_i x t ha ht
  obtain ⟨callee,args,argTypes⟩:=c
  simp only at hcal ha ht
  subst hcal
  have ha' : args=#[x]:=by rw [<- ayp (xs:=args),ha]
  have E7 : argTypes=#[t]:=by rw [<- ayp (xs:=argTypes),ht]
  subst ha' E7
  have hr:=aS dr x
  have fin:∀ (n:Nat),(Builtin.len_ #[t] o.type #[a.eval x]).run P w=.ok (goInt n) w->∃ u,(execOp a.eval o).run P w=.ok (.value u) w∧b5 Γ (.v (.c (.i .i64 n))) u:=by
   intro n hn
   refine ⟨goInt n,?_,⟨rfl,rfl⟩⟩
   simp only [execOp,dk,resolve,Sem.run_bind,Sem.run_pure,Result.andThen_ok,invoke,builtin,List.map_toArray,List.map_cons,List.map_nil,hn]
  split at h
  ·rename_i e r off n hu hx
   cases h
   rw [hx] at hr
   obtain ⟨⟨B,oo,cap,hB,hv,-⟩,-⟩:=hr
   exact fin n (by simp [Builtin.len_,run_underlying hu,hv])
  ·rename_i e r o ww i n hu hx
   cases h
   rw [hx] at hr
   obtain ⟨⟨B,ad,cap,hB,hv,-⟩,-⟩:=hr
   exact fin n (by simp [Builtin.len_,run_underlying hu,hv])
  ·rename_i e r n hu hx
   cases h
   rw [hx] at hr
   obtain ⟨⟨hn,hv,-⟩ | ⟨B,o,cap,hB,hv,-⟩,-⟩:=hr
   ·rw [hn]
    exact fin 0 (by simp [Builtin.len_,run_underlying hu,hv])
   ·exact fin n (by simp [Builtin.len_,run_underlying hu,hv])
  ·rename_i e k xs hu hx
   cases h
   rw [hx] at hr
   obtain ⟨⟨aa,cap,hv,-⟩,-⟩:=hr
   exact fin xs.length (by simp [Builtin.len_,run_underlying hu,hv])
  ·rename_i e ks xs hu hx
   cases h
   rw [hx] at hr
   obtain ⟨⟨aa,cap,hv,-⟩,-⟩:=hr
   exact fin xs.length (by simp [Builtin.len_,run_underlying hu,hv])
  ·rename_i e sch xs hu hx
   cases h
   rw [hx] at hr
   obtain ⟨⟨aa,cap,hv,-⟩,-⟩:=hr
   exact fin xs.length (by simp [Builtin.len_,run_underlying hu,hv])
  ·rename_i e hu hx
   cases h
   rw [hx] at hr
   obtain ⟨hv,-⟩:=hr
   exact fin 0 (by simp [Builtin.len_,run_underlying hu,show a.eval x=_ from hv])
  ·rename_i z hu hx
   cases h
   rw [hx] at hr
   obtain ⟨hv,-⟩:=hr
   exact fin z.size (by simp [Builtin.len_,run_underlying hu,show a.eval x=_ from hv])
  ·rename_i _ n e hu
   cases h
   exact fin n (by simp [Builtin.len_,run_underlying hu])
  ·cases h
 all_goals trivial
structure Ext (Γ:Env) (w:World) (Γ' : Env):Prop where
 le:Γ.le Γ'
 ro:∀ b,Γ'.ro b=true->Γ.ro b=true∨w.heap.size<=b∨∃ n B,Γ.pt n=some B∧B.ax=b
 nw:∀ n B,Γ'.pt n=some B->w.heap.size<=B.ax∨∃ n' B',Γ.pt n'=some B'∧B'.ax=B.ax
theorem Ext.refl (Γ:Env) (w:World):Ext Γ w Γ:=⟨Env.le.refl Γ,fun _ h=>.inl h,fun n B h=>.inr ⟨n,B,h,rfl⟩⟩
theorem Ext.trans {a b c:Env} {w w' : World} (hw:Wd w w') (h:Ext a w b) (k:Ext b w' c):Ext a w c:=by
 refine ⟨h.le.trans k.le,fun x hx=>?_,fun n B hB=>?_⟩
 ·rcases k.ro x hx with h1 | h1 | ⟨n,B,h1,rfl⟩
  ·exact h.ro x h1
  ·exact .inr (.inl (Nat.le_trans hw.size h1))
  ·rcases h.nw n B h1 with h2 | h2
   ·exact .inr (.inl h2)
   ·exact .inr (.inr h2)
 ·rcases k.nw n B hB with h1 | ⟨n',B',h1,h2⟩
  ·exact .inl (Nat.le_trans hw.size h1)
  ·rw [<- h2]; exact h.nw n' B' h1
theorem Ext.add {Γ:Env} {w:World} {nm:Nat} {B:cR} (h:Γ.μ nm=none) (hb:B.gh=false->w.heap.size<=B.ax∨∃ n' B',Γ.pt n'=some B'∧B'.ax=B.ax):Ext Γ w (Γ.add nm B):=by
 refine ⟨Γ.jq nm B h,fun b hb=>.inl hb,fun n B' hn=>?_⟩
 by_cases e:n=nm
 ·subst e
  obtain ⟨h1,h2⟩:=Env.bt.1 hn
  rw [Env.dq] at h1
  cases h1
  exact hb h2
 ·rw [Env.cw e] at hn
  exact .inr ⟨n,B',hn,rfl⟩
theorem Wd.alloc (w:World) (c:Array Value) (t:TypeId):Wd w (w.alloc (.cells c t)):=⟨rfl,rfl,rfl,by simp⟩
def cK.bF:cK->List Value
 | .ints k xs=>xs.map (.int k)
 | .aA ks xs=>aL ks xs
def cK.w:cK->Nat
 | .ints _ _=>1
 | .aA ks _=>ks.length
theorem cK.fj (x:cK):x.bF.length=x.length * x.w:=by
 cases x with
 | ints k xs=>simp [cK.bF,cK.length,cK.w]
 | aA ks xs=>simp [cK.bF,cK.length,cK.w,bB]
theorem cK.E9 (x:cK):∀ u∈x.bF,u.oneCell'=true:=by
 cases x with
 | ints k xs=>intro u hu; simp only [cK.bF,ayt] at hu; obtain ⟨n,-,rfl⟩:=hu; rfl
 | aA ks xs=>exact (qR ⟨fun _=>none,fun _=>none,fun _=>false,fun _=>none⟩ ks xs).sa
theorem cK.Fa {x y z:cK} (h:x.app y=some z):z.bF=x.bF++y.bF∧z.length=x.length+y.length∧z.w=x.w∧∀ e,(z.bK e).st=z.w:=by
 cases x <;> cases y <;> simp only [cK.app,reduceCtorEq] at h
 ·split at h
  ·rename_i e; cases h; subst e; exact ⟨by simp [cK.bF],by simp [cK.length],rfl,fun _=>rfl⟩
  ·cases h
 ·split at h
  ·rename_i e; cases h; subst e; exact ⟨by simp [cK.bF,aL],by simp [cK.length],rfl,fun _=>rfl⟩
  ·cases h
theorem cK.AO {P:Program} {e:TypeId} {x:cK} (h:x.fits P e=true):∃ i v,P.info? e=some i∧i.zero=some v∧v.cells.size=i.size∧i.size=x.w∧0<x.w∧i.bytes=bf P e:=by
 have key:∀ ks,xh P e=some ks->∃ i v,P.info? e=some i∧i.zero=some v∧v.cells.size=i.size∧i.size=ks.length∧i.bytes=bf P e:=by
  intro ks jc
  unfold xh at jc
  split at jc
  ·rename_i z hz
   obtain ⟨i,v,hi,hv,cS,hs⟩:=cr hz
   have h1:i.size=al P e:=by simp [al,hi]
   refine ⟨i,v,hi,hv,by rw [h1]; exact cS,?_,by simp [bf,hi]⟩
   rw [je jc,(cQ (Γ:=⟨fun _=>none,fun _=>none,fun _=>false,fun _=>none⟩) hs).length,h1,<- cS]; simp
  ·cases jc
 cases x with
 | ints k xs=>
   simp only [cK.fits,decide_eq_true_eq] at h
   obtain ⟨i,v,h1,h2,h3,h4,h5⟩:=key _ h
   exact ⟨i,v,h1,h2,h3,h4,Nat.one_pos,h5⟩
 | aA ks xs=>
   simp only [cK.fits,ayu,decide_eq_true_eq] at h
   obtain ⟨i,v,h1,h2,h3,h4,h5⟩:=key _ h.1
   exact ⟨i,v,h1,h2,h3,h4,h.2,h5⟩
theorem cK.Cw (Γ:Env) (x:cK) (e:TypeId) (l2:List Value) (h0:0<x.w):bG Γ (x.bK e).st (x.bK e).body (x.bF++l2)∧(x.bK e).e=e∧(x.bK e).st=x.w:=by
 cases x with
 | ints k xs=>exact ⟨⟨rfl,l2,rfl⟩,rfl,rfl⟩
 | aA ks xs=>exact ⟨⟨rfl,h0,l2,rfl⟩,rfl,rfl⟩
theorem iG {s:St} {Γ:Env} {w:World} {y:NC} {v:Value} {c:List Bool} {ys:cK} (hw:aQ Γ s.rg w) (hy:CR Γ y v) (h:nL s y=some (c,ys)) (hc:bT c) :
  ∃ a cap,v=.slice a ys.length cap∧ys.length<=cap∧(ys.length=0∨∃ ax off,a=some ⟨ax,off,none⟩∧∀ j u,ys.bF[j]? = some u->w.cell? ⟨ax,off+j,none⟩=some u):=by
 unfold nL at h
 split at h
 ·rename_i r off len
  obtain ⟨⟨B,o,cap,hB,rfl,eQ,nV,dh⟩,-⟩:=hy
  split at h
  case h_2=>cases h
  rename_i g hg
  obtain ⟨cs,hcs,fv,cS,aH⟩:=hw.Cg hB ((bS s r g).1 hg)
  split at h
  ·rename_i k xs hb
   cases h
   rw [hb] at aH
   obtain ⟨h1,l2,hl⟩:=aH
   have hlen:off+len<=xs.length:=by simpa [bT] using hc
   have e1:(cK.ints k ((xs.drop off).take len)).length=len:=by simp [cK.length]; omega
   rw [e1]
   refine ⟨_,cap,rfl,eQ,?_⟩
   rcases dh with ⟨rfl,-⟩ | h0
   ·right
    refine ⟨B.ax,off * B.st,rfl,fun j u hj=>?_⟩
    refine dV hcs ?_
    rw [hl,fv,h1,Nat.mul_one]
    refine aV ?_
    simp only [cK.bF,ax2,List.map_drop] at hj
    exact bU hj
   ·left; omega
  ·rename_i ks xs hb
   cases h
   rw [hb] at aH
   obtain ⟨h1,So,l2,hl⟩:=aH
   have hlen:off+len<=xs.length:=by simpa [bT] using hc
   have e1:(cK.aA ks ((xs.drop off).take len)).length=len:=by simp [cK.length]; omega
   rw [e1]
   refine ⟨_,cap,rfl,eQ,?_⟩
   rcases dh with ⟨rfl,-⟩ | h0
   ·right
    refine ⟨B.ax,off * B.st,rfl,fun j u hj=>?_⟩
    refine dV hcs ?_
    rw [hl,fv,h1]
    refine aV ?_
    simp only [cK.bF] at hj
    rw [<- eF,<- gu] at hj
    exact bU hj
   ·left; omega
  ·cases h
  ·cases h
  ·cases h
  ·cases h
 ·rename_i r o ww i len
  obtain ⟨⟨B,ad,cap,hB,rfl,eQ,nV,eL⟩,-⟩:=hy
  split at h
  case h_2=>cases h
  rename_i g hg
  split at h
  case h_2=>cases h
  rename_i l hb
  obtain ⟨cs,hA⟩:=hw.at hB ((bS s r g).1 hg) (by rw [hb]; rfl)
  have aH:=hA.body
  rw [hb] at aH
  have hse:=kH aH.lK h hc
  obtain ⟨l1,l2,hl,hr,-⟩:=aH
  have lg:=(hr.drop (o+i * ww)).take (len * ww)
  have key:ys.length=len∧(l1.drop (o+i * ww)).take (len * ww)=ys.bF:=by
   rcases hse with ⟨k,xs,rfl,hw1,wM,he⟩ | ⟨ks,xs,rfl,hw1,h0,wM,he⟩
   ·rw [he] at lg
    exact ⟨wM,kC lg⟩
   ·rw [he] at lg
    exact ⟨wM,kB lg⟩
  rw [key.1]
  refine ⟨_,cap,rfl,eQ,?_⟩
  rcases eL with rfl | h0
  ·right
   refine ⟨B.ax,_,rfl,fun j u hj=>?_⟩
   rw [<- key.2] at hj
   rw [aye]
   refine hA.cell ?_
   rw [hl]
   exact aV (bU hj)
  ·left; omega
 ·rename_i r len
  obtain ⟨hy,-⟩:=hy
  split at h
  case h_2=>cases h
  rename_i g hg
  rcases hy with ⟨rfl,rfl,-⟩ | ⟨B,o,cap,hB,rfl,eQ,nV,dh⟩
  ·split at h
   ·cases h
    exact ⟨none,0,rfl,axB _,.inl rfl⟩
   ·cases h
    exact ⟨none,0,rfl,axB _,.inl rfl⟩
   ·cases h
  obtain ⟨cs,hcs,fv,cS,aH⟩:=hw.Cg hB ((bS s r g).1 hg)
  split at h
  ·rename_i k xs hb
   cases h
   rw [hb] at aH
   obtain ⟨h1,l2,hl⟩:=aH
   have hlen:len<=xs.length:=by simpa [bT] using hc
   have e1:(cK.ints k (xs.take len)).length=len:=by simp [cK.length]; omega
   rw [e1]
   refine ⟨_,cap,rfl,eQ,?_⟩
   rcases dh with ⟨rfl,-⟩ | hc0
   rotate_left
   ·left; omega
   refine .inr ⟨B.ax,_,rfl,fun j u hj=>dV hcs ?_⟩
   rw [hl,ayc]
   refine aV ?_
   simp only [cK.bF,ax2] at hj
   rw [ayf]
   rw [axQ] at hj
   split at hj
   ·exact hj
   ·cases hj
  ·rename_i ks xs hb
   cases h
   rw [hb] at aH
   obtain ⟨h1,So,l2,hl⟩:=aH
   have hlen:len<=xs.length:=by simpa [bT] using hc
   have e1:(cK.aA ks (xs.take len)).length=len:=by simp [cK.length]; omega
   rw [e1]
   refine ⟨_,cap,rfl,eQ,?_⟩
   rcases dh with ⟨rfl,-⟩ | hc0
   rotate_left
   ·left; omega
   refine .inr ⟨B.ax,_,rfl,fun j u hj=>dV hcs ?_⟩
   rw [hl,ayc]
   refine aV ?_
   simp only [cK.bF] at hj
   rw [<- eF] at hj
   rw [ayf]
   rw [axQ] at hj
   split at hj
   ·exact hj
   ·cases hj
  ·cases h
 ·rename_i k xs
  cases h
  obtain ⟨⟨a,cap,rfl,eQ,dK⟩,-⟩:=hy
  refine ⟨a,cap,rfl,eQ,?_⟩
  rcases dK with rfl | ⟨ax,off,rfl,dK⟩
  ·left; rfl
  ·right; exact ⟨ax,off,rfl,fun j u hj=>dK.cell hw hj⟩
 ·rename_i ks xs
  cases h
  obtain ⟨⟨a,cap,rfl,eQ,jc,dK⟩,-⟩:=hy
  refine ⟨a,cap,rfl,eQ,?_⟩
  rcases dK with rfl | ⟨ax,off,rfl,dK⟩
  ·left; rfl
  ·right; exact ⟨ax,off,rfl,fun j u hj=>dK.cell hw hj⟩
 ·cases h
section
variable {P:Program} {w:World} {t ty e:TypeId} {i:TypeInfo} {z:Value}
theorem cu (ht:P.underlying t=some (.slice e)) (hi:P.info? e=some i) (b a:Option Addr) (n c cap:Nat) (h:n<=c) :
  (Builtin.append_ #[t,t] ty #[.slice b n c,.slice a 0 cap]).run P w=.ok (.slice b n c) w:=by
 cases a with
 | none=>cases b <;> simp [Builtin.append_,run_underlying ht,sizeOf,typeInfo,hi,Builtin.lenOf,Builtin.firstCells,h,storeCells]
 | some a=>cases b <;> simp [Builtin.append_,run_underlying ht,sizeOf,typeInfo,hi,Builtin.lenOf,Builtin.firstCells,h,storeCells,loadCells,loadCellsFrom]
structure oC (w:World) (old:Option Nat) (e:TypeId) (size n:Nat) (bF:List Value) (v:Value) (w' : World):Prop where
 row:∃ ax o cap cur,v=.slice (some ⟨ax,o,none⟩) n cap∧w'.heap[ax]? = some (.cells cur e (0,0))∧n<=cap∧cap<=maxLen∧(o=0∧cur.size=cap * size∨cap=0)∧(∃ l2,cur.toList=bF++l2)∧
  (old=some ax∨(w.heap.size<=ax∧ax<w'.heap.size))
 keep:∀ b,b<w.heap.size->old≠some b->w'.heap[b]? = w.heap[b]?
 wd:Wd w w'
theorem gH (hz:i.zero=some z) (wN:z.cells.size=i.size) {olds news:List Value} {n m G:Nat} (hlo:olds.length=n * i.size) (hln:news.length=m * i.size) (hG:n+m<=G) (hGm:G<=maxLen) (old:Option Nat) :
  oC w old e i.size (n+m) (olds++news) (.slice (some ⟨w.heap.size,0,none⟩) (n+m) G) (w.drew.alloc (.cells (olds.toArray++news.toArray++Builtin.zeroCells z.cells (G - (n+m))) e)):=by
 have _:=hz
 refine ⟨⟨w.heap.size,0,G,_,rfl,heap_alloc_new w.drew _,hG,hGm,.inl ⟨rfl,?_⟩,⟨(Builtin.zeroCells z.cells (G - (n+m))).toList,by simp⟩,.inr ⟨axB _,by simp⟩⟩,fun b hb _=>dw w.drew _ _ hb,⟨rfl,rfl,rfl,by simp⟩⟩
 simp only [Array.size_append,List.size_toArray,size_zeroCells,wN,hlo,hln,<- Nat.add_mul]
 congr 1
 omega
theorem wO (ht:P.underlying t=some (.slice e)) (hi:P.info? e=some i) (hz:i.zero=some z) (wN:z.cells.size=i.size)
  {a:Addr} {m c:Nat} {news:List Value} (hl:news.length=m * i.size) (AQ:∀ j u,news[j]? = some u->w.cell? (a.add j)=some u) (hm:0<m)
  (hb:m * i.bytes<=140737488355328) (h63:m<=9223372036854775807) :
  ∃ v w',(Builtin.append_ #[t,t] ty #[.slice none 0 0,.slice (some a) m c]).run P w=.ok v w'∧oC w none e i.size m news v w':=by
 have hr:=run_append_nil (P:=P) w t ty e i z ht hi hz a m c news hl AQ hm (by omega) (by omega)
 refine ⟨_,_,hr,?_⟩
 have:=gH (w:=w) (e:=e) hz wN (olds:=[]) (n:=0) (m:=m) (G:=grownCap w m 0 e) (by simp) hl (by simpa using grownCap_ge w m 0 e) (grownCap_le_maxLen w m 0 e (by simp only [maxLen]; omega)) none
 simpa using this
theorem LH (ht:P.underlying t=some (.slice e)) (hi:P.info? e=some i) (hz:i.zero=some z) (wN:z.cells.size=i.size)
  {ax n cap:Nat} {cur:Array Value} (hg:w.heap[ax]? = some (.cells cur e (0,0))) {olds l2:List Value} (SE:cur.toList=olds++l2) (hlo:olds.length=n * i.size) (hcs:cur.size=cap * i.size) (nV:cap<=maxLen)
  {a:Addr} {m c:Nat} {news:List Value} (hl:news.length=m * i.size) (AQ:∀ j u,news[j]? = some u->w.cell? (a.add j)=some u) (h1:∀ u∈news,u.oneCell'=true)
  (hb:(n+m) * i.bytes<=140737488355328) (h63:n+m<=9223372036854775807) :
  ∃ v w',(Builtin.append_ #[t,t] ty #[.slice (some ⟨ax,0,none⟩) n cap,.slice (some a) m c]).run P w=.ok v w'∧oC w (some ax) e i.size (n+m) (olds++news) v w':=by
 by_cases vi:n+m<=cap
 ·have eS:n * i.size+news.length<=cur.size:=by rw [hl,hcs,<- Nat.add_mul]; exact Nat.mul_le_mul_right _ vi
  have hr:=run_append_room (P:=P) w t ty e i ht hi ax n cap cur hg a m c news hl AQ h1 vi eS
  refine ⟨_,_,hr,⟨⟨ax,0,cap,_,rfl,setRow_heap w ax cur _ e _ hg,vi,nV,.inl ⟨rfl,?_⟩,?_,.inl rfl⟩,fun b hb b9=>setRow_other w ax b _ (fun h=>b9 (by rw [h])),⟨rfl,rfl,rfl,by simp⟩⟩⟩
  ·simp only [List.size_toArray,axG,ax7,ax1,ayi]
   omega
  ·refine ⟨cur.toList.drop (n * i.size+news.length),?_⟩
   have:cur.toList.take (n * i.size)=olds:=by rw [SE,axW (by omega),axN (by omega)]
   simp only [this]
 ·have holds:∀ j u,olds[j]? = some u->w.cell? ((⟨ax,0,none⟩:Addr).add j)=some u:=fun j u hj=>by
   rw [Addr.add_lit]
   exact dV hg (by rw [SE,ayf]; exact aV hj)
  have hr:=run_append_grow (P:=P) w t ty e i z ht hi hz ⟨ax,0,none⟩ n cap olds hlo holds a m c news hl AQ (by omega) (by omega) (growslice_fits (by omega) hb)
  exact ⟨_,_,hr,gH hz wN hlo hl (grownCap_ge w (n+m) cap e) (grownCap_le_maxLen w (n+m) cap e (by simp only [maxLen]; omega)) (some ax)⟩
theorem AR (ht:P.underlying t=some (.slice e)) (hi:P.info? e=some i) (hz:i.zero=some z) (wN:z.cells.size=i.size) (b:Addr)
  {a:Addr} {m c:Nat} {news:List Value} (hl:news.length=m * i.size) (AQ:∀ j u,news[j]? = some u->w.cell? (a.add j)=some u) (hm:0<m)
  (hb:m * i.bytes<=140737488355328) (h63:m<=9223372036854775807) (old:Option Nat) :
  ∃ v w',(Builtin.append_ #[t,t] ty #[.slice (some b) 0 0,.slice (some a) m c]).run P w=.ok v w'∧oC w old e i.size m news v w':=by
 have hr:=run_append_grow (P:=P) w t ty e i z ht hi hz b 0 0 [] (by simp) (by simp) a m c news hl AQ (by omega) (by omega) (by simpa using growslice_fits (old:=0) (by omega) hb)
 refine ⟨_,_,hr,?_⟩
 have:=gH (w:=w) (e:=e) hz wN (olds:=[]) (n:=0) (m:=m) (G:=grownCap w (0+m) 0 e) (by simp) hl (grownCap_ge w (0+m) 0 e) (grownCap_le_maxLen w (0+m) 0 e (by simp only [maxLen]; omega)) old
 simpa using this
end
theorem dv (l:List (Option aG)) (n:Nat) (x:Option aG):l.length<=(putAt l n x).length∧n<(putAt l n x).length:=by
 unfold putAt
 split
 ·simp; assumption
 ·simp; omega
theorem Cy (s:St) (u:List (Nat × Option aG)):s.rg.length<=(s.fR u).rg.length:=by
 induction u generalizing s with
 | nil=>exact axB _
 | cons x u ih=>obtain ⟨n,g⟩:=x; exact Nat.le_trans (dv s.rg n g).1 (ih (s.cn n g))
theorem mV {s:St} {u:List (Nat × Option aG)} {n:Nat} {g:Option aG} (h:(n,g)∈u):n<(s.fR u).rg.length:=by
 induction u generalizing s with
 | nil=>cases h
 | cons x u ih=>
   obtain ⟨m,y⟩:=x
   rcases List.mem_cons.1 h with h | h
   ·cases h; exact Nat.lt_of_lt_of_le (dv s.rg n g).2 (Cy (s.cn n g) u)
   ·exact ih h
def aiJ (q:Nat) (Γ:Env) (s:St) (w:World) (nm:Nat) (x:fQ) (u:Value) (w' : World):Prop:=
 ∃ Γ',Ext Γ w Γ'∧b5 Γ' x.v u∧aQ Γ' (s.fR x.up).rg w'∧Wd w w'∧∀ n,Γ.μ n=none->¬ (nm<=n∧n<nm+q∧n<(s.fR x.up).rg.length)->Γ'.μ n=none
def bp (Γ:Env) (s:St) (w:World) (nm:Nat) (x:fQ) (u:Value) (w' : World):Prop:=aiJ 16 Γ s w nm x u w'
theorem bp.plain {Γ:Env} {s:St} {w:World} {nm:Nat} {v:NS} {u:Value} (hw:aQ Γ s.rg w) (h:b5 Γ v u):bp Γ s w nm {up:=[],v:=v} u w:=
 ⟨Γ,Ext.refl Γ w,h,hw,Wd.refl w,fun _ h _=>h⟩
theorem hJ {Γ:Env} {nm:Nat} {B:cR} {m:Nat} (hm:nm<m):∀ n,Γ.μ n=none->¬ (nm<=n∧n<nm+16∧n<m)->(Γ.add nm B).μ n=none:=by
 intro n h1 h2
 simp only [Env.add]
 rw [if_neg (by omega)]; exact h1
theorem bp.LJ {Γ:Env} {s:St} {w w' : World} {nm sz len:Nat} {gz:aG} {bF:List Value} {e:TypeId} {v:Value} {old kl:Option Nat} (hw:aQ Γ s.rg w) (fH:Γ.μ nm=none) (hk:∀ r,old=some r->kl=some r)
  (hold:∀ r,old=some r->∃ B,Γ.pt r=some B∧live s.rg r) (hbz:∀ l2,bG Γ gz.st gz.body (bF++l2)) (hez:gz.e=e) (cS:gz.st=sz)
  (ha:oC w (old.bind fun r=>(Γ.pt r).map (·.ax)) e sz len bF v w') :
  bp Γ s w nm {up:=(match kl with | some r=>[(r,none)] | none=>[])++[(nm,some (gz))],v:=.v (.c (.h nm 0 len))} v w':=by
 obtain ⟨⟨ax,o,cap,cur,rfl,il,hnc,nV,hcs,⟨l2,hl⟩,lI⟩,LK,Fb⟩:=ha
 generalize zW:cR.all ax sz cur.size e=Bn
 have RH:Bn.gh=false:=by rw [<- zW]; rfl
 have hbb:Bn.ax=ax:=by rw [<- zW]; rfl
 have hle:=Γ.jq nm Bn fH
 have hb:=(hbz l2).mono hle
 have he:=hez
 have fv:=cS
 have nU:(Γ.add nm Bn).pt nm=some Bn:=Env.mH RH
 -- the regions that stay
 have tY:∀ m g B,some m≠kl->s.rg[m]? = some (some g)->Γ.pt m=some B->B.ax≠ax∧w'.heap[B.ax]? = w.heap[B.ax]?:=by
  intro m g B b9 hg hB
  obtain ⟨o,ho⟩:=hw.obj hB hg
  have:=fy ho
  cases old with
  | none=>
    simp only [Option.bind_none,reduceCtorEq,false_or] at lI
    exact ⟨by omega,LK _ this (by simp)⟩
  | some r=>
    obtain ⟨Br,hBr,hlr⟩:=hold r rfl
    have hd:B.ax≠Br.ax:=hw.inj m r B Br (fun h=>b9 (by rw [h]; exact (hk r rfl).symm)) ⟨g,hg⟩ hlr hB hBr
    simp only [Option.bind_some,hBr,ayo,Option.some.injEq] at lI
    refine ⟨?_,LK _ this (by simp [hBr]; exact Ne.symm hd)⟩
    rcases lI with rfl | ⟨h,-⟩
    ·exact hd
    ·omega
 have Pc:∀ b o,Γ.kp b=some o->b≠ax∧w'.heap[b]? = some o:=by
  intro b o hb
  have h1:=hw.kp b o hb
  cases old with
  | none=>
    simp only [Option.bind_none,reduceCtorEq,false_or] at lI
    have:=fy h1
    exact ⟨by omega,by rw [LK _ this (by simp)]; exact h1⟩
  | some r=>
    obtain ⟨Br,hBr,hlr⟩:=hold r rfl
    have hd:b≠Br.ax:=by rintro rfl; rw [hw.apart r Br hlr hBr] at hb; cases hb
    simp only [Option.bind_some,hBr,ayo,Option.some.injEq] at lI
    have:=fy h1
    refine ⟨?_,by rw [LK _ this (by simp [hBr]; exact Ne.symm hd)]; exact h1⟩
    rcases lI with rfl | ⟨h,-⟩
    ·exact hd
    ·omega
 -- the list of regions behind it
 have kb:∀ m g,(s.fR ((match kl with | some r=>[(r,none)] | none=>[])++[(nm,some (gz))])).rg[m]? = some (some g)->(m=nm∧g=gz)∨(m≠nm∧some m≠kl∧s.rg[m]? = some (some g)):=by
  intro m g hm
  cases kl with
  | none=>
    simp only [axY,St.fR,St.cn] at hm
    rcases (bn _ _ _ _ _).1 hm with ⟨h1,h2⟩ | ⟨h1,h2⟩
    ·exact .inl ⟨h1,by simpa using h2.symm⟩
    ·exact .inr ⟨h1,by simp,h2⟩
  | some r=>
    simp only [ayh,axY,St.fR,St.cn] at hm
    rcases (bn _ _ _ _ _).1 hm with ⟨h1,h2⟩ | ⟨h1,h2⟩
    ·exact .inl ⟨h1,by simpa using h2.symm⟩
    ·rcases (bn _ _ _ _ _).1 h2 with ⟨_,h3⟩ | ⟨h3,h4⟩
     ·cases h3
     ·exact .inr ⟨h1,by simpa using h3,h4⟩
 refine ⟨Γ.add nm Bn,Ext.add fH fun _=>?_,?_,?_,Fb,hJ (mV (g:=some (gz)) (by simp))⟩
 ·rw [hbb]
  rcases lI with h | ⟨h,-⟩
  ·right
   cases old with
   | none=>simp at h
   | some r=>
     obtain ⟨Br,hBr,-⟩:=hold r rfl
     simp only [Option.bind_some,hBr,ayo,Option.some.injEq] at h
     exact ⟨r,Br,hBr,h⟩
  ·exact .inl h
 ·refine ⟨⟨Bn,o,cap,Env.tT RH (by rw [<- zW]; rfl) (by rw [<- zW]; rfl),by rw [hbb],hnc,nV,hcs.imp (fun h=>?_) id⟩,rfl⟩
  rw [<- zW]
  exact ⟨by simpa using h.1,by simpa using h.2.symm⟩
 ·refine ⟨fun m g hm=>?_,fun a b B B' b9 la lb ea eb=>?_,fun b o hb=>(Pc b o hb).2,fun m B hm eB=>?_,hw.ro⟩
  ·rcases kb m g hm with ⟨rfl,rfl⟩ | ⟨h1,h2,h3⟩
   ·refine ⟨_,Env.qo nU,?_⟩
    have h:=cN.all (Γ:=Γ.add m Bn) (g:=g) (w:=w') (b:=ax) (st:=sz) (sz:=cur.size) (c:=cur) (by rw [he]; exact il) fv.symm rfl (by rw [hl]; exact hb)
    rw [he,zW] at h
    exact h
   ·obtain ⟨B,hB,hr⟩:=hw.live m g h3
    exact ⟨B,hle.μ _ _ hB,(hr.heap fun h0=>(tY m g B h2 h3 (Env.bt.2 ⟨hB,h0⟩)).2).mono hle⟩
  ·obtain ⟨ga,IF⟩:=la
   obtain ⟨gb,SG⟩:=lb
   rcases kb a ga IF with ⟨rfl,-⟩ | ⟨a1,a2,a3⟩ <;> rcases kb b gb SG with ⟨rfl,-⟩ | ⟨b1,b2,b3⟩
   ·exact (b9 rfl).elim
   ·rw [nU] at ea; cases ea
    rw [Env.cw b1] at eb
    rw [hbb]
    exact Ne.symm (tY b gb B' b2 b3 eb).1
   ·rw [nU] at eb; cases eb
    rw [Env.cw a1] at ea
    rw [hbb]
    exact (tY a ga B a2 a3 ea).1
   ·rw [Env.cw a1] at ea
    rw [Env.cw b1] at eb
    exact hw.inj a b B B' b9 ⟨ga,a3⟩ ⟨gb,b3⟩ ea eb
  ·obtain ⟨g,hg⟩:=hm
   rcases kb m g hg with ⟨rfl,-⟩ | ⟨h1,h2,h3⟩
   ·rw [nU] at eB; cases eB
    show Γ.kp Bn.ax=none
    rw [hbb]
    cases e:Γ.kp ax with
    | none=>rfl
    | some o=>exact ((Pc _ _ e).1 rfl).elim
   ·rw [Env.cw h1] at eB
    exact hw.apart m B ⟨g,h3⟩ eB
theorem bp.SH {Γ:Env} {s:St} {w w' : World} {nm:Nat} {zs:cK} {e:TypeId} {v:Value} {old kl:Option Nat} (hw:aQ Γ s.rg w) (fH:Γ.μ nm=none) (hk:∀ r,old=some r->kl=some r)
  (hold:∀ r,old=some r->∃ B,Γ.pt r=some B∧live s.rg r) (h0:0<zs.w)
  (ha:oC w (old.bind fun r=>(Γ.pt r).map (·.ax)) e zs.w zs.length zs.bF v w') :
  bp Γ s w nm {up:=(match kl with | some r=>[(r,none)] | none=>[])++[(nm,some (zs.bK e))],v:=.v (.c (.h nm 0 zs.length))} v w':=
 bp.LJ hw fH hk hold (fun l2=>(cK.Cw Γ zs e l2 h0).1) (cK.Cw Γ zs e [] h0).2.1 (cK.Cw Γ zs e [] h0).2.2 ha
theorem bp.told {Γ:Env} {s:St} {w w' : World} {nm:Nat} {up:List (Nat × Option aG)} {x y:NS} {v:Value} (h:bp Γ s w nm {up:=up,v:=x} v w') (hx:∀ Γ',b5 Γ' x v->b5 Γ' y v):bp Γ s w nm {up:=up,v:=y} v w':=by
 obtain ⟨Γ',h1,h2,h3⟩:=h
 exact ⟨Γ',h1,hx Γ' h2,h3⟩
def cR.none (w:World):cR:=⟨w.heap.size,0,0,0,true,[],Option.none⟩
theorem aQ.ghost {Γ:Env} {rg:List (Option aG)} {w:World} (h:aQ Γ rg w) {nm:Nat} {g:aG} (fH:Γ.μ nm=none) (hg:uY g):aQ (Γ.add nm (cR.none w)) (putAt rg nm (some g)) w:=by
 have hle:=Γ.jq nm (cR.none w) fH
 have Pd:(Γ.add nm (cR.none w)).pt nm=none:=by
  unfold Env.pt
  rw [Env.dq]
  rfl
 have Cz:∀ {m B},(Γ.add nm (cR.none w)).pt m=some B->m≠nm∧Γ.pt m=some B:=fun {m B} hB=>by
  by_cases e:m=nm
  ·subst e; rw [Pd] at hB; cases hB
  ·rw [Env.cw e] at hB; exact ⟨e,hB⟩
 have hl:∀ m,m≠nm->Nx.live (putAt rg nm (some g)) m->Nx.live rg m:=fun m e hm=>by
  rcases (cq _ _ _ _).1 hm with ⟨h1,-⟩ | ⟨-,h1⟩
  ·exact (e h1).elim
  ·exact h1
 refine ⟨fun m g' hm=>?_,fun a b B B' b9 la lb ea eb=>?_,h.kp,fun m B hm eB=>?_,h.ro⟩
 ·rcases (bn _ _ _ _ _).1 hm with ⟨rfl,e⟩ | ⟨b9,e⟩
  ·cases e
   exact ⟨_,Env.dq _ _ _,.inl ⟨rfl,hg⟩⟩
  ·obtain ⟨B,h1,h2⟩:=h.live m g' e
   exact ⟨B,hle.μ _ _ h1,h2.mono hle⟩
 ·obtain ⟨a1,a2⟩:=Cz ea
  obtain ⟨b1,b2⟩:=Cz eb
  exact h.inj a b B B' b9 (hl a a1 la) (hl b b1 lb) a2 b2
 ·obtain ⟨a1,a2⟩:=Cz eB
  exact h.apart m B (hl m a1 hm) a2
theorem bp.ghost {Γ:Env} {s:St} {w:World} {nm r:Nat} {g:aG} (hw:aQ Γ s.rg w) (fH:Γ.μ nm=none) (hg:uY g):bp Γ s w nm {up:=[(r,none),(nm,some g)],v:=.v (.c (.hz nm 0))} (.slice none 0 0) w:=
 ⟨Γ.add nm (cR.none w),Ext.add fH (fun h=>by cases h),⟨.inl ⟨rfl,rfl,_,Env.dq _ _ _⟩,rfl⟩,(hw.kill r).ghost fH hg,Wd.refl w,hJ (mV (g:=some g) (by simp))⟩
section
variable {P:Program} {e t u ty:TypeId} {i:TypeInfo} {zv:Value} {k kn kx:IntKind} {z:Int}
theorem LL (xG:zv.cells=#[.int k z]) (j:Nat):Builtin.zeroCells zv.cells j=(axx j (Value.int k z)).toArray:=by
 apply Array.ext'
 rw [xG]
 apply ays
 intro q
 simp only [Builtin.zeroCells,List.getElem?_replicate]
 by_cases hqj:q<j
 ·simp [hqj,Nat.mod_one]
 ·simp [hqj]
theorem IG (w:World) (ht:P.underlying t=some (.slice e)) (hu:P.underlying u=some (.int kn)) (hi:P.info? e=some i) (hz:i.zero=some zv) (oA:i.size=1) (xG:zv.cells=#[.int k z])
  (g kc vW:Nat) (cur:Array Value) (hg:w.heap[g]? = some (.cells cur e (0,0))) (m:Nat) (h0:0<m) (h63:(m:Int)<=9223372036854775807) (h48:m * i.bytes<=281474976710656)
  (vi:kc+m<=vW) (eS:kc+m<=cur.size) :
  (Builtin.append_ #[t,u] ty #[.slice (some ⟨g,0,none⟩) kc vW,.int kx m]).run P w =
    .ok (.slice (some ⟨g,0,none⟩) (kc+m) vW) (w.setRow g (cur.toList.take kc++axx m (Value.int k z)++cur.toList.drop (kc+m)).toArray):=by
 have hw:IntKind.i64.wrap (m:Int)=m:=by rw [IntKind.wrap_i64]; omega
 have hn:m≠0:=by omega
 have aiK:¬ (281474976710656<(m:Int) * (i.bytes:Int)):=by
  rw [<- Int.natCast_mul]
  omega
 have aiL:¬ ((m:Int)<0):=by omega
 have fv:=run_storeCells_at P g kc e (axx m (Value.int k z)) 0 cur w hg (by simpa using eS) (fun v hv=>by rw [List.eq_of_mem_replicate hv]; rfl)
 simp only [ax9,ayv] at fv
 have hc:∀ j,Builtin.zeroCells #[Value.int k z] j=(axx j (Value.int k z)).toArray:=fun j=>by rw [<- xG]; exact LL xG j
 simp [Builtin.append_,run_underlying ht,run_underlying hu,sizeOf,typeInfo,zeroValue,hi,hz,oA,xG,asInt,asIntOf,hw,hn,aiL,aiK,vi,hc,Addr.add_lit,fv]
theorem xH (w:World) (ht:P.underlying t=some (.slice e)) (hu:P.underlying u=some (.int kn)) (hi:P.info? e=some i) (hz:i.zero=some zv) (oA:i.size=1) (xG:zv.cells=#[.int k z])
  (b:Addr) (kc vW:Nat) (olds:List Value) (hlo:olds.length=kc) (holds:∀ j v,olds[j]? = some v->w.cell? (b.add j)=some v) (m:Nat) (h0:0<m) (h48:m * i.bytes<=281474976710656)
  (hgr:vW<kc+m) (h63:((kc+m:Nat):Int)<=9223372036854775807) (eS:Builtin.nextslicecap (kc+m) vW * i.bytes<=281474976710656) :
  (Builtin.append_ #[t,u] ty #[.slice (some b) kc vW,.int kx m]).run P w =
    .ok (.slice (some ⟨w.heap.size,0,none⟩) (kc+m) (grownCap w (kc+m) vW e))
     (w.drew.alloc (.cells (olds.toArray++(axx m (Value.int k z)).toArray++Builtin.zeroCells zv.cells (grownCap w (kc+m) vW e - (kc+m))) e)):=by
 have hw:IntKind.i64.wrap (m:Int)=m:=by rw [IntKind.wrap_i64]; omega
 have hn:m≠0:=by omega
 have aiK:¬ (281474976710656<(m:Int) * (i.bytes:Int)):=by
  rw [<- Int.natCast_mul]
  omega
 have aiL:¬ ((m:Int)<0):=by omega
 have hn2:¬ (kc+m<=vW):=by omega
 have aum : ¬ (9223372036854775807<((kc:Int)+(m:Int))):=by omega
 have aun : ¬ (281474976710656<Builtin.nextslicecap (kc+m) vW * i.bytes):=by omega
 have hfo:=run_firstCells_some (P:=P) w.drew 1 kc b kc vW olds (by omega) (by simpa using holds)
 have hc:∀ j,Builtin.zeroCells #[Value.int k z] j=(axx j (Value.int k z)).toArray:=fun j=>by rw [<- xG]; exact LL xG j
 simp [Builtin.append_,run_underlying ht,run_underlying hu,sizeOf,typeInfo,zeroValue,hi,hz,oA,xG,asInt,asIntOf,hw,hn,hn2,aiL,aiK,aum,aun,hc,Question.forced,hfo,newRow,grownCap]
theorem Ab {w:World} (ht:P.underlying t=some (.slice e)) (hu:P.underlying u=some (.int kn)) (hi:P.info? e=some i) (hz:i.zero=some zv) (oA:i.size=1) (xG:zv.cells=#[.int k z])
  {ax n cap:Nat} {cur:Array Value} (hg:w.heap[ax]? = some (.cells cur e (0,0))) {olds l2:List Value} (SE:cur.toList=olds++l2) (hlo:olds.length=n) (hcs:cur.size=cap) (nV:cap<=maxLen) {m:Nat} (h0:0<m)
  (hb:(n+m) * i.bytes<=140737488355328) (h63:n+m<=9223372036854775807) :
  ∃ v w',(Builtin.append_ #[t,u] ty #[.slice (some ⟨ax,0,none⟩) n cap,.int kx m]).run P w=.ok v w'∧oC w (some ax) e 1 (n+m) (olds++axx m (.int k z)) v w':=by
 have hmb:m * i.bytes<=(n+m) * i.bytes:=Nat.mul_le_mul_right _ (by omega)
 by_cases vi:n+m<=cap
 ·have hr:=IG (P:=P) (ty:=ty) (kx:=kx) w ht hu hi hz oA xG ax n cap cur hg m h0 (by omega) (by omega) vi (by omega)
  refine ⟨_,_,hr,⟨⟨ax,0,cap,_,rfl,setRow_heap w ax cur _ e _ hg,vi,nV,.inl ⟨rfl,?_⟩,?_,.inl rfl⟩,fun b hb b9=>setRow_other w ax b _ (fun h=>b9 (by rw [h])),⟨rfl,rfl,rfl,by simp⟩⟩⟩
  ·simp only [List.size_toArray,axG,ax7,ax1,ayi,ayv]
   omega
  ·refine ⟨cur.toList.drop (n+m),?_⟩
   have:cur.toList.take n=olds:=by rw [SE,axW (by omega),axN (by omega)]
   simp only [this]
 ·have holds:∀ j v,olds[j]? = some v->w.cell? ((⟨ax,0,none⟩:Addr).add j)=some v:=fun j v hj=>by
   rw [Addr.add_lit]
   exact dV hg (by rw [SE,ayf]; exact aV hj)
  have hr:=xH (P:=P) (ty:=ty) (kx:=kx) w ht hu hi hz oA xG ⟨ax,0,none⟩ n cap olds hlo holds m h0 (by omega) (by omega) (by omega) (growslice_fits (by omega) hb)
  have IF:=gH (w:=w) (e:=e) hz (by rw [xG,oA]; rfl) (olds:=olds) (n:=n) (m:=m) (G:=grownCap w (n+m) cap e) (news:=axx m (Value.int k z)) (by rw [oA]; omega) (by rw [oA]; simp) (grownCap_ge w (n+m) cap e) (grownCap_le_maxLen w (n+m) cap e (by simp only [maxLen]; omega)) (some ax)
  rw [oA] at IF
  exact ⟨_,_,hr,IF⟩
theorem vX {w:World} (ht:P.underlying t=some (.slice e)) (hu:P.underlying u=some (.int kn)) (hi:P.info? e=some i) (hz:i.zero=some zv) (oA:i.size=1) (xG:zv.cells=#[.int k z])
  (b:Addr) {m:Nat} (h0:0<m) (hb:m * i.bytes<=140737488355328) (h63:m<=9223372036854775807) (old:Option Nat) :
  ∃ v w',(Builtin.append_ #[t,u] ty #[.slice (some b) 0 0,.int kx m]).run P w=.ok v w'∧oC w old e 1 (0+m) (axx m (.int k z)) v w':=by
 have hr:=xH (P:=P) (ty:=ty) (kx:=kx) w ht hu hi hz oA xG b 0 0 [] rfl (by simp) m h0 (by omega) (by omega) (by omega) (by simpa using growslice_fits (old:=0) (by omega) hb)
 have IF:=gH (w:=w) (e:=e) hz (by rw [xG,oA]; rfl) (olds:=[]) (n:=0) (m:=m) (G:=grownCap w (0+m) 0 e) (news:=axx m (Value.int k z)) (by simp) (by rw [oA]; simp) (grownCap_ge w (0+m) 0 e) (grownCap_le_maxLen w (0+m) 0 e (by simp only [maxLen]; omega)) old
 rw [oA] at IF
 exact ⟨_,_,hr,by simpa using IF⟩
end
theorem CA {P:Program} {s:St} {Γ:Env} {w:World} {t u ty:TypeId} {x y:NC} {vx vy:Value} {nm:Nat} {R:fQ->Prop} (hw:aQ Γ s.rg w) (fH:Γ.μ nm=none)
  (hx:CR Γ x vx) (hy:CR Γ y vy) (h:(tQ P s t u x y nm).run R) :
  ∃ ef v w',R ef∧(Builtin.append_ #[t,u] ty #[vx,vy]).run P w=.ok v w'∧bp Γ s w nm ef v w':=by
 unfold tQ at h
 split at h
 case h_2=>exact h.elim
 rename_i e kn k n ht hu
 obtain ⟨rfl,-⟩:=hy
 split at h
 ·obtain ⟨rfl,-⟩:=hx
  split at h
  case h_2=>exact h.elim
  rename_i k' z hz
  obtain ⟨hc,h⟩:=(bC _ _ _).1 h
  have lJ : 0<n∧n.toNat * bf P e<=140737488355328∧n<=9223372036854775807:=by simpa [bT] using hc
  obtain ⟨i,v,hi,hv,cS,hs⟩:=cr hz
  obtain ⟨q,hq1,hq2⟩:=R2.one (cQ (Γ:=Γ) hs)
  have hq:q=.int k' z:=hq2.1
  have hvc:v.cells=#[.int k' z]:=by rw [<- ayp (xs:=v.cells),hq1,hq]
  have oA:i.size=1:=by
   have:al P e=1:=by rw [<- cS,hvc]; rfl
   simpa [al,hi] using this
  have AL:bf P e=i.bytes:=by simp [bf,hi]
  rw [AL] at lJ
  obtain ⟨m,rfl⟩:∃ m:Nat,n=(m:Int):=⟨n.toNat,by omega⟩
  have hm:((m:Int)).toNat=m:=by simp
  rw [hm] at lJ h
  have hr:=Lib.run_append_nil_zeros (P:=P) w t u ty e i v k kn ht hu hi hv m (by omega) (by omega) lJ.2.2 (by omega)
  refine ⟨_,_,_,h,hr,?_⟩
  have hzc:∀ j,(Builtin.zeroCells v.cells j).toList=axx j (.int k' z):=fun j=>by
   rw [hvc]
   apply ays
   intro q
   simp only [Builtin.zeroCells,List.getElem?_replicate]
   by_cases hqj:q<j
   ·simp [hqj,Nat.mod_one]
   ·simp [hqj]
  have ha:oC w ((none:Option Nat).bind fun r=>(Γ.pt r).map (·.ax)) e (cK.ints k' (axx m z)).w (cK.ints k' (axx m z)).length (cK.ints k' (axx m z)).bF (.slice (some ⟨w.heap.size,0,none⟩) m (grownCap w m 0 e)) (w.drew.alloc (.cells (Builtin.zeroCells v.cells m++Builtin.zeroCells v.cells (grownCap w m 0 e - m)) e)):=by
   have hg:=gH (w:=w) (e:=e) hv (by rw [hvc,oA]; rfl) (olds:=[]) (n:=0) (m:=m) (G:=grownCap w m 0 e) (news:=axx m (.int k' z)) (by simp) (by simp [oA]) (by simpa using grownCap_ge w m 0 e) (grownCap_le_maxLen w m 0 e (by simp only [maxLen]; omega)) none
   rw [ayf,axY,oA] at hg
   have e1:([]:List Value).toArray++(axx m (Value.int k' z)).toArray=Builtin.zeroCells v.cells m:=by
    apply Array.ext'
    rw [hzc]
    simp
   rw [e1] at hg
   show oC w none e 1 (axx m z).length ((axx m z).map (.int k')) _ _
   rw [ayv,List.map_replicate]
   exact hg
  have:=bp.SH (s:=s) (nm:=nm) (old:=none) (kl:=none) hw fH (fun r h=>by cases h) (fun r h=>by cases h) (by simp [cK.w]) ha
  simpa [cK.length] using this
 ·rename_i r off len
  split at h
  case h_2=>exact h.elim
  rename_i k' z d k2 xs g hz xJ hg
  split at h
  case isFalse=>exact h.elim
  rename_i tI
  obtain ⟨tI,rfl⟩:=tI
  obtain ⟨hd,h⟩:=(bC _ _ _).1 h
  obtain ⟨hc,h⟩:=(bC _ _ _).1 h
  have lJ : 0<n∧(len+n.toNat) * bf P e<=140737488355328∧len+n.toNat<=9223372036854775807:=by simpa [bT] using hc
  obtain ⟨i,v,hi,hv,cS,hs⟩:=cr hz
  obtain ⟨q,hq1,hq2⟩:=R2.one (cQ (Γ:=Γ) hs)
  have hq:q=.int k' z:=hq2.1
  have hvc:v.cells=#[.int k' z]:=by rw [<- ayp (xs:=v.cells),hq1,hq]
  have oA:i.size=1:=by
   have:al P e=1:=by rw [<- cS,hvc]; rfl
   simpa [al,hi] using this
  have AL:bf P e=i.bytes:=by simp [bf,hi]
  rw [AL] at lJ
  obtain ⟨m,rfl⟩:∃ m:Nat,n=(m:Int):=⟨n.toNat,by omega⟩
  have hm:((m:Int)).toNat=m:=by simp
  rw [hm] at lJ h
  have gS:=(bS s r g).1 hg
  obtain ⟨⟨B,o,cap,hB,rfl,eQ,nV,dh⟩,-⟩:=hx
  obtain ⟨cs,hcs,fv,CB,aH⟩:=hw.Cg hB gS
  have wM:xs.length=len∧g.st=1∧∃ l2,cs.toList=xs.map (.int k')++l2:=by
   unfold nL at xJ
   simp only [hg] at xJ
   split at xJ
   ·rename_i kk l hb
    cases xJ
    rw [hb] at aH
    obtain ⟨h1,l2,hl⟩:=aH
    have hlen:0+len<=l.length:=by simpa [bT] using hd
    refine ⟨by simp; omega,h1,(l.drop len).map (.int k')++l2,?_⟩
    rw [hl]
    simp only [axZ]
    rw [<- axC,<- ayr,axE]
   ·cases xJ
   ·cases xJ
   ·cases xJ
   ·cases xJ
   ·cases xJ
  obtain ⟨wM,hg1,l2,AS⟩:=wM
  have qS:w.heap[B.ax]? = some (.cells cs e (0,0)):=by rw [hcs,tI]
  have lI:((some r).bind fun r=>(Γ.pt r).map (·.ax))=some B.ax:=by simp [Env.gY hB]
  have SI:∀ q,some r=some q->∃ B,Γ.pt q=some B∧live s.rg q:=fun q hq=>by cases hq; exact ⟨B,Env.gY hB,g,gS⟩
  have fin:∀ {v:Value} {w' : World} {vv:Value},(Builtin.append_ #[t,u] ty #[vv,.int k m]).run P w=.ok v w'->oC w (some B.ax) e 1 (len+m) (xs.map (.int k')++axx m (.int k' z)) v w'->
    ∃ ef u2 w',R ef∧(Builtin.append_ #[t,u] ty #[vv,.int k m]).run P w=.ok u2 w'∧bp Γ s w nm ef u2 w':=by
   intro v w' vv bE ha
   rw [<- lI] at ha
   have LG:(cK.ints k' (xs++axx m z)).length=len+m:=by simp [cK.length,wM]
   have ha2:oC w ((some r).bind fun r=>(Γ.pt r).map (·.ax)) e (cK.ints k' (xs++axx m z)).w (cK.ints k' (xs++axx m z)).length (cK.ints k' (xs++axx m z)).bF v w':=by
    rw [LG]
    show oC w _ e 1 (len+m) ((xs++axx m z).map (.int k')) v w'
    rw [ayr,List.map_replicate]
    exact ha
   have:=bp.SH (s:=s) (nm:=nm) (old:=some r) (kl:=some r) hw fH (fun _ h=>h) SI (by simp [cK.w]) ha2
   rw [LG] at this
   exact ⟨_,v,w',h,bE,this⟩
  have hxm:(xs.map (Value.int k')).length=len:=by rw [List.length_map]; exact wM
  rcases dh with ⟨rfl,LM⟩ | LM
  ·simp only [ayc,ayf] at LM ⊢
   obtain ⟨v',w',bE,ha⟩:=Ab (P:=P) (ty:=ty) (kx:=k) (w:=w) ht hu hi hv oA hvc qS AS hxm (cap:=cap) (by rw [CB,<- LM,fv,hg1,Nat.mul_one]) nV (m:=m) (by omega) lJ.2.1 lJ.2.2
   exact fin bE ha
  ·have tZ:len=0:=by omega
   subst tZ
   subst LM
   have hxn:xs.map (Value.int k')=[]:=ayb hxm
   obtain ⟨v',w',bE,ha⟩:=vX (P:=P) (ty:=ty) (kx:=k) (w:=w) ht hu hi hv oA hvc ⟨B.ax,o,none⟩ (m:=m) (by omega) (by simpa using lJ.2.1) (by simpa using lJ.2.2) (some B.ax)
   refine fin bE ?_
   rw [hxn]
   exact ha
 ·exact h.elim
theorem vj {P:Program} {s:St} {Γ:Env} {w:World} {t ty e:TypeId} {y:NC} {vx vy:Value} {nm r len:Nat} {g:aG} {xs ys zs:cK} {c d:List Bool} (hw:aQ Γ s.rg w) (fH:Γ.μ nm=none)
  (hx:CR Γ (.h r 0 len) vx) (hy:CR Γ y vy) (ht:P.underlying t=some (.slice e)) (Ey:nL s y=some (c,ys)) (eS:ys.fits P e=true) (jd:nL s (.h r 0 len)=some (d,xs)) (hg:s.bK r=some g) (qg : xs.app ys=some zs)
  (tI:g.e=e∧xs.fits P e=true) (hc:bT c) (hd:bT d) (qt:bT (jg P e (len+ys.length))) :
  ∃ u w',(Builtin.append_ #[t,t] ty #[vx,vy]).run P w=.ok u w'∧bp Γ s w nm {up:=[(r,none),(nm,some (zs.bK e))],v:=.v (.c (.h nm 0 (len+ys.length)))} u w':=by
 obtain ⟨a,xK,rfl,auo,bO⟩:=iG hw hy Ey hc
 obtain ⟨AT,CC⟩:=bQ qt
 obtain ⟨i,z,hi,hz,wN,cS,h0,AL⟩:=cK.AO eS
 obtain ⟨e1,e2,e3,-⟩:=cK.Fa qg
 have gS:=(bS s r g).1 hg
 obtain ⟨⟨B,o,cap,hB,rfl,eQ,nV,dh⟩,-⟩:=hx
 obtain ⟨cs,hcs,fv,CB,aH⟩:=hw.Cg hB gS
 -- the old elements
 have wM:xs.length=len∧xs.w=g.st∧∃ l2,cs.toList=xs.bF++l2:=by
  unfold nL at jd
  simp only [hg] at jd
  split at jd
  ·rename_i k l hb
   cases jd
   rw [hb] at aH
   obtain ⟨h1,l2,hl⟩:=aH
   have hlen:0+len<=l.length:=by simpa [bT] using hd
   refine ⟨by simp [cK.length]; omega,h1.symm,(l.drop len).map (.int k)++l2,?_⟩
   rw [hl]
   simp only [cK.bF,axZ]
   rw [<- axC,<- ayr,axE]
  ·rename_i ks l hb
   cases jd
   rw [hb] at aH
   obtain ⟨h1,h2,l2,hl⟩:=aH
   have hlen:0+len<=l.length:=by simpa [bT] using hd
   refine ⟨by simp [cK.length]; omega,h1.symm,aL ks (l.drop len)++l2,?_⟩
   rw [hl]
   simp only [cK.bF,axZ]
   rw [<- axC]
   congr 1
   rw [<- eF,<- gu,axE]
  ·cases jd
  ·cases jd
  ·cases jd
  ·cases jd
 obtain ⟨wM,hxw,l2,AS⟩:=wM
 have hyw:ys.w=xs.w:=by
  cases xs <;> cases ys <;> simp only [cK.app,reduceCtorEq] at qg
  ·rfl
  ·split at qg
   ·rename_i ee; subst ee; rfl
   ·cases qg
 have hzw:zs.w=i.size:=by rw [e3,<- hyw,<- cS]
 have hzl:zs.length=len+ys.length:=by rw [e2,wM]
 have hz0:0<zs.w:=by rw [e3,<- hyw]; exact h0
 have lI:((some r).bind fun r=>(Γ.pt r).map (·.ax))=some B.ax:=by simp [Env.gY hB]
 have SI:∀ q,some r=some q->∃ B,Γ.pt q=some B∧live s.rg q:=fun q hq=>by cases hq; exact ⟨B,Env.gY hB,g,gS⟩
 have fin:∀ {v:Value} {w' : World} {vv:Value},(Builtin.append_ #[t,t] ty #[vv,.slice a ys.length xK]).run P w=.ok v w'->oC w (some B.ax) e i.size (len+ys.length) (xs.bF++ys.bF) v w'->
   ∃ u w',(Builtin.append_ #[t,t] ty #[vv,.slice a ys.length xK]).run P w=.ok u w'∧bp Γ s w nm {up:=[(r,none),(nm,some (zs.bK e))],v:=.v (.c (.h nm 0 (len+ys.length)))} u w':=by
  intro v w' vv bE ha
  rw [<- e1,<- hzl,<- hzw,<- lI] at ha
  have:=bp.SH (old:=some r) (kl:=some r) hw fH (fun _ h=>h) SI hz0 ha
  rw [hzl] at this
  exact ⟨v,w',bE,this⟩
 have hxv:xs.bF.length=len * i.size:=by rw [xs.fj,wM,<- hzw,e3]
 have hyv:ys.bF.length=ys.length * i.size:=by rw [ys.fj,<- cS]
 have qS:w.heap[B.ax]? = some (.cells cs e (0,0)):=by rw [hcs,tI.1]
 have SJ:g.st=i.size:=by rw [<- hxw,<- hyw,<- cS]
 by_cases Fc:ys.length=0
 ·-- nothing comes: it stays where it is
  have bE:=cu (w:=w) (ty:=ty) ht hi (some ⟨B.ax,o,none⟩) a len cap xK eQ
  have hyn:ys.bF=[]:=ayb (by rw [hyv,Fc]; simp)
  have SK:oC w (some B.ax) e i.size (len+ys.length) (xs.bF++ys.bF) (.slice (some ⟨B.ax,o,none⟩) len cap) w:=by
   rw [hyn,Fc,ax9,ayw]
   exact ⟨⟨B.ax,o,cap,cs,rfl,qS,eQ,nV,dh.imp (fun h=>⟨by rw [h.1,ayc],by rw [CB,<- h.2,ayf,fv,SJ]⟩) id,⟨l2,AS⟩,.inl rfl⟩,fun _ _ _=>rfl,Wd.refl w⟩
  exact fin (by rw [Fc]; exact bE) SK
 ·rcases bO with bO | ⟨ax,off,rfl,bO⟩
  ·exact (Fc bO).elim
  rcases dh with ⟨rfl,LM⟩ | LM
  ·simp only [ayc,ayf] at LM ⊢
   obtain ⟨v,w',bE,ha⟩:=LH (w:=w) (ty:=ty) ht hi hz wN qS AS hxv (cap:=cap) (by rw [CB,<- LM,fv,SJ]) nV (a:=⟨ax,off,none⟩) (m:=ys.length) (c:=xK) (news:=ys.bF) hyv
    (fun j u hj=>by rw [Addr.add_lit]; exact bO j u hj) ys.E9 (by rw [AL]; exact AT) CC
   exact fin bE ha
  ·have tZ:len=0:=by omega
   subst tZ
   subst LM
   have hxn:xs.bF=[]:=ayb (by rw [hxv]; simp)
   obtain ⟨v,w',bE,ha⟩:=AR (w:=w) (ty:=ty) ht hi hz wN ⟨B.ax,o,none⟩ (a:=⟨ax,off,none⟩) (m:=ys.length) (c:=xK) (news:=ys.bF) hyv
    (fun j u hj=>by rw [Addr.add_lit]; exact bO j u hj) (by omega) (by rw [AL]; simpa using AT) (by simpa using CC) (some B.ax)
   exact fin bE (by rw [hxn]; simpa using ha)
theorem Ac {P:Program} {s:St} {Γ:Env} {w:World} {t ty:TypeId} {x y:NC} {vx vy:Value} {nm:Nat} {R:fQ->Prop} (hw:aQ Γ s.rg w) (fH:Γ.μ nm=none)
  (hx:CR Γ x vx) (hy:CR Γ y vy) (h:(pK P s t x y nm).run R) :
  ∃ ef u w',R ef∧(Builtin.append_ #[t,t] ty #[vx,vy]).run P w=.ok u w'∧bp Γ s w nm ef u w':=by
 unfold pK at h
 split at h
 case h_2=>exact h.elim
 rename_i e ht
 split at h
 ·-- nothing is appended
  obtain ⟨rfl,-⟩:=hy
  split at h
  case isFalse=>exact h.elim
  rename_i hs
  obtain ⟨i,hi,-⟩:=aT hs
  split at h
  ·obtain ⟨rfl,-⟩:=hx
   exact ⟨_,_,_,h,cu ht hi none none 0 0 0 (axB _),bp.plain hw ⟨rfl,rfl⟩⟩
  ·rename_i r off len
   have hx':=hx
   obtain ⟨⟨B,o,cap,hB,rfl,eQ,nV,dh⟩,-⟩:=hx'
   exact ⟨_,_,_,h,cu ht hi _ none len cap 0 eQ,bp.plain hw hx⟩
  ·rename_i r len
   have hx':=hx
   obtain ⟨⟨rfl,rfl,-⟩ | ⟨B,o,cap,hB,rfl,eQ,nV,dh⟩,-⟩:=hx'
   ·exact ⟨_,_,_,h,cu ht hi none none 0 0 0 (axB _),bp.plain hw hx⟩
   ·exact ⟨_,_,_,h,cu ht hi _ none len cap 0 eQ,bp.plain hw hx⟩
  ·exact h.elim
 ·split at h
  case h_2=>exact h.elim
  rename_i c ys Ey
  split at h
  case isFalse=>exact h.elim
  rename_i eS
  obtain ⟨i,z,hi,hz,wN,cS,h0,AL⟩:=cK.AO eS
  split at h
  ·-- aoB nil
   obtain ⟨rfl,-⟩:=hx
   obtain ⟨hc,h⟩:=(bC _ _ _).1 h
   obtain ⟨a,cap,rfl,eQ,bO⟩:=iG hw hy Ey hc
   simp only [Tr.run] at h
   rcases aW.1 h with ⟨h1,h⟩ | ⟨h1,h⟩
   ·have tZ:ys.length=0:=by simpa using h1
    rw [tZ]
    exact ⟨_,_,_,h,cu ht hi none a 0 0 cap (axB _),bp.plain hw ⟨rfl,rfl⟩⟩
   ·have tZ:ys.length≠0:=by simpa using h1
    obtain ⟨qt,h⟩:=(bC _ _ _).1 h
    obtain ⟨AT,CC⟩:=bQ qt
    rcases bO with bO | ⟨ax,off,rfl,bO⟩
    ·exact (tZ bO).elim
    obtain ⟨v,w',bE,ha⟩:=wO (w:=w) (ty:=ty) ht hi hz wN (a:=⟨ax,off,none⟩) (m:=ys.length) (c:=cap) (news:=ys.bF) (by rw [ys.fj,cS])
     (fun j u hj=>by rw [Addr.add_lit]; exact bO j u hj) (by omega) (by rw [AL]; exact AT) CC
    refine ⟨_,v,w',h,bE,bp.SH (old:=none) (kl:=none) hw fH (fun _ h=>by cases h) (fun _ h=>by cases h) h0 (by rw [cS] at ha; exact ha)⟩
  ·-- aoB a row of the aup own
   rename_i r off len
   split at h
   case h_2=>exact h.elim
   rename_i d xs g jd hg
   split at h
   case h_2=>exact h.elim
   rename_i zs qg
   split at h
   case isFalse=>exact h.elim
   rename_i tI
   obtain ⟨hc,h⟩:=(bC _ _ _).1 h
   obtain ⟨hd,h⟩:=(bC _ _ _).1 h
   obtain ⟨qt,h⟩:=(bC _ _ _).1 h
   obtain ⟨u,w',h1,h2⟩:=vj (ty:=ty) hw fH hx hy ht Ey eS jd hg qg tI hc hd qt
   exact ⟨_,u,w',h,h1,h2⟩
  ·-- aoB a row that may be nil
   rename_i r len
   split at h
   case h_2=>exact h.elim
   rename_i d xs g jd hg
   split at h
   case h_2=>exact h.elim
   rename_i zs qg
   split at h
   case isFalse=>exact h.elim
   rename_i tI
   obtain ⟨hc,h⟩:=(bC _ _ _).1 h
   obtain ⟨hd,h⟩:=(bC _ _ _).1 h
   obtain ⟨qt,h⟩:=(bC _ _ _).1 h
   have mM:∃ d',nL s (.h r 0 len)=some (d',xs)∧bT d':=by
    unfold nL at jd ⊢
    simp only [hg] at jd ⊢
    split at jd
    ·rename_i k l hb
     cases jd
     have:len<=l.length:=by simpa [bT] using hd
     exact ⟨[decide (0+len<=l.length)],by rw [hb]; rfl,fun b hb=>by rw [ayx] at hb; subst hb; exact axv (by omega)⟩
    ·rename_i ks l hb
     cases jd
     have:len<=l.length:=by simpa [bT] using hd
     exact ⟨[decide (0+len<=l.length)],by rw [hb]; rfl,fun b hb=>by rw [ayx] at hb; subst hb; exact axv (by omega)⟩
    ·cases jd
   obtain ⟨hx1,hx2⟩:=hx
   rcases hx1 with ⟨rfl,rfl,-⟩ | hx1
   ·obtain ⟨AT,CC⟩:=bQ qt
    obtain ⟨a,cap,rfl,eQ,bO⟩:=iG hw hy Ey hc
    obtain ⟨e1,e2,e3,-⟩:=cK.Fa qg
    have Fe:xs.length=0:=by
     unfold nL at jd
     simp only [hg] at jd
     split at jd
     ·cases jd; simp [cK.length]
     ·cases jd; simp [cK.length]
     ·cases jd
    have hxv:xs.bF=[]:=ayb (by rw [xs.fj,Fe]; simp)
    by_cases tZ:ys.length=0
    ·have Ad:uY (zs.bK e):=by
      have hz0:zs.length=0:=by rw [e2,Fe,tZ]
      cases zs with
      | ints k l=>exact .inl ⟨k,by simp only [cK.length] at hz0; simp [cK.bK,ayb hz0]⟩
      | aA ks l=>exact .inr (.inl ⟨ks,by simp only [cK.length] at hz0; simp [cK.bK,ayb hz0]⟩)
     rw [tZ] at h ⊢
     exact ⟨_,_,_,h,cu ht hi none a 0 0 cap (axB _),bp.ghost hw fH Ad⟩
    ·rcases bO with bO | ⟨ax,off,rfl,bO⟩
     ·exact (tZ bO).elim
     rw [ayf] at AT CC
     obtain ⟨v,w',bE,ha⟩:=wO (w:=w) (ty:=ty) ht hi hz wN (a:=⟨ax,off,none⟩) (m:=ys.length) (c:=cap) (news:=ys.bF) (by rw [ys.fj,cS])
      (fun j u hj=>by rw [Addr.add_lit]; exact bO j u hj) (by omega) (by rw [AL]; exact AT) CC
     have hyw:zs.w=ys.w:=by
      cases xs <;> cases ys <;> simp only [cK.app,reduceCtorEq] at qg
      ·split at qg
       ·cases qg; rfl
       ·cases qg
      ·split at qg
       ·rename_i ee; subst ee; cases qg; rfl
       ·cases qg
     have hzl:zs.length=ys.length:=by rw [e2,Fe,ayf]
     have xG:zs.bF=ys.bF:=by rw [e1,hxv,axY]
     rw [cS,<- hyw,<- hzl,<- xG] at ha
     have hE:=bp.SH (old:=none) (kl:=some r) hw fH (fun _ h=>by cases h) (fun _ h=>by cases h) (by rw [hyw]; exact h0) ha
     refine ⟨_,v,w',h,bE,?_⟩
     rw [ayf,<- hzl]
     exact hE.told fun Γ' hr=>⟨.inr hr.1,hr.2⟩
   ·obtain ⟨d',hd1,hd2⟩:=mM
    obtain ⟨u,w',h1,h2⟩:=vj (ty:=ty) hw fH ⟨hx1,hx2⟩ hy ht Ey eS hd1 hg qg tI hc hd2 qt
    exact ⟨_,u,w',h,h1,h2.told fun Γ' hr=>⟨.inr hr.1,hr.2⟩⟩
  ·exact h.elim
def lN (Γ Γ' : Env):Prop:=∀ b o,Γ.ro b=true->Γ.kp b=some o->Γ'.ro b=true∧Γ'.kp b=some o
structure Ren (ρ:Nat->Option Nat) (Γ Γ' : Env):Prop where
 μ:∀ n j B,ρ n=some j->Γ.μ n=some B->Γ'.μ j=some B
 er:Γ'.er=Γ.er
theorem Ren.pt {ρ:Nat->Option Nat} {Γ Γ' : Env} (h:Ren ρ Γ Γ') {n j:Nat} {B:cR} (hj:ρ n=some j) (hB:Γ.pt n=some B):Γ'.pt j=some B:=Env.bt.2 ⟨h.μ _ _ _ hj (Env.bt.1 hB).1,(Env.bt.1 hB).2⟩
theorem Ren.wh {ρ:Nat->Option Nat} {Γ Γ' : Env} (h:Ren ρ Γ Γ') {n j:Nat} {B:cR} (hj:ρ n=some j) (hB:Γ.wh n=some B):Γ'.wh j=some B:=Env.fL.2 ⟨h.μ _ _ _ hj (Env.fL.1 hB).1,(Env.fL.1 hB).2⟩
theorem dE.tJ {Γ Γ' : Env} (h:lN Γ Γ') {b o:Nat} {vs:List Value} (r:dE Γ b o vs):dE Γ' b o vs:=by
 obtain ⟨h1,c,e,fz,h2,h3⟩:=r
 exact ⟨(h _ _ h1 h2).1,c,e,fz,(h _ _ h1 h2).2,h3⟩
theorem FR.tJ {Γ Γ' : Env} (h:lN Γ Γ') {x:NC} {v:Value} (r:FR Γ x v):FR Γ' x v:=by
 refine ⟨?_,r.2⟩
 replace r:=r.1
 cases x with
 | l k xs=>
   obtain ⟨a,cap,h1,h2,h3⟩:=r
   exact ⟨a,cap,h1,h2,h3.imp id fun ⟨b,o,h4,h5⟩=>⟨b,o,h4,h5.tJ h⟩⟩
 | lr ks xs=>
   obtain ⟨a,cap,h1,h2,h0,h3⟩:=r
   exact ⟨a,cap,h1,h2,h0,h3.imp id fun ⟨b,o,h4,h5⟩=>⟨b,o,h4,h5.tJ h⟩⟩
 | _=>exact r
theorem gR.tJ {Γ Γ' : Env} (h:lN Γ Γ') {sch:List Part} {row:List FC} {v:Value} (r:gR Γ sch row v):gR Γ' sch row v:=by
 obtain ⟨vs,h1,h2,h3⟩:=r
 exact ⟨vs,h1,h2.imp fun _ _ r=>r.tJ h,h3⟩
theorem Ff {ρ:Nat->Option Nat}:∀ {cap l:List (Nat × Nat × Nat)},(cap.mapM fun x=>(ρ x.1).map fun r=>(r,x.2))=some l->R2 (fun (x y:Nat × Nat × Nat)=>ρ x.1=some y.1∧y.2=x.2) cap l
 | [],l,h=>by simp at h; subst h; exact .nil
 | x::cap,l,h=>by
   rw [ayk] at h
   simp only [Option.bind_eq_bind,ayy,ayz,Option.pure_def,Option.some.injEq] at h
   obtain ⟨y,⟨r,hr,rfl⟩,l',AG,rfl⟩:=h
   exact .cons ⟨hr,rfl⟩ (Ff AG)
theorem R2.IH {α β γ:Type} {R:α->β->Prop} {S:α->γ->Prop} {T:β->γ->Prop} {l:List α} {m:List β} {k:List γ} (h:R2 R l m) (g:R2 S l k) (ht:∀ a b c,R a b->S a c->T b c):R2 T m k:=by
 induction h generalizing k with
 | nil=>cases g; exact .nil
 | cons r _ ih=>cases g with
   | cons s g=>exact .cons (ht _ _ _ r s) (ih g)
theorem jJ {ρ:Nat->Option Nat} {Γ Γ' : Env} (h:Ren ρ Γ Γ') {x y:NC} {v:Value} (hl:x.isL=true->lN Γ Γ') (r:CR Γ x v) (hm:bZ ρ x=some y):CR Γ' y v:=by
 refine ⟨?_,r.2⟩
 replace r:=r.1
 cases x with
 | p n i c=>
   simp only [bZ,ayz] at hm
   obtain ⟨j,hj,rfl⟩:=hm
   obtain ⟨B,hB,hv⟩:=r
   exact ⟨B,h.pt hj hB,hv⟩
 | h n o len=>
   simp only [bZ,ayz] at hm
   obtain ⟨j,hj,rfl⟩:=hm
   obtain ⟨B,o,cap,hB,hv⟩:=r
   exact ⟨B,o,cap,h.wh hj hB,hv⟩
 | q n o w i c=>
   simp only [bZ,ayz] at hm
   obtain ⟨j,hj,rfl⟩:=hm
   obtain ⟨B,hB,hv⟩:=r
   exact ⟨B,h.pt hj hB,hv⟩
 | hq n o w i len=>
   simp only [bZ,ayz] at hm
   obtain ⟨j,hj,rfl⟩:=hm
   obtain ⟨B,a,cap,hB,hv⟩:=r
   exact ⟨B,a,cap,h.pt hj hB,hv⟩
 | hz n len=>
   simp only [bZ,ayz] at hm
   obtain ⟨j,hj,rfl⟩:=hm
   rcases r with ⟨h1,h2,B,h3⟩ | ⟨B,o,cap,hB,hv⟩
   ·exact .inl ⟨h1,h2,B,h.μ _ _ _ hj h3⟩
   ·exact .inr ⟨B,o,cap,h.wh hj hB,hv⟩
 | cl f cap=>
   simp only [bZ,ayz] at hm
   obtain ⟨l,AG,rfl⟩:=hm
   obtain ⟨caps,hv,hr⟩:=r
   refine ⟨caps,hv,(Ff AG).IH hr ?_⟩
   rintro a b c ⟨h1,h2⟩ ⟨B,hB,hc⟩
   exact ⟨B,h.pt h1 hB,by rw [h2]; exact hc⟩
 | l k xs=>
   cases hm
   obtain ⟨a,cap,h1,h2,h3⟩:=r
   exact ⟨a,cap,h1,h2,h3.imp id fun ⟨b,o,h4,h5⟩=>⟨b,o,h4,h5.tJ (hl rfl)⟩⟩
 | lr ks xs=>
   cases hm
   obtain ⟨a,cap,h1,h2,h0,h3⟩:=r
   exact ⟨a,cap,h1,h2,h0,h3.imp id fun ⟨b,o,h4,h5⟩=>⟨b,o,h4,h5.tJ (hl rfl)⟩⟩
 | m n=>
   simp only [bZ,ayz] at hm
   obtain ⟨j,hj,rfl⟩:=hm
   obtain ⟨B,hB,hv⟩:=r
   exact ⟨B,h.pt hj hB,hv⟩
 | mn=>cases hm; exact r
 | lt sch xs=>
   cases hm
   obtain ⟨a,cap,h1,h2,h0,hk,h3⟩:=r
   exact ⟨a,cap,h1,h2,h0,hk,h3.imp id fun ⟨b,o,vs,h4,h5,h6⟩=>⟨b,o,vs,h4,h5.tJ (hl rfl),h6.imp fun _ _ r=>r.tJ (hl rfl)⟩⟩
 | pt sch xs i c=>
   cases hm
   obtain ⟨b,o,vs,h1,h0,hk,h2,h3⟩:=r
   exact ⟨b,o,vs,h1,h0,hk,h2.tJ (hl rfl),h3.imp fun _ _ r=>r.tJ (hl rfl)⟩
 | pl k xs i=>cases hm; obtain ⟨b,o,h1,h2⟩:=r; exact ⟨b,o,h1,h2.tJ (hl rfl)⟩
 | pr ks xs i c=>cases hm; obtain ⟨b,o,h1,h2⟩:=r; exact ⟨b,o,h1,h2.tJ (hl rfl)⟩
 | e k=>cases hm; have e:=h.er; simp only [lH] at r ⊢; rw [e]; exact r
 | i k n=>cases hm; exact r
 | b x=>cases hm; exact r
 | s x=>cases hm; exact r
 | pn=>cases hm; exact r
 | sn=>cases hm; exact r
 | g x=>cases hm; exact r
 | en=>cases hm; exact r
theorem jK {α β:Type} {f:α->Option β}:∀ {l:List α} {m:List β},dJ f l=some m->R2 (fun a b=>f a=some b) l m
 | [],m,h=>by simp [dJ] at h; subst h; exact .nil
 | x::l,m,h=>by
   simp only [dJ] at h
   split at h
   ·rename_i a r ha hr
    cases h
    exact .cons ha (jK hr)
   ·cases h
theorem mW {ρ:Nat->Option Nat} {Γ Γ' : Env} (h:Ren ρ Γ Γ') {xs ys:List NC} {vs:List Value} (hl:xs.any NC.isL=true->lN Γ Γ') (r:R2 (CR Γ) xs vs) (hm:dJ (bZ ρ) xs=some ys):R2 (CR Γ') ys vs:=by
 have h1:=jK hm
 clear hm
 induction h1 generalizing vs with
 | nil=>cases r; exact .nil
 | cons a b ih=>
   cases r with
   | cons r1 r2=>
     exact .cons (jJ h (fun e=>hl (by simp [e])) r1 a) (ih (fun e=>hl (by simp only [ayA,ayq]; exact .inr e)) r2)
theorem R2.split {α β:Type} {R:α->β->Prop} {a b:List α} {m:List β} (h:R2 R (a++b) m):R2 R a (m.take a.length)∧R2 R b (m.drop a.length):=by
 have h1:=h.take a.length
 have h2:=h.drop a.length
 rw [axW (axB _),axN (axB _)] at h1
 rw [List.drop_append,Nat.sub_self,List.drop_of_length_le (axB _),axY,axZ] at h2
 exact ⟨h1,h2⟩
theorem bq.pN {Γ Γ' : Env} {s:bq} {vs:List Value} (hn:∀ xs,s≠.cells xs) (r:R2 (CR Γ) s.flat vs):R2 (CR Γ') s.flat vs:=by
 cases s with
 | cells xs=>exact (hn xs rfl).elim
 | ints k n xs=>
   have:=kC r
   subst this
   exact xD Γ' k xs
 | aA ks n xs=>
   have:=kB r
   subst this
   exact qR Γ' ks xs
theorem vn {ρ:Nat->Option Nat} {Γ Γ' : Env} (h:Ren ρ Γ Γ') {xs ys:List bq} {vs:List Value} (hl:(dt xs).any NC.isL=true->lN Γ Γ') (r:R2 (CR Γ) (ay xs) vs) (ho:aK xs) (hm:dJ (iC (bZ ρ)) xs=some ys):R2 (CR Γ') (ay ys) vs∧aK ys:=by
 have h1:=jK hm
 clear hm
 induction h1 generalizing vs with
 | nil=>cases r; exact ⟨.nil,aK.none⟩
 | cons a b ih=>
   rename_i s t l m
   rw [ak] at r
   obtain ⟨r1,r2⟩:=r.split
   obtain ⟨i1,i2⟩:=ih (fun e=>hl (by simp only [dt,List.any_append,ayq]; exact .inr e)) r2 ho.tail
   rw [ak,<- axE s.flat.length vs]
   cases s with
   | cells cs=>
     simp only [iC,ayz] at a
     obtain ⟨z,hz,rfl⟩:=a
     exact ⟨(mW h (fun e=>hl (by simp only [dt,bq.gU,List.any_append,ayq]; exact .inl e)) r1 hz).append i1,aK.mk trivial i2⟩
   | ints k n zs=>
     simp only [iC,Option.some.injEq] at a
     subst a
     exact ⟨(bq.pN (fun _ e=>by cases e) r1).append i1,aK.mk ho.head i2⟩
   | aA ks n zs=>
     simp only [iC,Option.some.injEq] at a
     subst a
     exact ⟨(bq.pN (fun _ e=>by cases e) r1).append i1,aK.mk ho.head i2⟩
theorem AU {ρ:Nat->Option Nat} {Γ Γ' : Env} (h:Ren ρ Γ Γ') {x y:NV} {v:Value} (hl:x.gU.any NC.isL=true->lN Γ Γ') (r:cM Γ x v) (hm:Aw (bZ ρ) x=some y):cM Γ' y v:=by
 cases x with
 | c x=>
   simp only [Aw,ayz] at hm
   obtain ⟨z,hz,rfl⟩:=hm
   exact jJ h (fun e=>hl (by simp [NV.gU,e])) r hz
 | ag xs=>
   simp only [Aw,ayz] at hm
   obtain ⟨z,hz,rfl⟩:=hm
   obtain ⟨vs,hv,hr⟩:=r
   exact ⟨vs,hv,mW h hl hr hz⟩
 | sg l=>
   simp only [Aw,ayz] at hm
   obtain ⟨z,hz,rfl⟩:=hm
   obtain ⟨vs,hv,hr,ho⟩:=r
   exact ⟨vs,hv,vn h hl hr ho hz⟩
theorem pO {ρ:Nat->Option Nat} {Γ Γ' : Env} (h:Ren ρ Γ Γ') {x y:NS} {v:Value} (hl:x.tO=true->lN Γ Γ') (r:b5 Γ x v) (hm:rU (bZ ρ) x=some y):b5 Γ' y v:=by
 cases x with
 | v x=>
   simp only [rU,ayz] at hm
   obtain ⟨z,hz,rfl⟩:=hm
   exact AU h hl r hz
 | tu l=>
   simp only [rU,ayz] at hm
   obtain ⟨z,hz,rfl⟩:=hm
   obtain ⟨vs,hv,hr⟩:=r
   refine ⟨vs,hv,?_⟩
   have h1:=jK hz
   simp only [NS.tO] at hl
   clear hv hz
   induction h1 generalizing vs with
   | nil=>cases hr; exact .nil
   | cons a b ih=>
     cases hr with
     | cons r1 r2=>exact .cons (AU h (fun e=>hl (by simp only [ayA,ayq]; exact .inl e)) r1 a) (ih (fun e=>hl (by simp only [ayA,ayq]; exact .inr e)) _ r2)
 | dead=>simp only [rU,Option.some.injEq] at hm; subst hm; trivial
def aG.tO (g:aG):Bool:=
 match g.body with
 | .cells xs=>xs.any NC.isL
 | .sg l=>(dt l).any NC.isL
 | .ij _ _=>true
 | .mp _ _ _=>true
 | _=>false
theorem Fg {α β:Type} {f:α->Option β} {l:List α} {m:List β} (h:dJ f l=some m):m.length=l.length:=(jK h).length.symm
theorem si {f:NC->Option NC}:∀ {l m:List bq},dJ (iC f) l=some m->b6 m=b6 l
 | [],m,h=>by simp [dJ] at h; subst h; rfl
 | s::l,m,h=>by
   simp only [dJ] at h
   split at h
   ·rename_i a r ha hr
    cases h
    have h1:=si hr
    have h2:a.size=s.size:=by
     cases s with
     | cells xs=>
       simp only [iC,ayz] at ha
       obtain ⟨z,hz,rfl⟩:=ha
       exact Fg hz
     | ints k n xs=>cases ha; rfl
     | aA ks n xs=>cases ha; rfl
    simp only [b6,h1,h2]
   ·cases h
theorem II {f:NC->Option NC} {g g' : aG} (h:cX f g=some g'):g'.body.len=g.body.len∧g'.e=g.e∧g'.st=g.st:=by
 unfold cX at h
 split at h
 ·rename_i xs hb
  simp only [ayz] at h
  obtain ⟨z,hz,rfl⟩:=h
  rw [hb]
  exact ⟨congrArg some (Fg hz),rfl,rfl⟩
 ·rename_i l hb
  simp only [ayz] at h
  obtain ⟨z,hz,rfl⟩:=h
  rw [hb]
  exact ⟨congrArg some (si hz),rfl,rfl⟩
 ·cases h
  exact ⟨rfl,rfl,rfl⟩
theorem lf.same {B:cR} {g g' : aG} {l:List Value} (h:lf B g l) (hl:g'.body.len=g.body.len) (he:g'.e=g.e):lf B g' l:=by
 unfold lf at h ⊢
 rw [hl,he]
 exact h
theorem CD {f:NC->Option NC} {g g' : aG} (h:cX f g=some g') (hg:uY g):uY g':=by
 unfold cX at h
 rcases hg with ⟨k,hb⟩ | ⟨ks,hb⟩ | ⟨sch,hb,h0⟩
 ·rw [hb] at h; cases h; exact .inl ⟨k,hb⟩
 ·rw [hb] at h; cases h; exact .inr (.inl ⟨ks,hb⟩)
 ·rw [hb] at h; cases h; exact .inr (.inr ⟨sch,hb,h0⟩)
theorem mX {ρ:Nat->Option Nat} {Γ Γ' : Env} (h:Ren ρ Γ Γ') {g g' : aG} {B:cR} {w:World} (hl:g.tO=true->lN Γ Γ') (r:cN Γ g B w) (hm:cX (bZ ρ) g=some g'):cN Γ' g' B w:=by
 rcases r with ⟨h0,r⟩ | ⟨h0,c,h1,h2,h3,h4,hp⟩ | ⟨h0,r⟩
 ·exact .inl ⟨h0,CD hm r⟩
 rotate_left
 ·obtain ⟨⟨ks,sch,xs,es,ck,h1,h2,h3⟩,h4,h5⟩:=r
  have dK:=hl (by simp only [aG.tO,h1])
  have e:g'=g:=by unfold cX at hm; rw [h1] at hm; cases hm; rfl
  rw [e]
  exact .inr (.inr ⟨h0,⟨ks,sch,xs,es,ck,h1,h2,h3.imp fun _ _ r=>⟨r.1.tJ dK,r.2.tJ dK⟩⟩,h4,h5⟩)
 obtain ⟨l1,l2,l3⟩:=II hm
 refine .inr (.inl ⟨h0,c,h1,h2.trans l3.symm,h3,?_,hp.same l1 l2⟩)
 rw [l3]
 clear l1 l2 l3 h1 h2 h3 hp
 unfold cX at hm
 split at hm
 ·rename_i xs hb
  simp only [ayz] at hm
  obtain ⟨z,hz,rfl⟩:=hm
  rw [hb] at h4
  obtain ⟨l1,l2,h5,h6⟩:=h4
  exact ⟨l1,l2,h5,mW h (fun e=>hl (by simp only [aG.tO,hb]; exact e)) h6 hz⟩
 ·rename_i l hb
  simp only [ayz] at hm
  obtain ⟨z,hz,rfl⟩:=hm
  rw [hb] at h4
  obtain ⟨l1,l2,h5,h6,h7⟩:=h4
  exact ⟨l1,l2,h5,vn h (fun e=>hl (by simp only [aG.tO,hb]; exact e)) h6 h7 hz⟩
 ·rename_i hnb hns
  cases hm
  cases hb:g.body with
  | cells xs=>exact (hnb xs hb).elim
  | sg l=>exact (hns l hb).elim
  | ints k xs=>rw [hb] at h4; exact h4
  | aA ks xs=>rw [hb] at h4; exact h4
  | mp ks sch xs=>rw [hb] at h4; exact h4
  | ij sch xs=>
    have dK:=hl (by simp only [aG.tO,hb])
    rw [hb] at h4
    obtain ⟨hs,h0,l1,l2,h1,h2,h3⟩:=h4
    exact ⟨hs,h0,l1,l2,h1,h2.imp fun _ _ r=>r.tJ dK,h3⟩
theorem lO {f:NC->Option NC}:∀ {l m:List (Option aG)},ik f l=some m->m.length=l.length∧∀ (j:Nat) (g' : aG),(m[j]? = some (some g')->∃ g,l[j]? = some (some g)∧cX f g=some g')
 | [],m,h=>by simp [ik] at h; subst h; exact ⟨rfl,fun j g' hj=>by simp at hj⟩
 | none::l,m,h=>by
   simp only [ik,ayz] at h
   obtain ⟨r,hr,rfl⟩:=h
   obtain ⟨h1,h2⟩:=lO hr
   refine ⟨by simp [h1],fun j g' hj=>?_⟩
   cases j with
   | zero=>simp at hj
   | succ j=>simpa using h2 j g' (by simpa using hj)
 | some g::l,m,h=>by
   simp only [ik] at h
   split at h
   ·rename_i a r ha hr
    cases h
    obtain ⟨h1,h2⟩:=lO hr
    refine ⟨by simp [h1],fun j g' hj=>?_⟩
    cases j with
    | zero=>simp at hj; subst hj; exact ⟨g,by simp,ha⟩
    | succ j=>simpa using h2 j g' (by simpa using hj)
   ·cases h
theorem qT {l:List Nat} {n j:Nat} (h:dz l n=some j):l[j]? = some n:=by
 unfold dz at h
 rw [List.findIdx?_eq_some_iff_getElem] at h
 obtain ⟨hj,he,-⟩:=h
 rw [axP hj]
 simpa using he
theorem qU {l:List Nat} {n:Nat} (h:dz l n=none):n ∉ l:=by
 unfold dz at h
 rw [List.findIdx?_eq_none_iff] at h
 intro hn
 have:=h n hn
 simp at this
theorem Pe {l:List Nat} (h:l.Nodup) {i j n:Nat} (hi:l[i]? = some n) (hj:l[j]? = some n):i=j:=by
 obtain ⟨h1,h2⟩:=List.getElem?_eq_some_iff.1 hi
 obtain ⟨h3,h4⟩:=List.getElem?_eq_some_iff.1 hj
 rcases Nat.lt_trichotomy i j with Pf | Pf | Pf
 ·exact absurd (h2.trans h4.symm) ((List.pairwise_iff_getElem.1 h) i j h1 h3 Pf)
 ·exact Pf
 ·exact absurd (h4.trans h2.symm) ((List.pairwise_iff_getElem.1 h) j i h3 h1 Pf)
theorem dL (s:St):∀ (fuel:Nat) (todo acc:List Nat),acc.Nodup->(reach s fuel todo acc).Nodup
 | 0,todo,acc,h=>by simpa [reach] using h
 | fuel+1,[],acc,h=>by simpa [reach] using h
 | fuel+1,n::todo,acc,h=>by
   simp only [reach]
   split
   ·exact dL s fuel todo acc h
   ·rename_i hc
    split
    ·refine dL s fuel _ _ ?_
     rw [List.nodup_append]
     refine ⟨h,by simp,?_⟩
     intro a ha b hb
     simp only [ayx] at hb
     subst hb
     rintro rfl
     exact hc (by simpa using ha)
    ·exact dL s fuel todo acc h
theorem aQ.restrict {Γ Γ' : Env} {s:St} {w:World} {L:List Nat} {mY : List (Option aG)} (hw:aQ Γ s.rg w) (hL:L.Nodup) (hm:ik (bZ (dz L)) (L.map s.bK)=some mY)
  (hμ:∀ j,Γ'.μ j=(L[j]?).bind Γ.μ) (her:Γ'.er=Γ.er) (dK:lN Γ Γ')
  (Pc:∀ b o,Γ'.kp b=some o->w.heap[b]? = some o) (hap:∀ n B,n∈L->Nx.live s.rg n->Γ.pt n=some B->Γ'.kp B.ax=none) (hrk:∀ b,Γ'.ro b=true->∃ o,Γ'.kp b=some o):aQ Γ' mY w:=by
 have gv:Ren (dz L) Γ Γ':=⟨fun n j B h1 h2=>by rw [hμ,qT h1]; exact h2,her⟩
 have Cz:∀ {j n:Nat} {B:cR},L[j]? = some n->Γ'.pt j=some B->Γ.pt n=some B:=fun {j n B} hj hB=>by
  obtain ⟨h1,h2⟩:=Env.bt.1 hB
  rw [hμ,hj] at h1
  exact Env.bt.2 ⟨h1,h2⟩
 obtain ⟨hlen,aiM⟩:=lO hm
 have hl:∀ (j:Nat) (g' : aG),mY[j]? = some (some g')->∃ n g,L[j]? = some n∧s.rg[n]? = some (some g)∧cX (bZ (dz L)) g=some g':=by
  intro j g' hj
  obtain ⟨g,hg,hmg⟩:=aiM j g' hj
  rw [ayn] at hg
  cases e:L[j]? with
  | none=>simp [e] at hg
  | some n=>
    simp only [e,ayo,Option.some.injEq] at hg
    exact ⟨n,g,rfl,(bS s n g).1 hg,hmg⟩
 refine ⟨fun j g' hj=>?_,fun i j B B' b9 li lj hB sj=>?_,Pc,fun j B lj hB=>?_,hrk⟩
 ·obtain ⟨n,g,h1,h2,h3⟩:=hl j g' hj
  obtain ⟨B,hB,hr⟩:=hw.live n g h2
  exact ⟨B,by rw [hμ,h1]; exact hB,mX gv (fun _=>dK) hr h3⟩
 ·obtain ⟨gi,hi⟩:=li
  obtain ⟨gj,hj⟩:=lj
  obtain ⟨n,g,h1,h2,-⟩:=hl i gi hi
  obtain ⟨n',g',h1',h2',-⟩:=hl j gj hj
  refine hw.inj n n' B B' ?_ ⟨g,h2⟩ ⟨g',h2'⟩ (Cz h1 hB) (Cz h1' sj)
  rintro rfl
  exact b9 (Pe hL h1 h1')
 ·obtain ⟨g,hg⟩:=lj
  obtain ⟨n,g',h1,h2,-⟩:=hl j g hg
  exact hap n B (ayB h1) ⟨g',h2⟩ (Cz h1 hB)
def aoC (P:Program) (gl:List Nat) (f:FuncId) (T:au):Prop:=
 ∀ (args:List NV) (I:List aG) (R:Out->Prop),(T args I).run R->
 ∀ (Γ:Env) (w:World) (vs:List Value),aQ Γ (I.map some) w->GlobOk gl Γ->R2 (cM Γ) args vs->(∀ n,I.length<=n->Γ.μ n=none)->
 Calls P f vs.toArray w fun e w'=>∃ o v Γ',R o∧e=.returned v∧Ext Γ w Γ'∧b5 Γ' o.res v∧aQ Γ' o.rg w'∧Wd w w'
structure Known (P:Program) (gl:List Nat) (f:FuncId) (T:au):Prop where
 qV:∀ args w,(callFunc f args).run P w=.ok (.enter f args) w
 sound:aoC P gl f T
def aiN (P:Program) (gl:List Nat) (f:FuncId) (T:au):Prop:=
 ∀ (args:List NV) (I:List aG) (R:Out->Prop),(T args I).run R->
 ∀ (Γ:Env) (w:World) (vs:List Value),aQ Γ (I.map some) w->GlobOk gl Γ->R2 (cM Γ) args vs->(∀ n,I.length<=n->Γ.μ n=none)->
 Calls P f vs.toArray w fun e w'=>∃ o v Γ',(R o∧∀ n,o.rg.length<=n->Γ'.μ n=none)∧e=.returned v∧Ext Γ w Γ'∧b5 Γ' o.res v∧aQ Γ' o.rg w'∧Wd w w'
structure bP (P:Program) (gl:List Nat) (f:FuncId) (T:au):Prop where
 qV:∀ args w,(callFunc f args).run P w=.ok (.enter f args) w
 sound:aiN P gl f T
theorem bP.known {P:Program} {gl:List Nat} {f:FuncId} {T:au} (h:bP P gl f T):Known P gl f T:=
 ⟨h.qV,fun args I R hR Γ w vs h1 h2 h3 h4=>(h.sound args I R hR Γ w vs h1 h2 h3 h4).mono fun _ _ ⟨o,v,Γ',k1,k2⟩=>⟨o,v,Γ',k1.1,k2⟩⟩
theorem AW {P:Program} {s:St} {Γ Γ' : Env} {w:World} {aB:List Nat} {t:Option TypeId} {x y:NC} {v:Value} {c:List Bool} (hw:aQ Γ s.rg w) (gv:Ren (dz aB) Γ Γ') (dK:lN Γ Γ')
  (kJ:∀ r B g,r∈names x->r ∉ aB->s.rg[r]? = some (some g)->Γ.pt r=some B->Γ'.ro B.ax=true∧Γ'.kp B.ax=w.heap[B.ax]?)
  (r:CR Γ x v) (h:kq P s aB t x=some (c,y)) (hc:bT c):CR Γ' y v:=by
 unfold kq at h
 split at h
 ·rename_i n off len
  split at h
  ·rename_i i hi
   cases h
   exact jJ gv (fun _=>dK) r (by simp [bZ,hi])
  ·rename_i hi
   have Fh:=qU hi
   split at h
   ·rename_i c' k xs he
    cases h
    obtain ⟨a,cap,hv,eQ,bO⟩:=iG hw r he hc
    obtain ⟨⟨B,o,sk,hB,hv',IJ,nV,dh⟩,h1⟩:=r
    refine ⟨⟨a,cap,hv,eQ,?_⟩,h1⟩
    simp only [nL] at he
    split at he
    case h_2=>cases he
    rename_i g hg
    have gS:=(bS s n g).1 hg
    obtain ⟨cs,hcs,fv,cS,aH⟩:=hw.Cg hB gS
    obtain ⟨RJ,vY⟩:=kJ n B g (by simp [names]) Fh gS (Env.gY hB)
    split at he
    ·rename_i k0 Ae hb
     cases he
     rw [hb] at aH
     obtain ⟨h1',l2,hl⟩:=aH
     have hlen:off+len<=Ae.length:=by simpa [bT] using hc
     rw [hv'] at hv
     simp only [Value.slice.injEq] at hv
     rcases dh with ⟨rfl,-⟩ | h0
     ·right
      refine ⟨B.ax,off * B.st,hv.1.symm,RJ,cs,g.e,(0,0),by rw [vY,hcs],fun j u hj=>?_⟩
      rw [ax2,List.map_drop] at hj
      have:=aV (l2:=l2) (bU hj)
      rw [<- hl] at this
      rw [fv,h1',Nat.mul_one]
      simpa using this
     ·left
      have:len=0:=by omega
      subst this
      simp
    ·cases he
    ·cases he
    ·cases he
    ·cases he
    ·cases he
   ·rename_i c' ks xs he
    cases h
    obtain ⟨a,cap,hv,eQ,bO⟩:=iG hw r he hc
    obtain ⟨⟨B,o,sk,hB,hv',IJ,nV,dh⟩,h1⟩:=r
    simp only [nL] at he
    split at he
    case h_2=>cases he
    rename_i g hg
    have gS:=(bS s n g).1 hg
    obtain ⟨cs,hcs,fv,cS,aH⟩:=hw.Cg hB gS
    obtain ⟨RJ,vY⟩:=kJ n B g (by simp [names]) Fh gS (Env.gY hB)
    split at he
    ·cases he
    ·rename_i ks0 Ae hb
     cases he
     rw [hb] at aH
     obtain ⟨h1',So,l2,hl⟩:=aH
     refine ⟨⟨a,cap,hv,eQ,So,?_⟩,h1⟩
     have hlen:off+len<=Ae.length:=by simpa [bT] using hc
     rw [hv'] at hv
     simp only [Value.slice.injEq] at hv
     rcases dh with ⟨rfl,-⟩ | h0
     ·right
      refine ⟨B.ax,off * B.st,hv.1.symm,RJ,cs,g.e,(0,0),by rw [vY,hcs],fun j u hj=>?_⟩
      rw [<- eF,<- gu] at hj
      have:=aV (l2:=l2) (bU hj)
      rw [<- hl] at this
      rw [fv,h1']
      simpa using this
     ·left
      have:len=0:=by omega
      subst this
      simp
    ·cases he
    ·cases he
    ·cases he
    ·cases he
   ·split at h
    case h_2=>cases h
    rename_i c' sch xs he
    cases h
    obtain ⟨⟨B,o,sk,hB,hv',IJ,nV,dh⟩,h1⟩:=r
    simp only [lE] at he
    split at he
    case h_2=>cases he
    rename_i g hg
    split at he
    case h_2=>cases he
    rename_i SL Ae hb
    cases he
    have gS:=(bS s n g).1 hg
    obtain ⟨cs,hcs,fv,cS,aH⟩:=hw.Cg hB gS
    obtain ⟨RJ,vY⟩:=kJ n B g (by simp [names]) Fh gS (Env.gY hB)
    rw [hb] at aH
    obtain ⟨oA,hs0,l1,l2,hl,hr,hk⟩:=aH
    have hlen:off+len<=Ae.length:=by simpa [bT] using hc
    have e1:((Ae.drop off).take len).length=len:=by simp; omega
    refine ⟨⟨some ⟨B.ax,o,none⟩,sk,by rw [hv',e1],by rw [e1]; exact IJ,hs0,(hk.drop off).take len,?_⟩,h1⟩
    rcases dh with ⟨rfl,-⟩ | h0
    ·right
     refine ⟨B.ax,off * B.st,(l1.drop (off * aO sch)).take (len * aO sch),rfl,⟨RJ,cs,g.e,(0,0),by rw [vY,hcs],fun j u hj=>?_⟩,?_⟩
     ·have:=aV (l2:=l2) (bU hj)
      rw [<- hl] at this
      rw [fv,oA]
      simpa using this
     ·rw [<- gn (hk.drop off),<- mU hk]
      exact ((hr.drop _).take _).imp fun _ _ r=>r.tJ dK
    ·left
     have:len=0:=by omega
     subst this
     simp
 ·rename_i n o ww i len
  split at h
  ·rename_i j hj
   cases h
   exact jJ gv (fun _=>dK) r (by simp [bZ,hj])
  ·rename_i hj
   have Fh:=qU hj
   have vT:∀ {ys:cK} {c' : List Bool},nL s (.hq n o ww i len)=some (c',ys)->bT c'->∃ a cap,v=.slice a ys.length cap∧ys.length<=cap∧v.oneCell'=true∧(ys.length=0∨∃ ax off,a=some ⟨ax,off,none⟩∧dE Γ' ax off ys.bF):=by
    intro ys c' he lJ
    have he':=he
    obtain ⟨⟨B,ad,cap,hB,hv,eQ,nV,eL⟩,h1⟩:=r
    simp only [nL] at he
    split at he
    case h_2=>cases he
    rename_i g hg
    have gS:=(bS s n g).1 hg
    obtain ⟨RJ,vY⟩:=kJ n B g (by simp [names]) Fh gS hB
    split at he
    case h_2=>cases he
    rename_i l hb
    obtain ⟨cs,hA⟩:=hw.at hB gS (by rw [hb]; rfl)
    have aH:=hA.body
    rw [hb] at aH
    have hse:=kH aH.lK he lJ
    obtain ⟨l1,l2,hl,hr,-⟩:=aH
    have lg:=(hr.drop (o+i * ww)).take (len * ww)
    have key:ys.length=len∧(l1.drop (o+i * ww)).take (len * ww)=ys.bF:=by
     rcases hse with ⟨k,xs,rfl,hw1,wM,he⟩ | ⟨ks,xs,rfl,hw1,h0,wM,he⟩
     ·rw [he] at lg
      exact ⟨wM,kC lg⟩
     ·rw [he] at lg
      exact ⟨wM,kB lg⟩
    rw [key.1]
    refine ⟨_,cap,hv,eQ,h1,?_⟩
    rcases eL with rfl | h0
    ·right
     refine ⟨B.ax,_,rfl,RJ,cs,B.e,(0,0),by rw [vY,hA.heap],fun j u hj=>?_⟩
     rw [<- key.2] at hj
     have:=aV (l2:=l2) (bU hj)
     rw [<- hl,List.getElem?_drop] at this
     rw [aye]
     simpa using this
    ·left; omega
   split at h
   ·rename_i c' k xs he
    cases h
    obtain ⟨a,cap,hv,eQ,h1,hx⟩:=vT he hc
    refine ⟨⟨a,cap,hv,eQ,hx.imp (fun h=>ayb h) id⟩,h1⟩
   ·rename_i c' ks xs he
    cases h
    have h0:0<ks.length:=by
     simp only [nL] at he
     split at he
     case h_2=>cases he
     split at he
     case h_2=>cases he
     rename_i g hg _ l hb
     obtain ⟨⟨B,ad,cap,hB,-⟩,-⟩:=r
     obtain ⟨cs,hA⟩:=hw.at hB ((bS s n g).1 hg) (by rw [hb]; rfl)
     have aH:=hA.body
     rw [hb] at aH
     rcases kH aH.lK he hc with ⟨k,xs',hh,-⟩ | ⟨nT,xs',hh,-,h0,-⟩
     ·cases hh
     ·cases hh; exact h0
    obtain ⟨a,cap,hv,eQ,h1,hx⟩:=vT he hc
    refine ⟨⟨a,cap,hv,eQ,h0,hx.imp (fun h=>ayb h) id⟩,h1⟩
   ·cases h
 ·rename_i n len
  split at h
  ·rename_i j hj
   cases h
   exact jJ gv (fun _=>dK) r (by simp [bZ,hj])
  ·rename_i hj
   have Fh:=qU hj
   have vT:∀ {ys:cK} {c' : List Bool},nL s (.hz n len)=some (c',ys)->bT c'->∃ a cap,v=.slice a ys.length cap∧ys.length<=cap∧v.oneCell'=true∧(ys.length=0∨∃ ax off,a=some ⟨ax,off,none⟩∧dE Γ' ax off ys.bF):=by
    intro ys c' he lJ
    obtain ⟨hr,h1⟩:=r
    simp only [nL] at he
    split at he
    case h_2=>cases he
    rename_i g hg
    have gS:=(bS s n g).1 hg
    rcases hr with ⟨rfl,rfl,-⟩ | ⟨B,o,cap,hB,hv,eQ,nV,dh⟩
    ·have h0:ys.length=0:=by
      split at he
      ·cases he; simp [cK.length]
      ·cases he; simp [cK.length]
      ·cases he
     rw [h0]
     exact ⟨none,0,rfl,axB _,h1,.inl rfl⟩
    obtain ⟨cs,hcs,fv,cS,aH⟩:=hw.Cg hB gS
    obtain ⟨RJ,vY⟩:=kJ n B g (by simp [names]) Fh gS (Env.gY hB)
    split at he
    ·rename_i k xs hb
     cases he
     rw [hb] at aH
     obtain ⟨h1',l2,hl⟩:=aH
     have hlen:len<=xs.length:=by simpa [bT] using lJ
     have e1:(cK.ints k (xs.take len)).length=len:=by simp [cK.length]; omega
     rw [e1]
     refine ⟨_,cap,hv,eQ,h1,?_⟩
     rcases dh with ⟨rfl,-⟩ | h0
     ·right
      refine ⟨B.ax,_,rfl,RJ,cs,g.e,(0,0),by rw [vY,hcs],fun j u hj=>?_⟩
      simp only [cK.bF,ax2] at hj
      rw [axQ] at hj
      split at hj
      case isFalse=>cases hj
      have:=aV (l2:=l2) hj
      rw [<- hl] at this
      rw [ayc,ayf]
      simpa using this
     ·left; omega
    ·rename_i ks xs hb
     cases he
     rw [hb] at aH
     obtain ⟨h1',So,l2,hl⟩:=aH
     have hlen:len<=xs.length:=by simpa [bT] using lJ
     have e1:(cK.aA ks (xs.take len)).length=len:=by simp [cK.length]; omega
     rw [e1]
     refine ⟨_,cap,hv,eQ,h1,?_⟩
     rcases dh with ⟨rfl,-⟩ | h0
     ·right
      refine ⟨B.ax,_,rfl,RJ,cs,g.e,(0,0),by rw [vY,hcs],fun j u hj=>?_⟩
      simp only [cK.bF] at hj
      rw [<- eF,axQ] at hj
      split at hj
      case isFalse=>cases hj
      have:=aV (l2:=l2) hj
      rw [<- hl] at this
      rw [ayc,ayf]
      simpa using this
     ·left; omega
    ·cases he
   split at h
   ·rename_i c' k xs he
    cases h
    obtain ⟨a,cap,hv,eQ,h1,hx⟩:=vT he hc
    refine ⟨⟨a,cap,hv,eQ,hx.imp (fun h=>ayb h) id⟩,h1⟩
   ·rename_i c' ks xs he
    split at h
    case isFalse=>cases h
    rename_i h0
    cases h
    obtain ⟨a,cap,hv,eQ,h1,hx⟩:=vT he hc
    refine ⟨⟨a,cap,hv,eQ,h0,hx.imp (fun h=>ayb h) id⟩,h1⟩
   ·split at h
    case h_2=>cases h
    rename_i c' sch xs he
    cases h
    obtain ⟨hr0,h1⟩:=r
    simp only [lE] at he
    split at he
    case h_2=>cases he
    rename_i g hg
    split at he
    case h_2=>cases he
    rename_i SL Ae hb
    cases he
    have gS:=(bS s n g).1 hg
    have hlen:len<=Ae.length:=by simpa [bT] using hc
    have e1:(Ae.take len).length=len:=by simp; omega
    rcases hr0 with ⟨rfl,rfl,B0,hB0⟩ | ⟨B,o,sk,hB,hv',IJ,nV,dh⟩
    ·obtain ⟨B,hB,hrr⟩:=hw.live n g gS
     have hs:0<aO sch∧dD sch Ae:=by
      rcases hrr with ⟨-,⟨k,hk⟩ | ⟨ks,hk⟩ | ⟨rV,hk,h0⟩⟩ | ⟨-,c,hA⟩ | ⟨-,hM⟩
      ·rw [hb] at hk; cases hk
      ·rw [hb] at hk; cases hk
      ·rw [hb] at hk; cases hk
       exact ⟨h0,fun _ h=>by cases h⟩
      ·have:=hA.body
       rw [hb] at this
       obtain ⟨oA,hs0,l1,l2,hl,hr,hk⟩:=this
       exact ⟨hs0,hk⟩
      ·obtain ⟨_,_,_,_,_,hk,-⟩:=hM.mp
       rw [hb] at hk; cases hk
     exact ⟨⟨none,0,by simp,by simp,hs.1,hs.2.take 0,.inl (by simp)⟩,h1⟩
    obtain ⟨cs,hcs,fv,cS,aH⟩:=hw.Cg hB gS
    obtain ⟨RJ,vY⟩:=kJ n B g (by simp [names]) Fh gS (Env.gY hB)
    rw [hb] at aH
    obtain ⟨oA,hs0,l1,l2,hl,hr,hk⟩:=aH
    refine ⟨⟨some ⟨B.ax,o,none⟩,sk,by rw [hv',e1],by rw [e1]; exact IJ,hs0,hk.take len,?_⟩,h1⟩
    rcases dh with ⟨rfl,-⟩ | h0
    ·right
     refine ⟨B.ax,0 * B.st,l1.take (len * aO sch),rfl,⟨RJ,cs,g.e,(0,0),by rw [vY,hcs],fun j u hj=>?_⟩,?_⟩
     ·rw [axQ] at hj
      split at hj
      case isFalse=>cases hj
      have:=aV (l2:=l2) hj
      rw [<- hl] at this
      rw [ayc,ayf]
      simpa using this
     ·rw [<- gn hk]
      exact (hr.take _).imp fun _ _ r=>r.tJ dK
    ·left
     have:len=0:=by omega
     subst this
     simp
 ·obtain ⟨hv,h1⟩:=r
  cases h
  exact ⟨hv,h1⟩
 ·simp only [ayz] at h
  obtain ⟨z,hz,he⟩:=h
  cases he
  exact jJ gv (fun _=>dK) r hz
theorem jk {a b:List Bool} (h:bT (a++b)):bT a∧bT b:=by
 constructor <;> intro x hx <;> exact h x (by simp [hx])
theorem xL {P:Program} {s:St} {Γ Γ' : Env} {w:World} {aB:List Nat} {t:Option TypeId} (hw:aQ Γ s.rg w) (gv:Ren (dz aB) Γ Γ') (dK:lN Γ Γ') :
  ∀ {xs ys:List NC} {vs:List Value} {c:List Bool},(∀ r B g,r∈xs.flatMap names->r ∉ aB->s.rg[r]? = some (some g)->Γ.pt r=some B->Γ'.ro B.ax=true∧Γ'.kp B.ax=w.heap[B.ax]?)->
  R2 (CR Γ) xs vs->Ca (kq P s aB t) xs=some (c,ys)->bT c->R2 (CR Γ') ys vs
 | [],ys,vs,c,_,r,h,_=>by
   simp only [Ca,Option.some.injEq,Prod.mk.injEq] at h
   obtain ⟨-,rfl⟩:=h
   cases r; exact .nil
 | x::xs,ys,vs,c,hl,r,h,hc=>by
   simp only [Ca] at h
   split at h
   ·rename_i c1 a c2 l h1 h2
    cases h
    obtain ⟨uZ,qt⟩:=jk hc
    cases r with
    | cons r1 r2=>
      exact .cons (AW hw gv dK (fun q B g hq=>hl q B g (by simp [hq])) r1 h1 uZ) (xL hw gv dK (fun q B g hq=>hl q B g (by simp only [axA,ayC]; exact .inr hq)) r2 h2 qt)
   ·cases h
theorem vo {P:Program} {s:St} {Γ Γ' : Env} {w:World} {aB:List Nat} {t:Option TypeId} (hw:aQ Γ s.rg w) (gv:Ren (dz aB) Γ Γ') (dK:lN Γ Γ') :
  ∀ {xs ys:List bq} {vs:List Value} {c:List Bool},(∀ r B g,r∈(dt xs).flatMap names->r ∉ aB->s.rg[r]? = some (some g)->Γ.pt r=some B->Γ'.ro B.ax=true∧Γ'.kp B.ax=w.heap[B.ax]?)->
  R2 (CR Γ) (ay xs) vs->aK xs->kr (kq P s aB t) xs=some (c,ys)->bT c->R2 (CR Γ') (ay ys) vs∧aK ys
 | [],ys,vs,c,_,r,_,h,_=>by
   simp only [kr,Option.some.injEq,Prod.mk.injEq] at h
   obtain ⟨-,rfl⟩:=h
   cases r; exact ⟨.nil,aK.none⟩
 | x::xs,ys,vs,c,hl,r,ho,h,hc=>by
   simp only [kr] at h
   split at h
   case h_2=>cases h
   rename_i c1 a c2 l h1 h2
   cases h
   obtain ⟨uZ,qt⟩:=jk hc
   rw [ak] at r
   obtain ⟨r1,r2⟩:=r.split
   obtain ⟨i1,i2⟩:=vo hw gv dK (fun q B g hq=>hl q B g (by simp only [dt,List.flatMap_append,ayC]; exact .inr hq)) r2 ho.tail h2 qt
   rw [ak,<- axE x.flat.length vs]
   cases x with
   | cells cs=>
     simp only [xn,ayz] at h1
     obtain ⟨p,hp,he⟩:=h1
     cases he
     exact ⟨(xL hw gv dK (fun q B g hq=>hl q B g (by simp only [dt,bq.gU,List.flatMap_append,ayC]; exact .inl hq)) r1 hp uZ).append i1,aK.mk trivial i2⟩
   | ints k n zs=>
     simp only [xn,Option.some.injEq,Prod.mk.injEq] at h1
     obtain ⟨-,rfl⟩:=h1
     exact ⟨(bq.pN (fun _ e=>by cases e) r1).append i1,aK.mk ho.head i2⟩
   | aA ks n zs=>
     simp only [xn,Option.some.injEq,Prod.mk.injEq] at h1
     obtain ⟨-,rfl⟩:=h1
     exact ⟨(bq.pN (fun _ e=>by cases e) r1).append i1,aK.mk ho.head i2⟩
theorem Ph {P:Program} {s:St} {Γ Γ' : Env} {w:World} {aB:List Nat} {t:Option TypeId} {x y:NV} {v:Value} {c:List Bool} (hw:aQ Γ s.rg w) (gv:Ren (dz aB) Γ Γ') (dK:lN Γ Γ')
  (kJ:∀ r B g,r∈x.names->r ∉ aB->s.rg[r]? = some (some g)->Γ.pt r=some B->Γ'.ro B.ax=true∧Γ'.kp B.ax=w.heap[B.ax]?)
  (r:cM Γ x v) (h:qm P s aB t x=some (c,y)) (hc:bT c):cM Γ' y v:=by
 cases x with
 | c x=>
   simp only [qm,ayz] at h
   obtain ⟨p,hp,he⟩:=h
   cases he
   exact AW hw gv dK (fun q B g hq=>kJ q B g (by simp [NV.names,NV.gU,hq])) r hp hc
 | ag xs=>
   simp only [qm,ayz] at h
   obtain ⟨p,hp,he⟩:=h
   cases he
   obtain ⟨vs,hv,hr⟩:=r
   exact ⟨vs,hv,xL hw gv dK (fun q B g hq=>kJ q B g hq) hr hp hc⟩
 | sg l=>
   simp only [qm,ayz] at h
   obtain ⟨p,hp,he⟩:=h
   cases he
   obtain ⟨vs,hv,hr,ho⟩:=r
   exact ⟨vs,hv,vo hw gv dK (fun q B g hq=>kJ q B g hq) hr ho hp hc⟩
theorem xN {P:Program} {s:St} {Γ Γ' : Env} {w:World} {aB:List Nat} (hw:aQ Γ s.rg w) (gv:Ren (dz aB) Γ Γ') (dK:lN Γ Γ') :
  ∀ {ts:List TypeId} {xs ys:List NV} {vs:List Value} {c:List Bool},(∀ r B g,r∈xs.flatMap NV.names->r ∉ aB->s.rg[r]? = some (some g)->Γ.pt r=some B->Γ'.ro B.ax=true∧Γ'.kp B.ax=w.heap[B.ax]?)->
  R2 (cM Γ) xs vs->od P s aB ts xs=some (c,ys)->bT c->R2 (cM Γ') ys vs
 | _,[],ys,vs,c,_,r,h,_=>by
   simp only [od,Option.some.injEq,Prod.mk.injEq] at h
   obtain ⟨-,rfl⟩:=h
   cases r; exact .nil
 | ts,x::xs,ys,vs,c,hl,r,h,hc=>by
   simp only [od] at h
   split at h
   ·rename_i c1 a c2 l h1 h2
    cases h
    obtain ⟨uZ,qt⟩:=jk hc
    cases r with
    | cons r1 r2=>
      exact .cons (Ph hw gv dK (fun q B g hq=>hl q B g (by simp only [axA,ayC]; exact .inl hq)) r1 h1 uZ) (xN hw gv dK (fun q B g hq=>hl q B g (by simp only [axA,ayC]; exact .inr hq)) r2 h2 qt)
   ·cases h
theorem xO (s:St) (a b:List (Nat × Option aG)):s.fR (a++b)=(s.fR a).fR b:=by
 induction a generalizing s with
 | nil=>rfl
 | cons x a ih=>obtain ⟨n,g⟩:=x; exact ih _
theorem ua (s:St) (u:List (Nat × Option aG)):(s.fR u).fr=s.fr:=by
 induction u generalizing s with
 | nil=>rfl
 | cons x u ih=>obtain ⟨n,g⟩:=x; exact (ih _).trans rfl
theorem sl {s:St} {u:List (Nat × Option aG)} {n:Nat} {g:aG} (h:(s.fR u).rg[n]? = some (some g)):(n,some g)∈u∨(s.rg[n]? = some (some g)∧∀ x,(n,x) ∉ u):=by
 induction u generalizing s with
 | nil=>exact .inr ⟨h,by simp⟩
 | cons x u ih=>
   obtain ⟨m,y⟩:=x
   rcases ih (s:=s.cn m y) h with h1 | ⟨h1,h2⟩
   ·exact .inl (by simp [h1])
   ·rcases (bn _ _ _ _ _).1 h1 with ⟨rfl,rfl⟩ | ⟨h3,h4⟩
    ·exact .inl (by simp)
    ·refine .inr ⟨h4,fun x hx=>?_⟩
     simp only [ayD,Prod.mk.injEq] at hx
     rcases hx with ⟨rfl,-⟩ | hx
     ·exact h3 rfl
     ·exact h2 x hx
theorem SM {s:St} {l:List Nat} {n:Nat} {g:aG} (h:(s.fR (l.map fun n=>(n,none))).rg[n]? = some (some g)):s.rg[n]? = some (some g)∧n ∉ l:=by
 rcases sl h with h1 | ⟨h1,h2⟩
 ·simp only [ayt,Prod.mk.injEq,reduceCtorEq,and_false,exists_false] at h1
 ·refine ⟨h1,fun hn=>h2 none (by simp only [ayt,Prod.mk.injEq,and_true]; exact ⟨n,hn,rfl⟩)⟩
theorem AY {back:Nat->Option Nat}:∀ {rg:List (Option aG)} {j:Nat} {u:List (Nat × Option aG)},EI back j rg=some u->
  (∀ n x,(n,x)∈u->∃ i,back (j+i)=some n∧rg[i]? = some x)∧(∀ i x,rg[i]? = some x->∃ n,back (j+i)=some n∧(n,x)∈u)
 | [],j,u,h=>by simp [EI] at h; subst h; exact ⟨fun n x h=>by simp at h,fun i x h=>by simp at h⟩
 | g::l,j,u,h=>by
   simp only [EI] at h
   split at h
   ·rename_i n r hn hr
    cases h
    obtain ⟨h1,h2⟩:=AY hr
    refine ⟨fun m x hm=>?_,fun i x hi=>?_⟩
    ·simp only [ayD,Prod.mk.injEq] at hm
     rcases hm with ⟨rfl,rfl⟩ | hm
     ·exact ⟨0,hn,by simp⟩
     ·obtain ⟨i,h3,h4⟩:=h1 m x hm
      exact ⟨i+1,by rw [<- h3]; congr 1; omega,by simpa using h4⟩
    ·cases i with
     | zero=>simp at hi; subst hi; exact ⟨n,hn,by simp⟩
     | succ i=>
       obtain ⟨m,h3,h4⟩:=h2 i x (by simpa using hi)
       exact ⟨m,by rw [<- h3]; congr 1; omega,by simp [h4]⟩
   ·cases h
theorem hU {X:Cx} (cy:∀ f T,X.con f=some T->Known X.P X.glob f T) {q:Nat} {aB:List Nat} (AZ:aB.Nodup) {f:FuncId} {args:List NV} {nm:Nat} {s:St} {Γ:Env} {w:World} {vs:List Value} {R:fQ->Prop}
  (hw:aQ Γ s.rg w) (hG:GlobOk X.glob Γ) (dG:R2 (cM Γ) args vs) (fH:∀ k,nm<=k->k<nm+q->Γ.μ k=none) (h:(iD X q aB f args nm s).run R) :
  Calls X.P f vs.toArray w fun e w'=>∃ x v,R x∧e=.returned v∧aiJ q Γ s w nm x v w':=by
 unfold iD at h
 split at h
 case h_2=>exact h.elim
 rename_i T fn hT hfn
 simp only at h
 split at h
 case h_2=>exact h.elim
 rename_i c xo I CF agf
 split at h
 case h_1=>exact h.elim
 obtain ⟨hc,h⟩:=(bC _ _ _).1 h
 rw [Tr.run_bind] at h
 generalize kJ:((args.flatMap NV.names).filter fun n=>!aB.contains n)=vT at *
 have ff:∀ {b:Nat} {o:Obj},w.heap[b]? = some o->b<w.heap.size:=fun e=>(Array.getElem?_eq_some_iff.1 e).1
 -- the regions that are auq axh
 have LO:=jK agf
 have ub:∀ n∈aB,live s.rg n:=by
  intro n hn
  obtain ⟨j,hj⟩:=ayE hn
  obtain ⟨g,hg,hr⟩:=LO.get hj
  simp only [ayy] at hr
  obtain ⟨g0,h1,-⟩:=hr
  exact ⟨g0,(bS s n g0).1 h1⟩
 have kb:ik (bZ (dz aB)) (aB.map s.bK)=some (I.map some):=by
  clear ub AZ h CF agf kJ
  have key:∀ {L:List Nat} {I:List aG},R2 (fun n g=>(s.bK n).bind (cX (bZ (dz aB)))=some g) L I->ik (bZ (dz aB)) (L.map s.bK)=some (I.map some):=by
   intro L I hr
   induction hr with
   | nil=>rfl
   | cons a _ ih=>
     simp only [ayy] at a
     obtain ⟨g0,h1,h2⟩:=a
     simp only [List.map_cons,h1,ik,h2,ih]
  exact key LO
 -- where they lie
 let PB:Nat->Prop:=fun b=>∃ n B,n∈aB∧Γ.pt n=some B∧B.ax=b
 let LB:Nat->Prop:=fun b=>∃ n B,n∈vT∧live s.rg n∧Γ.pt n=some B∧B.ax=b
 have abk:∀ b,PB b->∃ o,w.heap[b]? = some o∧Γ.kp b=none:=by
  rintro b ⟨n,B,hn,hB,rfl⟩
  obtain ⟨g,hg⟩:=ub n hn
  obtain ⟨o,ho⟩:=hw.obj hB hg
  exact ⟨o,ho,hw.apart n B ⟨g,hg⟩ hB⟩
 have agh:∀ b,LB b->¬ PB b:=by
  rintro b ⟨n,B,hn,hl,hB,rfl⟩ ⟨n',B',xQ,sj,he⟩
  have b9:n≠n':=by
   rintro rfl
   rw [<- kJ] at hn
   simp only [List.mem_filter,Bool.not_eq_eq_eq_not,Bool.not_true] at hn
   have:=hn.2
   simp at this
   exact this xQ
  exact hw.inj n n' B B' b9 hl (ub n' xQ) hB sj he.symm
 obtain ⟨kpc,agi,Fi⟩:∃ kp:Nat->Option Obj,(∀ b,PB b->kp b=none)∧(∀ b,¬ PB b->kp b=w.heap[b]?):=by
  classical
  exact ⟨fun b=>if PB b then none else w.heap[b]?,fun b hb=>if_pos hb,fun b hb=>if_neg hb⟩
 obtain ⟨roc,SO⟩:∃ ro:Nat->Bool,∀ b,ro b=true↔(Γ.ro b=true∨LB b):=by
  classical
  exact ⟨fun b=>decide (Γ.ro b=true∨LB b),fun b=>by simp⟩
 let Γc:Env:={μ:=fun j=>(aB[j]?).bind Γ.μ,kp:=kpc,ro:=roc,er:=Γ.er}
 have xR:∀ b o,Γ.kp b=some o->¬ PB b∧kpc b=some o:=by
  intro b o hb
  have hn:¬ PB b:=fun hp=>by obtain ⟨_,_,h2⟩:=abk b hp; rw [h2] at hb; cases hb
  exact ⟨hn,by rw [Fi b hn]; exact hw.kp b o hb⟩
 have agj:lN Γ Γc:=fun b o h1 h2=>⟨(SO b).2 (.inl h1),(xR b o h2).2⟩
 have gv:Ren (dz aB) Γ Γc:=⟨fun n j B h1 h2=>by show (aB[j]?).bind Γ.μ=_; rw [qT h1]; exact h2,rfl⟩
 have abl:∀ b,roc b=true->∃ o,kpc b=some o:=by
  intro b hb
  rcases (SO b).1 hb with h1 | h1
  ·obtain ⟨o,ho⟩:=hw.ro b h1
   exact ⟨o,(xR b o ho).2⟩
  ·have Fh:=agh b h1
   obtain ⟨n,B,hn,⟨g,hg⟩,hB,rfl⟩:=h1
   obtain ⟨o,ho⟩:=hw.obj hB hg
   exact ⟨o,by rw [Fi _ Fh]; exact ho⟩
 have hwc:aQ Γc (I.map some) w:=by
  refine hw.restrict AZ kb (fun _=>rfl) rfl agj (fun b o hb=>?_) (fun n B hn hl hB=>?_) abl
  ·by_cases hp:PB b
   ·have:kpc b=some o:=hb; rw [agi b hp] at this; cases this
   ·have:kpc b=some o:=hb; rw [Fi b hp] at this; exact this
  ·exact agi _ ⟨n,B,hn,hB,rfl⟩
 have hGc:GlobOk X.glob Γc:=by
  refine ⟨fun x hx=>?_,hG.2⟩
  obtain ⟨ad,c,e,fz,ca,ta,h1,h2,h3,h4⟩:=hG.1 x hx
  exact ⟨ad,c,e,fz,ca,ta,h1,(xR _ _ h2).2,h3,(xR _ _ h4).2⟩
 have aiO:R2 (cM Γc) xo vs:=by
  refine xN hw gv agj (fun r B g hr Fh hg hB=>?_) dG CF hc
  have hlb:LB B.ax:=⟨r,B,by rw [<- kJ]; simp [hr,Fh],⟨g,hg⟩,hB,rfl⟩
  exact ⟨(SO _).2 (.inr hlb),Fi _ (agh _ hlb)⟩
 have IK:∀ n,I.length<=n->Γc.μ n=none:=by
  intro n hn
  show (aB[n]?).bind Γ.μ=none
  rw [axD (by rw [LO.length]; exact hn)]; rfl
 refine ((cy f T hT).sound xo I _ h Γc w vs hwc hGc aiO IK).mono ?_
 rintro e w2 ⟨o,v,eG,hR,rfl,vZ,IL,xS,Fb⟩
 clear h
 -- what comes back
 split at hR
 case h_2=>exact hR.elim
 rename_i res fR aoD abm
 simp only [ayy] at abm
 obtain ⟨rg,aur,abm⟩:=abm
 split at hR
 case isFalse=>exact hR.elim
 rename_i axi
 generalize vp:tP aB nm o.rg.length=back at *
 refine ⟨_,v,hR,rfl,?_⟩
 have axg:aB.length=I.length:=LO.length
 have aiP:∀ n∈aB,¬ (nm<=n∧n<nm+q):=by
  intro n hn hh
  obtain ⟨g,hg⟩:=ub n hn
  obtain ⟨B,hB,-⟩:=hw.live n g hg
  rw [fH n hh.1 hh.2] at hB; cases hB
 have SP:∀ {j n:Nat},back j=some n->(j<aB.length∧aB[j]? = some n)∨(aB.length<=j∧j<o.rg.length∧n=nm+(j - aB.length)):=by
  intro j n hj
  rw [<- vp] at hj
  unfold tP at hj
  split at hj
  ·exact .inl ⟨by assumption,hj⟩
  ·split at hj
   ·simp only [Option.some.injEq] at hj; exact .inr ⟨by omega,by assumption,hj.symm⟩
   ·cases hj
 have aoE:∀ {j n:Nat} {B:cR},aB[j]? = some n->Γ.μ n=some B->eG.μ j=some B:=by
  intro j n B hj hB
  exact vZ.le.μ j B (by show (aB[j]?).bind Γ.μ=_; rw [hj]; exact hB)
 let F:Prop:=(o.res.tO||Cb o.rg)=true
 obtain ⟨kp',SQ,SR⟩:∃ kp:Nat->Option Obj,(∀ b,F∧eG.ro b=true->kp b=eG.kp b)∧(∀ b,¬ (F∧eG.ro b=true)->kp b=Γ.kp b):=by
  classical
  exact ⟨fun b=>if F∧eG.ro b=true then eG.kp b else Γ.kp b,fun b hb=>if_pos hb,fun b hb=>if_neg hb⟩
 obtain ⟨ro',abn⟩:∃ ro:Nat->Bool,∀ b,ro b=true↔(Γ.ro b=true∨(F∧eG.ro b=true)):=by
  classical
  exact ⟨fun b=>decide (Γ.ro b=true∨(F∧eG.ro b=true)),fun b=>by simp⟩
 let Γ' : Env:={μ:=fun n=>if nm<=n∧n<nm+(o.rg.length - aB.length) then eG.μ (aB.length+(n - nm)) else Γ.μ n,kp:=kp',ro:=ro',er:=Γ.er}
 have CG:∀ n,¬ (nm<=n∧n<nm+(o.rg.length - aB.length))->Γ'.μ n=Γ.μ n:=fun n hn=>if_neg hn
 have SS:∀ n,(nm<=n∧n<nm+(o.rg.length - aB.length))->Γ'.μ n=eG.μ (aB.length+(n - nm)):=fun n hn=>if_pos hn
 have hk2:∀ b o',Γ.kp b=some o'->eG.kp b=some o':=fun b o' hb=>vZ.le.kp b o' (xR b o' hb).2
 have hle:Γ.le Γ':=by
  refine ⟨fun n B hB=>?_,fun b o' hb=>?_,fun b hb=>(abn b).2 (.inl hb),rfl⟩
  ·have hn:¬ (nm<=n∧n<nm+(o.rg.length - aB.length)):=fun hh=>by rw [fH n hh.1 (by omega)] at hB; cases hB
   rw [CG n hn]; exact hB
  ·show kp' b=_
   by_cases hf:F∧eG.ro b=true
   ·rw [SQ b hf]; exact hk2 b o' hb
   ·rw [SR b hf]; exact hb
 have IM:∀ {j:Nat} {B:cR},Γc.pt j=some B->∃ n,aB[j]? = some n∧Γ.pt n=some B:=by
  intro j B hB
  obtain ⟨h1,h2⟩:=Env.bt.1 hB
  have h3:(aB[j]?).bind Γ.μ=some B:=h1
  simp only [ayy] at h3
  obtain ⟨n,h4,h5⟩:=h3
  exact ⟨n,h4,Env.bt.2 ⟨h5,h2⟩⟩
 have abo:∀ j B,eG.pt j=some B->w.heap.size<=B.ax∨∃ n B',Γ.pt n=some B'∧B'.ax=B.ax:=by
  intro j B hB
  rcases vZ.nw j B hB with h1 | ⟨n',B',h1,h2⟩
  ·exact .inl h1
  ·obtain ⟨n,-,h4⟩:=IM h1
   exact .inr ⟨n,B',h4,h2⟩
 have aiQ:∀ {n:Nat} {B:cR},Γ'.pt n=some B->(nm<=n∧n<nm+(o.rg.length - aB.length))->eG.pt (aB.length+(n - nm))=some B:=by
  intro n B hB hn
  obtain ⟨h1,h2⟩:=Env.bt.1 hB
  rw [SS n hn] at h1
  exact Env.bt.2 ⟨h1,h2⟩
 have pP:∀ {n:Nat} {B:cR},Γ'.pt n=some B->¬ (nm<=n∧n<nm+(o.rg.length - aB.length))->Γ.pt n=some B:=by
  intro n B hB hn
  obtain ⟨h1,h2⟩:=Env.bt.1 hB
  rw [CG n hn] at h1
  exact Env.bt.2 ⟨h1,h2⟩
 have aus:Ext Γ w Γ':=by
  refine ⟨hle,fun b hb=>?_,fun n B hB=>?_⟩
  ·rcases (abn b).1 hb with h1 | ⟨-,h1⟩
   ·exact .inl h1
   ·rcases vZ.ro b h1 with h2 | h2 | ⟨n,B,h2,h3⟩
    ·rcases (SO b).1 h2 with h3 | ⟨n,B,-,-,h4,h5⟩
     ·exact .inl h3
     ·exact .inr (.inr ⟨n,B,h4,h5⟩)
    ·exact .inr (.inl h2)
    ·obtain ⟨n',-,h5⟩:=IM h2
     exact .inr (.inr ⟨n',B,h5,h3⟩)
  ·by_cases hn:nm<=n∧n<nm+(o.rg.length - aB.length)
   ·exact abo _ B (aiQ hB hn)
   ·exact .inr ⟨n,B,pP hB hn,rfl⟩
 have SU : Ren back eG Γ':=by
  refine ⟨fun j n B hj hB=>?_,?_⟩
  ·rcases SP hj with ⟨h1,h2⟩ | ⟨h1,h2,rfl⟩
   ·have xT:=ayB h2
    rw [CG n (fun hh=>aiP n xT (by omega))]
    obtain ⟨g,hg⟩:=ub n xT
    obtain ⟨B0,hB0,-⟩:=hw.live n g hg
    rw [aoE h2 hB0] at hB
    cases hB; exact hB0
   ·rw [SS _ (by omega)]
    have e:aB.length+(nm+(j - aB.length) - nm)=j:=by omega
    rw [e]; exact hB
  ·show Γ.er=eG.er
   rw [vZ.le.er]
 have aoF:F->lN eG Γ':=fun hf b o' h1 h2=>⟨(abn b).2 (.inr ⟨hf,h1⟩),by show kp' b=_; rw [SQ b ⟨hf,h1⟩]; exact h2⟩
 -- regions that stay aside
 have SV:∀ {n:Nat} {B:cR},eG.μ n=some B->B.gh=false->eG.pt n=some B:=fun h h'=>Env.bt.2 ⟨h,h'⟩
 have aoG:∀ {n:Nat} {B:cR},Γ.μ n=some B->B.gh=false->Γ.pt n=some B:=fun h h'=>Env.bt.2 ⟨h,h'⟩
 have CH:∀ {n:Nat} {g:aG} {B:cR},n ∉ aB->s.rg[n]? = some (some g)->Γ.pt n=some B->¬ PB B.ax∧eG.kp B.ax=w.heap[B.ax]?∧w2.heap[B.ax]? = w.heap[B.ax]?:=by
  intro n g B hn hg hB
  have Fh:¬ PB B.ax:=by
   rintro ⟨n',B',xQ,sj,he⟩
   exact hw.inj n' n B' B (fun e=>hn (e ▸ xQ)) (ub n' xQ) ⟨g,hg⟩ sj hB he
  obtain ⟨ob,hcs⟩:=hw.obj hB hg
  have h1:eG.kp B.ax=some ob:=vZ.le.kp _ _ (by show kpc _=_; rw [Fi _ Fh]; exact hcs)
  exact ⟨Fh,by rw [h1,hcs],by rw [xS.kp _ _ h1,hcs]⟩
 obtain ⟨agk,aoH⟩:=lO aur
 obtain ⟨RI,EV⟩:=AY abm
 simp only [ayf] at RI EV
 -- what a region is behind the call
 have LP:∀ {n:Nat} {g:aG},(s.fR (fR++(if o.res.tO||Cb o.rg then vT.map fun n=>(n,none) else []))).rg[n]? = some (some g)->
   (F->n ∉ vT)∧((∃ j,back j=some n∧rg[j]? = some (some g))∨(n ∉ aB∧s.rg[n]? = some (some g)∧¬ (nm<=n∧n<nm+(o.rg.length - aB.length)))):=by
  intro n g hg
  rw [xO] at hg
  have hg2:(F->n ∉ vT)∧(s.fR fR).rg[n]? = some (some g):=by
   by_cases hf:F
   ·rw [if_pos hf] at hg
    obtain ⟨h1,h2⟩:=SM hg
    exact ⟨fun _=>h2,h1⟩
   ·rw [if_neg hf] at hg
    exact ⟨fun h=>(hf h).elim,hg⟩
  refine ⟨hg2.1,?_⟩
  rcases sl hg2.2 with h1 | ⟨h1,h2⟩
  ·obtain ⟨i,h3,h4⟩:=RI _ _ h1
   exact .inl ⟨i,h3,h4⟩
  ·refine .inr ⟨fun hn=>?_,h1,fun hh=>?_⟩
   ·obtain ⟨j,hj⟩:=ayE hn
    have hjl:j<rg.length:=by rw [agk]; have:=(List.getElem?_eq_some_iff.1 hj).1; omega
    obtain ⟨m,h3,h4⟩:=EV j _ (axP hjl)
    have:back j=some n:=by rw [<- vp]; unfold tP; rw [if_pos (List.getElem?_eq_some_iff.1 hj).1]; exact hj
    rw [this] at h3; cases h3
    exact h2 _ h4
   ·obtain ⟨B,hB,-⟩:=hw.live n g h1
    rw [fH n hh.1 (by omega)] at hB; cases hB
 have aoI:∀ (j:Nat) (g:aG),o.rg[j]? = some (some g)->g.tO=true->F:=by
  intro j g hj hg
  show (_||_)=true
  rw [ayq]
  right
  unfold Cb
  rw [List.any_eq_true]
  refine ⟨some g,ayB hj,?_⟩
  unfold aG.tO at hg
  obtain ⟨st,e,body⟩:=g
  cases body <;> simp at hg ⊢
  ·exact hg
  ·exact hg
 have uc:∀ {j n:Nat} {g:aG},back j=some n->rg[j]? = some (some g)->∃ B,Γ'.μ n=some B∧eG.μ j=some B∧cN Γ' g B w2∧live o.rg j∧(B.gh=false->eG.kp B.ax=none):=by
  intro j n g hj hg
  obtain ⟨g0,Ad,hmg⟩:=aoH j g hg
  obtain ⟨B,hB,hr⟩:=xS.live j g0 Ad
  exact ⟨B,SU.μ _ _ _ hj hB,hB,mX SU (fun e=>aoF (aoI j g0 Ad e)) hr hmg,⟨g0,Ad⟩,fun h0=>xS.apart j B ⟨g0,Ad⟩ (Env.bt.2 ⟨hB,h0⟩)⟩
 refine ⟨Γ',aus,pO SU (fun e=>aoF (by show (_||_)=true; rw [e]; rfl)) IL aoD,?_,Fb,fun n h1 h2=>?_⟩
 rotate_left
 ·by_cases hn:nm<=n∧n<nm+(o.rg.length - aB.length)
  ·exfalso
   refine h2 ⟨hn.1,by omega,?_⟩
   have hjl:aB.length+(n - nm)<rg.length:=by rw [agk]; omega
   obtain ⟨m,h3,h4⟩:=EV _ _ (axP hjl)
   have:m=n:=by
    rcases SP h3 with ⟨h5,-⟩ | ⟨-,-,h5⟩
    ·omega
    ·omega
   subst this
   exact mV (List.mem_append_left _ h4)
  ·rw [CG n hn]; exact h1
 refine ⟨fun n g hn=>?_,fun a b Ba Bb b9 la lb ha hb=>?_,fun b o' hb=>?_,fun n B ln hB=>?_,fun b hb=>?_⟩
 ·obtain ⟨-,⟨j,h1,h2⟩ | ⟨h1,h2,h3⟩⟩:=LP hn
  ·obtain ⟨B,h3,-,h4,-⟩:=uc h1 h2
   exact ⟨B,h3,h4⟩
  ·obtain ⟨B,hB,hr⟩:=hw.live n g h2
   exact ⟨B,hle.μ _ _ hB,(hr.heap fun h0=>(CH h1 h2 (aoG hB h0)).2.2).mono hle⟩
 ·obtain ⟨ga,IF⟩:=la
  obtain ⟨gb,SG⟩:=lb
  obtain ⟨hma,aoJ⟩:=Env.bt.1 ha
  obtain ⟨hmb,aoK⟩:=Env.bt.1 hb
  obtain ⟨-,⟨ja,a1,a2⟩ | ⟨a1,a2,a3⟩⟩:=LP IF <;> obtain ⟨-,⟨jb,b1,b2⟩ | ⟨b1,b2,b3⟩⟩:=LP SG
  ·obtain ⟨B1,e1,e2,-,e3,-⟩:=uc a1 a2
   obtain ⟨B2,f1,f2,-,f3,-⟩:=uc b1 b2
   rw [hma] at e1; cases e1
   rw [hmb] at f1; cases f1
   exact xS.inj ja jb _ _ (fun e=>by subst e; rw [a1] at b1; cases b1; exact b9 rfl) e3 f3 (SV e2 aoJ) (SV f2 aoK)
  ·obtain ⟨B1,e1,e2,-,e3,e4⟩:=uc a1 a2
   rw [hma] at e1; cases e1
   have e4:=e4 aoJ
   have hb:=pP hb b3
   obtain ⟨-,h5,-⟩:=CH b1 b2 hb
   intro e
   rw [<- e,e4] at h5
   obtain ⟨ob,hcs⟩:=hw.obj hb b2
   rw [<- e] at hcs
   rw [hcs] at h5; cases h5
  ·obtain ⟨B1,e1,e2,-,e3,e4⟩:=uc b1 b2
   rw [hmb] at e1; cases e1
   have e4:=e4 aoK
   have ha:=pP ha a3
   obtain ⟨-,h5,-⟩:=CH a1 a2 ha
   intro e
   rw [e,e4] at h5
   obtain ⟨ob,hcs⟩:=hw.obj ha a2
   rw [e] at hcs
   rw [hcs] at h5; cases h5
  ·exact hw.inj a b Ba Bb b9 ⟨ga,a2⟩ ⟨gb,b2⟩ (pP ha a3) (pP hb b3)
 ·have hH : kp' b=some o':=hb
  by_cases hf:F∧eG.ro b=true
  ·rw [SQ b hf] at hH; exact xS.kp b o' hH
  ·rw [SR b hf] at hH; exact xS.kp b o' (hk2 b o' hH)
 ·obtain ⟨g,hg⟩:=ln
  show kp' B.ax=none
  obtain ⟨hnl,⟨j,h1,h2⟩ | ⟨h1,h2,h3⟩⟩:=LP hg
  ·obtain ⟨B1,e1,e2,-,e3,e4⟩:=uc h1 h2
   obtain ⟨hmB,Ad⟩:=Env.bt.1 hB
   rw [hmB] at e1; cases e1
   have e4:=e4 Ad
   by_cases hf:F∧eG.ro B.ax=true
   ·rw [SQ _ hf]; exact e4
   ·rw [SR _ hf]
    cases e:Γ.kp B.ax with
    | none=>rfl
    | some o'=>rw [hk2 _ _ e] at e4; cases e4
  ·have hB:=pP hB h3
   have hap:=hw.apart n B ⟨g,h2⟩ hB
   by_cases hf:F∧eG.ro B.ax=true
   ·exfalso
    obtain ⟨Fh,-,-⟩:=CH h1 h2 hB
    rcases vZ.ro _ hf.2 with h4 | h4 | ⟨j,B',h4,h5⟩
    ·rcases (SO _).1 h4 with h5 | ⟨r,B',hr,lr,sj,he⟩
     ·obtain ⟨o',ho⟩:=hw.ro _ h5
      rw [hap] at ho; cases ho
     ·have:r=n:=by
       by_cases e:r=n
       ·exact e
       ·exact (hw.inj r n B' B e lr ⟨g,h2⟩ sj hB he).elim
      subst this
      exact hnl hf.1 hr
    ·obtain ⟨ob,hcs⟩:=hw.obj hB h2
     have:=ff hcs
     omega
    ·obtain ⟨n',h7,h8⟩:=IM h4
     exact Fh ⟨n',B',ayB h7,h8,h5⟩
   ·rw [SR _ hf]; exact hap
 ·show ∃ o',kp' b=some o'
  by_cases hf:F∧eG.ro b=true
  ·rw [SQ b hf]; exact xS.ro b hf.2
  ·rw [SR b hf]
   rcases (abn b).1 hb with h1 | h1
   ·exact hw.ro b h1
   ·exact (hf h1).elim
theorem IN {Γ:Env} {x:NC} {v:Value} (h:lH Γ x v):∀ n∈names x,∃ B,Γ.μ n=some B:=by
 intro n hn
 cases x <;> simp only [names,ayx,List.not_mem_nil] at hn
 case p=>subst hn; obtain ⟨B,h1,-⟩:=h; exact ⟨B,Env.qo h1⟩
 case q=>subst hn; obtain ⟨B,h1,-⟩:=h; exact ⟨B,Env.qo h1⟩
 case m=>subst hn; obtain ⟨B,h1,-⟩:=h; exact ⟨B,Env.qo h1⟩
 case hq=>subst hn; obtain ⟨B,a,cap,h1,-⟩:=h; exact ⟨B,Env.qo h1⟩
 case h=>subst hn; obtain ⟨B,a,cap,h1,-⟩:=h; exact ⟨B,Env.age h1⟩
 case hz=>
  subst hn
  rcases h with ⟨-,-,h⟩ | ⟨B,a,cap,h1,-⟩
  ·exact h
  ·exact ⟨B,Env.age h1⟩
 case cl f cap=>
  obtain ⟨caps,-,h2⟩:=h
  rw [ayt] at hn
  obtain ⟨y,hy,rfl⟩:=hn
  obtain ⟨j,hj⟩:=ayE hy
  obtain ⟨u,-,B,h3,-⟩:=h2.get hj
  exact ⟨B,Env.qo h3⟩
theorem Fj {nm:Nat}:∀ {l:List (Nat × Nat × Nat)},(∀ x∈l,x.1≠nm)->(l.mapM fun x=>(but nm x.1).map fun r=>(r,x.2))=some l
 | [],_=>rfl
 | x::l,h=>by
   rw [ayk]
   have h1:but nm x.1=some x.1:=if_neg (h x (by simp))
   rw [h1,Fj fun y hy=>h y (by simp [hy])]
   rfl
theorem Pj {nm:Nat} {x:NC} (h:nm ∉ names x):bZ (but nm) x=some x:=by
 have hb:∀ {r:Nat},r≠nm->but nm r=some r:=fun h=>if_neg h
 cases x <;> simp only [names,ayx] at h <;> simp only [bZ]
 case p=>rw [hb (Ne.symm h)]; rfl
 case h=>rw [hb (Ne.symm h)]; rfl
 case q=>rw [hb (Ne.symm h)]; rfl
 case hq=>rw [hb (Ne.symm h)]; rfl
 case hz=>rw [hb (Ne.symm h)]; rfl
 case m=>rw [hb (Ne.symm h)]; rfl
 case cl f cap=>
  rw [Fj fun x hx e=>h (by rw [ayt]; exact ⟨x,hx,e⟩)]
  rfl
theorem A0 {nm:Nat}:∀ {l m:List (Nat × Nat × Nat)},(l.mapM fun x=>(but nm x.1).map fun r=>(r,x.2))=some m->m=l
 | [],m,h=>by simp at h; exact h.symm ▸ rfl
 | x::l,m,h=>by
   rw [ayk] at h
   unfold but at h
   split at h
   ·cases h
   ·cases hl:(l.mapM fun x=>(but nm x.1).map fun r=>(r,x.2)) with
    | none=>
      have:(l.mapM fun x=>(if x.1=nm then none else some x.1).map fun r=>(r,x.2))=none:=hl
      rw [this] at h; cases h
    | some k=>
      have:(l.mapM fun x=>(if x.1=nm then none else some x.1).map fun r=>(r,x.2))=some k:=hl
      rw [this] at h
      cases h
      rw [A0 hl]
theorem xU {nm:Nat} {x y:NC} (h:bZ (but nm) x=some y):y=x:=by
 have hb:∀ {r m:Nat},but nm r=some m->m=r:=fun {r m} h=>by
  unfold but at h
  split at h
  ·cases h
  ·cases h; rfl
 cases x <;> simp only [bZ,ayz,Option.some.injEq] at h
 case p=>obtain ⟨a,h1,rfl⟩:=h; rw [hb h1]
 case h=>obtain ⟨a,h1,rfl⟩:=h; rw [hb h1]
 case q=>obtain ⟨a,h1,rfl⟩:=h; rw [hb h1]
 case hq=>obtain ⟨a,h1,rfl⟩:=h; rw [hb h1]
 case hz=>obtain ⟨a,h1,rfl⟩:=h; rw [hb h1]
 case m=>obtain ⟨a,h1,rfl⟩:=h; rw [hb h1]
 case cl f cap=>obtain ⟨a,h1,rfl⟩:=h; rw [A0 h1]
 all_goals exact h.symm
theorem pQ {α:Type} {f:α->Option α} (hf:∀ x y,f x=some y->y=x):∀ {l m:List α},dJ f l=some m->m=l
 | [],m,h=>by simp [dJ] at h; exact h
 | x::l,m,h=>by
   simp only [dJ] at h
   split at h
   ·rename_i a r ha hr
    cases h
    rw [hf _ _ ha,pQ hf hr]
   ·cases h
theorem Fk {α:Type} {f:α->Option α}:∀ {l:List α},(∀ x∈l,f x=some x)->dJ f l=some l
 | [],_=>rfl
 | x::l,h=>by
   simp only [dJ]
   rw [h x (by simp),Fk fun y hy=>h y (by simp [hy])]
theorem Fl {nm:Nat} {s t:bq} (h:iC (bZ (but nm)) s=some t):t=s:=by
 cases s with
 | cells xs=>
   simp only [iC,ayz] at h
   obtain ⟨z,hz,rfl⟩:=h
   rw [pQ (fun _ _=>xU) hz]
 | ints k n xs=>cases h; rfl
 | aA ks n xs=>cases h; rfl
theorem Fm {nm:Nat} {g g' : aG} (h:cX (bZ (but nm)) g=some g'):g'=g:=by
 unfold cX at h
 split at h
 ·rename_i xs hb
  simp only [ayz] at h
  obtain ⟨z,hz,rfl⟩:=h
  rw [pQ (fun _ _=>xU) hz,<- hb]
 ·rename_i l hb
  simp only [ayz] at h
  obtain ⟨z,hz,rfl⟩:=h
  rw [pQ (fun _ _=>Fl) hz,<- hb]
 ·cases h; rfl
theorem xV {Γ:Env} {g:aG} {B:cR} {w:World} {nm:Nat} (h:cN Γ g B w) (hn:Γ.μ nm=none):cX (bZ (but nm)) g=some g:=by
 have one:∀ {x:NC} {v:Value},CR Γ x v->bZ (but nm) x=some x:=fun {x v} r=>Pj fun hm=>by
  obtain ⟨B,hB⟩:=IN r.1 nm hm
  rw [hn] at hB; cases hB
 have cells:∀ {xs:List NC} {l:List Value},R2 (CR Γ) xs l->dJ (bZ (but nm)) xs=some xs:=fun {xs l} r=>Fk fun x hx=>by
  obtain ⟨j,hj⟩:=ayE hx
  obtain ⟨u,-,hu⟩:=r.get hj
  exact one hu
 have my:∀ {l:List bq} {vs:List Value},R2 (CR Γ) (ay l) vs->aK l->dJ (iC (bZ (but nm))) l=some l:=by
  intro l
  induction l with
  | nil=>intro vs _ _; rfl
  | cons s l ih=>
    intro vs r fI
    have hs:R2 (CR Γ) s.flat (vs.take s.flat.length)∧R2 (CR Γ) (ay l) (vs.drop s.flat.length):=by
     have:ay (s::l)=s.flat++ay l:=by
      cases l with
      | nil=>simp [ay]
      | cons t l=>rfl
     rw [this] at r
     exact r.split
    have h1:iC (bZ (but nm)) s=some s:=by
     cases s with
     | cells xs=>
       simp only [iC]
       rw [cells (xs:=xs) hs.1]
       rfl
     | ints k n xs=>rfl
     | aA ks n xs=>rfl
    simp only [dJ,h1,ih hs.2 fun t ht=>fI t (by simp [ht])]
 rcases h with ⟨-,⟨k,hb⟩ | ⟨ks,hb⟩ | ⟨sch,hb,-⟩⟩ | ⟨-,c,hA⟩ | ⟨-,hm⟩
 ·unfold cX; rw [hb]
 ·unfold cX; rw [hb]
 ·unfold cX; rw [hb]
 rotate_left
 ·obtain ⟨ks,sch,xs,es,ck,hb,-⟩:=hm.mp
  unfold cX; rw [hb]
 ·have aH:=hA.body
  unfold cX
  split
  ·rename_i xs hb
   rw [hb] at aH
   obtain ⟨l1,l2,-,hr⟩:=aH
   rw [cells hr,ayo,<- hb]
  ·rename_i l hb
   rw [hb] at aH
   obtain ⟨l1,l2,-,hr,fI⟩:=aH
   rw [my hr fI,ayo,<- hb]
  ·rfl
theorem ud {f:NC->Option NC}:∀ {l m:List (Option aG)},ik f l=some m->∀ g,some g∈l->∃ g',cX f g=some g'
 | [],_,_,g,h=>by simp at h
 | none::l,m,h,g,hg=>by
   simp only [ik,ayz] at h
   obtain ⟨z,hz,-⟩:=h
   simp only [ayD,reduceCtorEq,false_or] at hg
   exact ud hz g hg
 | some a::l,m,h,g,hg=>by
   simp only [ik] at h
   split at h
   ·rename_i b r hb hr
    simp only [ayD,Option.some.injEq] at hg
    rcases hg with rfl | hg
    ·exact ⟨b,hb⟩
    ·exact ud hr g hg
   ·cases h
theorem Fo {n:Nat} {h:aG}:∀ {l:List (Nat × Option aG)} {s:St},EJ n l=some h->(∀ x,(n,x)∈l->x.isSome=true)->(s.fR l).rg[n]? = some (some h)
 | [],s,hu,_=>by cases hu
 | (m,g)::l,s,hu,hs=>by
   simp only [EJ] at hu
   split at hu
   ·rename_i h' hh
    cases hu
    exact Fo (s:=s.cn m g) hh fun x hx=>hs x (by simp [hx])
   ·rename_i aoL
    split at hu
    ·rename_i e
     subst e
     subst hu
     have Pd:∀ x,(m,x) ∉ l:=fun x hx=>by
      have key:∀ {l:List (Nat × Option aG)},EJ m l=none->(∀ x,(m,x)∈l->x.isSome=true)->∀ x,(m,x) ∉ l:=by
       intro l
       induction l with
       | nil=>intro _ _ x hx; simp at hx
       | cons y l ih=>
         obtain ⟨k,z⟩:=y
         intro h1 h2 x hx
         simp only [EJ] at h1
         split at h1
         ·cases h1
         ·rename_i h3
          rcases List.mem_cons.1 hx with e | hx
          ·cases e
           rw [if_pos rfl] at h1
           have:=h2 z (by simp)
           rw [h1] at this; cases this
          ·exact ih h3 (fun x hx=>h2 x (by simp [hx])) x hx
      exact key aoL (fun x hx=>hs x (by simp [hx])) x hx
     have keep:∀ {l:List (Nat × Option aG)} {s:St},(∀ x,(m,x) ∉ l)->s.rg[m]? = some (some h)->(s.fR l).rg[m]? = some (some h):=by
      intro l
      induction l with
      | nil=>intro s _ h; exact h
      | cons y l ih=>
        obtain ⟨k,z⟩:=y
        intro s h1 h2
        refine ih (s:=s.cn k z) (fun x hx=>h1 x (by simp [hx])) ?_
        exact (bn _ _ _ _ _).2 (.inr ⟨fun e=>h1 z (by simp [e]),h2⟩)
     exact keep (s:=s.cn m (some h)) Pd ((bn _ _ _ _ _).2 (.inl ⟨rfl,rfl⟩))
    ·cases hu
theorem uf {p:Nat->Bool} {n:Nat} (hp:p n=true):∀ (l:List (Nat × Option aG)) {s s' : St},(∀ g,s.rg[n]? = some (some g)↔s'.rg[n]? = some (some g))->∀ g,(s.fR (l.filter fun u=>p u.1)).rg[n]? = some (some g)↔(s'.fR l).rg[n]? = some (some g)
 | [],s,s',h,g=>h g
 | (m,x)::l,s,s',h,g=>by
   cases hm:p m with
   | true=>
     have e:((m,x)::l).filter (fun u=>p u.1)=(m,x)::l.filter fun u=>p u.1:=by simp [hm]
     rw [e]
     refine uf hp l (s:=s.cn m x) (s':=s'.cn m x) (fun g=>?_) g
     show (putAt s.rg m x)[n]? = _↔(putAt s'.rg m x)[n]? = _
     rw [bn,bn,h]
   | false=>
     have e:((m,x)::l).filter (fun u=>p u.1)=l.filter fun u=>p u.1:=by simp [hm]
     rw [e]
     refine uf hp l (s:=s) (s':=s'.cn m x) (fun g=>?_) g
     show _↔(putAt s'.rg m x)[n]? = _
     rw [bn,h]
     have:n≠m:=fun e=>by rw [e,hm] at hp; cases hp
     simp [this]
theorem SW {n:Nat} {p:Nat->Bool} (hp:p n=false):∀ (l:List (Nat × Option aG)) {s:St} {g:aG},(s.fR (l.filter fun u=>p u.1)).rg[n]? = some (some g)->s.rg[n]? = some (some g)
 | l,s,g,h=>by
   rcases sl h with h1 | ⟨h1,-⟩
   ·have:=(List.mem_filter.1 h1).2
    simp only at this
    rw [hp] at this; cases this
   ·exact h1
theorem Fp {n:Nat}:∀ (l:List (Nat × Option aG)) {s:St},n<(s.fR l).rg.length->n<s.rg.length∨∃ u∈l,n<=u.1
 | [],s,h=>.inl h
 | (m,x)::l,s,h=>by
   rcases Fp l (s:=s.cn m x) h with h1 | ⟨u,h1,h2⟩
   ·have:n<(putAt s.rg m x).length:=h1
    unfold putAt at this
    split at this
    ·rw [List.length_set] at this; exact .inl this
    ·simp at this
     by_cases e:n<s.rg.length
     ·exact .inl e
     ·exact .inr ⟨(m,x),by simp,by simp only; omega⟩
   ·exact .inr ⟨u,by simp [h1],h2⟩
theorem Fq {P:Program} {Γ:Env} {g h:aG} {o:Nat} {te:TypeId} {L:List Value} (hp:partOf P g o te=some h) (hb:bG Γ g.st g.body L) :
  ∃ n m,h.body.len=some n∧g.body.len=some m∧o+n<=m∧m<=L.length∧bG Γ h.st h.body (L.drop o)∧n=al P te∧h.st=n:=by
 unfold partOf at hp
 split at hp
 ·rename_i xs hxb
  split at hp
  case isFalse=>cases hp
  rename_i hc
  cases hp
  rw [hxb] at hb ⊢
  obtain ⟨l1,l2,hl,hr⟩:=hb
  have hlen:=hr.length
  have e1:((xs.drop o).take (al P te)).length=al P te:=by rw [ax7,ax1]; omega
  refine ⟨al P te,xs.length,congrArg some e1,rfl,hc.1,by rw [hl,axG]; omega,⟨(l1.drop o).take (al P te),(l1.drop o).drop (al P te)++l2,?_,(hr.drop o).take _⟩,rfl,rfl⟩
  rw [<- axC,axE,hl,List.drop_append_of_le_length (by omega)]
 ·rename_i l hxb
  split at hp
  case isFalse=>cases hp
  rename_i hc
  split at hp
  case h_2=>cases hp
  rename_i r lg
  rw [hxb] at hb ⊢
  have fI:=hb.lK
  obtain ⟨l1,l2,hl,hr,-⟩:=hb
  have hlen:=hr.length
  have Sr:=aZ fI
  obtain ⟨s1,s2,-⟩:=gF fI lg
  have hrf:R2 (CR Γ) (ay r) ((l1.drop o).take (al P te)):=s2 ▸ (hr.drop o).take _
  have hrl:(ay r).length=al P te:=by rw [s2,ax7,ax1]; omega
  have aoM:L.drop o=(l1.drop o).take (al P te)++((l1.drop o).drop (al P te)++l2):=by
   rw [<- axC,axE,hl,List.drop_append_of_le_length (by omega)]
  split at hp
  ·cases hp
   exact ⟨al P te,b6 l,congrArg some (by rw [<- aZ s1]; exact hrl),rfl,hc.1,by rw [hl,axG]; omega,⟨_,_,aoM,hrf,s1⟩,rfl,rfl⟩
  ·cases hp
   exact ⟨al P te,b6 l,congrArg some hrl,rfl,hc.1,by rw [hl,axG]; omega,⟨_,_,aoM,hrf⟩,rfl,rfl⟩
 ·cases hp
theorem Fs {Γ:Env} {g h g' : aG} {o n m:Nat} {L M:List Value} (hb:Cc g h o=some g') (hn:h.body.len=some n) (hm:g.body.len=some m) (ho:o+n<=m)
  (hg:bG Γ g.st g.body L) (hh:bG Γ h.st h.body M) (hM:M.length=n) :
  g'.body.len=some m∧g'.e=g.e∧g'.st=g.st∧bG Γ g'.st g'.body (aw L o M):=by
 unfold Cc at hb
 have bO:∀ {ys:List NC},h.body=.cells ys->R2 (CR Γ) ys M:=by
  intro ys hy
  rw [hy] at hh hn
  obtain ⟨l1,l2,hl,hr⟩:=hh
  have:l2=[]:=by
   have h1:=congrArg ayF hl
   rw [axG,<- hr.length,hM] at h1
   have h2:ys.length=n:=Option.some.inj hn
   exact ayb (by omega)
  rw [hl,this,ayw]
  exact hr
 split at hb
 ·rename_i xs ys hxb hyb
  cases hb
  have vY:=bO hyb
  rw [hxb] at hg hm
  obtain ⟨l1,l2,hl,hr⟩:=hg
  have hlen:=hr.length
  have hm' : xs.length=m:=Option.some.inj hm
  have O1:=vY.length
  refine ⟨congrArg some (by rw [cY _ _ _ (by omega)]; exact hm'),rfl,rfl,aw l1 o M,l2,?_,hr.aw _ vY⟩
  rw [hl,ct _ _ _ _ (by omega)]
 ·rename_i l ys hxb hyb
  split at hb
  case h_2=>cases hb
  rename_i l' Cr
  cases hb
  have vY:=bO hyb
  rw [hxb] at hg hm
  have fI:=hg.lK
  obtain ⟨l1,l2,hl,hr,-⟩:=hg
  have hlen:=hr.length
  have Sr:=aZ fI
  have hm' : b6 l=m:=Option.some.inj hm
  have O1:=vY.length
  obtain ⟨h1,h2⟩:=fh fI (v:=[.cells ys]) (by intro s hs; rw [ayx] at hs; subst hs; trivial) (by simp [ay,bq.flat]) (by omega) Cr
  have hsf:ay [bq.cells ys]=ys:=rfl
  rw [hsf] at h2
  have AG:=aZ h1
  have Ss:=congrArg ayF h2
  rw [cY _ _ _ (by omega)] at Ss
  refine ⟨congrArg some (by omega),rfl,rfl,aw l1 o M,l2,?_,?_,h1⟩
  ·rw [hl,ct _ _ _ _ (by omega)]
  ·rw [h2]; exact hr.aw _ vY
 ·rename_i l r hxb hyb
  split at hb
  case h_2=>cases hb
  rename_i l' Cr
  cases hb
  rw [hyb] at hh hn
  have aoN:=hh.lK
  obtain ⟨k1,k2,hk,hkr,-⟩:=hh
  have aut:=aZ aoN
  have xQ : b6 r=n:=Option.some.inj hn
  have hk2:k2=[]:=by
   have h1:=congrArg ayF hk
   rw [axG,<- hkr.length,hM] at h1
   exact ayb (by omega)
  rw [hk2,ayw] at hk
  subst hk
  rw [hxb] at hg hm
  have fI:=hg.lK
  obtain ⟨l1,l2,hl,hr,-⟩:=hg
  have hlen:=hr.length
  have Sr:=aZ fI
  have hm' : b6 l=m:=Option.some.inj hm
  obtain ⟨h1,h2⟩:=fh fI aoN aut (by omega) Cr
  have AG:=aZ h1
  have Ss:=congrArg ayF h2
  rw [cY _ _ _ (by omega)] at Ss
  refine ⟨congrArg some (by omega),rfl,rfl,aw l1 o M,l2,?_,?_,h1⟩
  ·rw [hl,ct _ _ _ _ (by omega)]
  ·rw [h2]; exact hr.aw _ hkr
 ·cases hb
theorem aQ.part {Γ:Env} {rg:List (Option aG)} {w:World} (hw:aQ Γ rg w) {nm:Nat} {h:aG} {Bf:cR} (fH:Γ.μ nm=none) (RH:Bf.gh=false) (hr:cN (Γ.add nm Bf) h Bf w)
  (hd:∀ m B,Nx.live rg m->Γ.pt m=some B->B.ax≠Bf.ax) (hk:Γ.kp Bf.ax=none):aQ (Γ.add nm Bf) (putAt rg nm (some h)) w:=by
 have hle:=Γ.jq nm Bf fH
 have nU:(Γ.add nm Bf).pt nm=some Bf:=Env.mH RH
 have hl:∀ m,m≠nm->Nx.live (putAt rg nm (some h)) m->Nx.live rg m:=fun m e hm=>by
  rcases (cq _ _ _ _).1 hm with ⟨h1,-⟩ | ⟨-,h1⟩
  ·exact (e h1).elim
  ·exact h1
 refine ⟨fun m g hm=>?_,fun a b B B' b9 la lb ea eb=>?_,hw.kp,fun m B hm eB=>?_,hw.ro⟩
 ·rcases (bn _ _ _ _ _).1 hm with ⟨rfl,e⟩ | ⟨b9,e⟩
  ·cases e
   exact ⟨Bf,Env.dq _ _ _,hr⟩
  ·obtain ⟨B,h1,h2⟩:=hw.live m g e
   exact ⟨B,hle.μ _ _ h1,h2.mono hle⟩
 ·by_cases e1:a=nm
  ·subst e1
   have hH:=hl b (Ne.symm b9) lb
   rw [nU] at ea; cases ea
   rw [Env.cw (Ne.symm b9)] at eb
   exact Ne.symm (hd b B' hH eb)
  ·by_cases e2:b=nm
   ·subst e2
    have ha':=hl a b9 la
    rw [nU] at eb; cases eb
    rw [Env.cw b9] at ea
    exact hd a B ha' ea
   ·rw [Env.cw e1] at ea
    rw [Env.cw e2] at eb
    exact hw.inj a b B B' b9 (hl a e1 la) (hl b e2 lb) ea eb
 ·by_cases e1:m=nm
  ·subst e1
   rw [nU] at eB; cases eB
   exact hk
  ·rw [Env.cw e1] at eB
   exact hw.apart m B (hl m e1 hm) eB
def Env.drop (Γ:Env) (nm:Nat):Env:={Γ with μ:=fun n=>if n=nm then none else Γ.μ n}
theorem Env.sm {Γ:Env} {nm n:Nat} (h:n≠nm):(Γ.drop nm).μ n=Γ.μ n:=if_neg h
theorem Env.pS {Γ:Env} {nm n:Nat} {B:cR} (h:(Γ.drop nm).pt n=some B):n≠nm∧Γ.pt n=some B:=by
 obtain ⟨h1,h2⟩:=Env.bt.1 h
 by_cases e:n=nm
 ·subst e
  have:(Γ.drop n).μ n=none:=if_pos rfl
  rw [this] at h1; cases h1
 ·rw [Env.sm e] at h1
  exact ⟨e,Env.bt.2 ⟨h1,h2⟩⟩
theorem SX (Γ:Env) (nm:Nat):Ren (but nm) Γ (Γ.drop nm):=by
 refine ⟨fun n j B h1 h2=>?_,rfl⟩
 unfold but at h1
 split at h1
 ·cases h1
 ·rename_i e
  cases h1
  rw [Env.sm e]; exact h2
theorem CI {X:Cx} (cy:∀ f T,X.con f=some T->Known X.P X.glob f T) {f:FuncId} {t:Option TypeId} {x:NV} {r:Nat} {g h:aG} {o:Nat} {rest:List NV} {nm:Nat} {s:St} {Γ:Env} {w:World} {vs:List Value} {R:fQ->Prop}
  (hf:gX X.P s t x=some (r,g,o,h))
  (hw:aQ Γ s.rg w) (hG:GlobOk X.glob Γ) (dG:R2 (cM Γ) (x::rest) vs) (fH:∀ k,nm<=k->k<nm+16->Γ.μ k=none) (bE:(qO X f r g o h rest nm s).run R) :
  Calls X.P f vs.toArray w fun e w'=>∃ x v,R x∧e=.returned v∧bp Γ s w nm x v w':=by
 have qW:=fH nm (axB _) (by omega)
 cases dG with
 | @cons _ v0 _ vs' hx SY=>
 have key:∃ te B,Γ.pt r=some B∧partOf X.P g o te=some h∧s.bK r=some g∧v0=.pointer (some ⟨B.ax,B.o+o,none⟩):=by
  unfold gX at hf
  split at hf
  case h_3=>cases hf
  ·rename_i t r0 i c
   split at hf
   case h_2=>cases hf
   rename_i te g0 htu Ad
   split at hf
   case h_2=>cases hf
   rename_i h0 vq
   cases hf
   obtain ⟨⟨B,hB,rfl⟩,-⟩:=hx
   exact ⟨te,B,hB,vq,Ad,by rw [hw.st hB ((bS s r g).1 Ad)]⟩
  ·rename_i t r0 a w' i c
   split at hf
   case h_2=>cases hf
   rename_i te g0 htu Ad
   split at hf
   case h_2=>cases hf
   rename_i h0 vq
   cases hf
   obtain ⟨⟨B,hB,rfl⟩,-⟩:=hx
   exact ⟨te,B,hB,vq,Ad,rfl⟩
 obtain ⟨te,B,hB,vq,Ad,rfl⟩:=key
 have gS:=(bS s r g).1 Ad
 obtain ⟨cs,hA⟩:=hw.at hB gS (by cases hb:g.body <;> first | rfl | (unfold partOf at vq; rw [hb] at vq; cases vq))
 obtain ⟨n,m,hn,hm,ho,hmL,hbh,hnt,fv⟩:=Fq vq hA.body
 have auu:=hA.part.le
 rw [ax1] at hmL
 have hlB:cs.toList.length=B.sz:=by simpa using hA.sz
 -- where the part axj
 generalize hBf:(⟨B.ax,h.st,B.sz,B.e,false,cs.toList.take (B.o+o),some (cs.toList.drop (B.o+o+n))⟩:cR)=Bf
 have IP:Bf.gh=false:=by rw [<- hBf]
 have so:Bf.ax=B.ax:=by rw [<- hBf]
 have Ft:Bf.o=B.o+o:=by rw [<- hBf]; unfold cR.o; simp only [ax7]; unfold cR.o at hmL auu; omega
 have agl:Bf.pre=cs.toList.take (B.o+o):=by rw [<- hBf]
 have S0:Bf.post=some (cs.toList.drop (B.o+o+n)):=by rw [<- hBf]
 have hBe:Bf.e=B.e:=by rw [<- hBf]
 have auv:Bf.st=h.st:=by rw [<- hBf]
 have aiR:Bf.sz=B.sz:=by rw [<- hBf]
 clear hBf
 have kb:cX (bZ (but nm)) g=some g:=xV (.inr (.inl ⟨(Env.bt.1 hB).2,cs,hA⟩)) qW
 have LQ:r≠nm:=fun e=>by rw [e] at hB; have:=(Env.bt.1 hB).1; rw [qW] at this; cases this
 have abp:=Γ.jq nm Bf qW
 have aoO:cN (Γ.add nm Bf) h Bf w:=by
  refine .inr (.inl ⟨IP,cs,by rw [so,hBe]; exact hA.heap,auv,hA.sz.trans aiR.symm,?_,?_,?_⟩)
  ·rw [Ft,<- ayG]
   exact hbh.mono abp
  ·rw [Ft,agl]
  ·rw [S0]
   exact ⟨n,hn,by rw [Ft],by rw [Ft]; omega⟩
 have aoP:=hw.kill r
 have hwf:aQ (Γ.add nm Bf) (putAt (putAt s.rg r none) nm (some h)) w:=by
  refine aoP.part qW IP aoO (fun m' B' hl sj=>?_) (by rw [so]; exact hw.apart r B ⟨g,gS⟩ hB)
  rcases (cq _ _ _ _).1 hl with ⟨-,e⟩ | ⟨e,hl⟩
  ·cases e
  ·rw [so]
   exact hw.inj m' r B' B e hl ⟨g,gS⟩ sj hB
 unfold qO at bE
 simp only at bE
 rw [Tr.run_bind] at bE
 generalize S1 : ({s with rg:=putAt (putAt s.rg r none) nm (some h)}:St)=s' at bE
 have auw : aQ (Γ.add nm Bf) s'.rg w:=by rw [<- S1]; exact hwf
 have CF : R2 (cM (Γ.add nm Bf)) (.c (.p nm 0 0)::rest) (.pointer (some ⟨B.ax,B.o+o,none⟩)::vs'):=by
  refine .cons ⟨⟨Bf,Env.mH IP,?_⟩,rfl⟩ (SY.imp fun a b hr=>hr.mono abp)
  rw [so,Ft]
  simp
 refine (hU cy (q:=15) (dL s' _ _ _ (by simp)) auw (hG.mono abp) CF (fun k h1 h2=>?_) bE).mono ?_
 ·have:(Γ.add nm Bf).μ k=Γ.μ k:=by simp [Env.add,show k≠nm by omega]
  rw [this]
  exact fH k (by omega) (by omega)
 rintro e w' ⟨x,v,hR,rfl,eG,vZ,hsr,xS,Fb,lQ⟩
 split at hR
 case h_2=>exact hR.elim
 rename_i h' v' zz hup hmv hmr
 split at hR
 case h_2=>exact hR.elim
 rename_i g' vp
 split at hR
 case isFalse=>exact hR.elim
 rename_i hlen
 obtain ⟨hlen,hall⟩:=hlen
 refine ⟨_,v,hR,rfl,?_⟩
 clear bE hR
 have aoQ : ∀ y,(nm,y)∈x.up->y.isSome=true:=fun y hy=>by
  have:=List.all_eq_true.1 hall _ hy
  simpa using this
 have S2:=Fo (s:=s') hup aoQ
 -- what is left of the part
 obtain ⟨B2,hB2,vY⟩:=xS.live nm h' S2
 have S3:eG.μ nm=some Bf:=vZ.le.μ _ _ (Env.dq _ _ _)
 rw [S3] at hB2
 cases hB2
 have aiS:eG.pt nm=some Bf:=Env.bt.2 ⟨S3,IP⟩
 obtain ⟨c',hA'⟩:=xS.at aiS S2 (by cases hb:h'.body <;> first | rfl | (unfold Cc at vp; rw [hb] at vp; cases SG:g.body <;> rw [SG] at vp <;> cases vp))
 have xQ : h'.body.len=some n:=by rw [hlen]; exact hn
 have aiT:=hA'.part
 obtain ⟨hp1,hp2⟩:=aiT
 rw [S0] at hp2
 obtain ⟨n2,hp3,hp4,hp5⟩:=hp2
 rw [xQ] at hp3
 cases hp3
 rw [Ft] at hp1 hp4 hp5
 rw [agl] at hp1
 have eQ:c'.toList.length=cs.toList.length:=by
  have h1:c'.size=B.sz:=hA'.sz.trans aiR
  have:c'.toList.length=B.sz:=by simpa using h1
  rw [this,hlB]
 -- the region with its part
 have abq:Γ.le eG:=abp.trans vZ.le
 have aiU:Γ.le (eG.drop nm):=⟨fun n B hn=>by
  have b9:n≠nm:=fun e=>by rw [e,qW] at hn; cases hn
  rw [Env.sm b9]; exact abq.μ _ _ hn,abq.kp,abq.ro,abq.er⟩
 have gv:=SX eG nm
 have dK:lN eG (eG.drop nm):=fun b o h1 h2=>⟨h1,h2⟩
 have xT:∀ {y:aG},(∃ k,(k,some y)∈x.up)->cX (bZ (but nm)) y=some y:=by
  rintro y ⟨k,hk⟩
  obtain ⟨y',hy'⟩:=ud hmr y (List.mem_map.2 ⟨(k,some y),hk,rfl⟩)
  have:=Fm hy'
  rw [this] at hy'; exact hy'
 have hh' : cX (bZ (but nm)) h'=some h':=by
  rcases sl S2 with h1 | ⟨h1,h2⟩
  ·exact xT ⟨nm,h1⟩
  ·exfalso
   have key:∀ {l:List (Nat × Option aG)},EJ nm l=some h'->∃ y,(nm,y)∈l:=by
    intro l
    induction l with
    | nil=>intro h; cases h
    | cons y l ih=>
      obtain ⟨k,z⟩:=y
      intro h
      simp only [EJ] at h
      split at h
      ·rename_i h3 hh
       cases h
       obtain ⟨y,hy⟩:=ih hh
       exact ⟨y,by simp [hy]⟩
      ·split at h
       ·rename_i e; exact ⟨z,by simp [e]⟩
       ·cases h
   obtain ⟨y,hy⟩:=key hup
   exact h2 y hy
 have hbm:bG (eG.drop nm) h'.st h'.body (c'.toList.drop (B.o+o)):=by
  have h1:=mX gv (fun _=>dK) vY hh'
  rcases h1 with ⟨h1,-⟩ | ⟨-,c2,hA2⟩ | ⟨-,hm3⟩
  ·rw [IP] at h1; cases h1
  rotate_left
  ·obtain ⟨ks,sch,xs,es,ck,-,h3,-⟩:=hm3.mp
   rw [hA'.heap] at h3
   cases h3
  ·have:c2=c':=by
    have h3:=hA2.heap
    rw [hA'.heap] at h3
    simp only [Option.some.injEq,Obj.cells.injEq] at h3
    exact h3.1.symm
   rw [this] at hA2
   have:=hA2.body
   rw [Ft] at this
   exact this
 have hbt:bG (eG.drop nm) h'.st h'.body ((c'.toList.drop (B.o+o)).take n):=by
  revert hbm xQ
  cases h'.body with
  | cells ys=>
    rintro hk ⟨l1,l2,hl,hr⟩
    have hk:ys.length=n:=Option.some.inj hk
    have:=hr.length
    refine ⟨l1,[],?_,hr⟩
    rw [hl,ayw,axW (by omega),axN (by omega)]
  | sg l=>
    rintro hk ⟨l1,l2,hl,hr,fI⟩
    have hk:b6 l=n:=Option.some.inj hk
    have h1:=hr.length
    have h2:=aZ fI
    refine ⟨l1,[],?_,hr,fI⟩
    rw [hl,ayw,axW (by omega),axN (by omega)]
  | ints k xs=>intro hk; cases hk
  | aA ks xs=>intro hk; cases hk
  | ij sch xs=>intro hk; cases hk
  | mp ks sch xs=>rintro - h; exact h.elim
 have agm:((c'.toList.drop (B.o+o)).take n).length=n:=by rw [ax7,ax1]; omega
 have hbg:bG (eG.drop nm) g.st g.body (cs.toList.drop B.o):=hA.body.mono aiU
 obtain ⟨k1,k2,k3,k4⟩:=Fs vp xQ hm ho hbg hbt agm
 have aoR:c'.toList.drop B.o=aw (cs.toList.drop B.o) o ((c'.toList.drop (B.o+o)).take n):=by
  unfold aw
  rw [agm]
  have e1:(cs.toList.drop B.o).take o=(c'.toList.drop B.o).take o:=by
   have:=congrArg (List.drop B.o) hp1
   rw [List.drop_take,List.drop_take,Nat.add_sub_cancel_left] at this
   exact this.symm
  have e2:(cs.toList.drop B.o).drop (o+n)=(c'.toList.drop B.o).drop (o+n):=by
   rw [ayG,ayG,<- aye]
   exact hp4.symm
  have e3:(c'.toList.drop (B.o+o)).take n=((c'.toList.drop B.o).drop o).take n:=by rw [ayG]
  rw [e1,e2,e3,<- ayG,axC,axE,axE]
 have aoS:cN (eG.drop nm) g' B w':=by
  refine .inr (.inl ⟨(Env.bt.1 hB).2,c',?_,hA.st.trans k3.symm,hA'.sz.trans aiR,?_,?_,?_⟩)
  ·have:=hA'.heap
   rw [so,hBe] at this; exact this
  ·rw [aoR]; exact k4
  ·have:=congrArg (List.take B.o) hp1
   rw [List.take_take,List.take_take,Nat.min_eq_left (by omega)] at this
   rw [this]; exact hA.part.1
  ·have h2:=hA.part.2
   cases hp:B.post with
   | none=>
     rw [hp] at h2
     exact ⟨h2.1,h2.2.trans k2.symm⟩
   | some post=>
     rw [hp] at h2
     obtain ⟨m2,h3,h4,h5⟩:=h2
     rw [hm] at h3
     cases h3
     refine ⟨m,k1,?_,by omega⟩
     have:=congrArg (List.drop (m - (o+n))) hp4
     rw [ayG,ayG,show B.o+o+n+(m - (o+n))=B.o+m by omega] at this
     rw [this]; exact h4
 -- the regions behind it
 have aoT:∀ k,k≠nm->k≠r->∀ y,s.rg[k]? = some (some y)↔s'.rg[k]? = some (some y):=by
  intro k h1 h2 y
  rw [<- S1]
  show _↔(putAt (putAt s.rg r none) nm (some h))[k]? = _
  rw [bn,bn]
  simp [h1,h2]
 have Af:∀ {k:Nat} {y:aG},(s.fR ((x.up.filter fun u=>u.1 !=nm&&u.1 !=r)++[(r,some g')])).rg[k]? = some (some y)->
   k≠nm∧((k=r∧y=g')∨(k≠r∧(s'.fR x.up).rg[k]? = some (some y))):=by
  intro k y hk
  rw [xO] at hk
  have Ie : (putAt (s.fR (x.up.filter fun u=>u.1 !=nm&&u.1 !=r)).rg r (some g'))[k]? = some (some y):=hk
  rcases (bn _ _ _ _ _).1 Ie with ⟨h1,h2⟩ | ⟨h1,h2⟩
  ·exact ⟨fun e=>LQ (h1 ▸ e),.inl ⟨h1,by cases h2; rfl⟩⟩
  ·have b9:k≠nm:=by
    rintro rfl
    have h3:=SW (p:=fun j=>j !=k&&j !=r) (by simp) x.up h2
    obtain ⟨B3,hB3,-⟩:=hw.live k y h3
    rw [qW] at hB3; cases hB3
   exact ⟨b9,.inr ⟨h1,(uf (p:=fun j=>j !=nm&&j !=r) (by simp [b9,h1]) x.up (aoT k b9 h1) y).1 h2⟩⟩
 have hb3:∀ {k:Nat} {y:aG},k≠nm->k≠r->(s'.fR x.up).rg[k]? = some (some y)->cX (bZ (but nm)) y=some y:=by
  intro k y h1 h2 hk
  rcases sl hk with h3 | ⟨h3,-⟩
  ·exact xT ⟨k,h3⟩
  ·obtain ⟨B3,hB3,hr3⟩:=hw.live k y ((aoT k h1 h2 y).2 h3)
   exact xV hr3 qW
 have hr3:(eG.drop nm).pt r=some B:=aiU.pt hB
 have hdB:∀ {k:Nat} {y:aG} {B3:cR},k≠nm->(s'.fR x.up).rg[k]? = some (some y)->eG.pt k=some B3->B3.ax≠B.ax:=by
  intro k y B3 h1 h2 h3
  rw [<- so]
  exact xS.inj k nm B3 Bf h1 ⟨y,h2⟩ ⟨h',S2⟩ h3 aiS
 refine ⟨eG.drop nm,⟨aiU,fun b hb=>?_,fun k B3 hk=>?_⟩,?_,⟨fun k y hk=>?_,fun a b Ba Bb b9 la lb ea eb=>?_,xS.kp,fun k B3 lk hk=>?_,xS.ro⟩,Fb,fun k h1 h2=>?_⟩
 ·rcases vZ.ro b hb with h1 | h1 | ⟨k,B3,h1,h2⟩
  ·exact .inl h1
  ·exact .inr (.inl h1)
  ·by_cases e:k=nm
   ·subst e
    rw [Env.mH IP] at h1; cases h1
    exact .inr (.inr ⟨r,B,hB,by rw [<- so]; exact h2⟩)
   ·rw [Env.cw e] at h1
    exact .inr (.inr ⟨k,B3,h1,h2⟩)
 ·obtain ⟨-,hk⟩:=Env.pS hk
  rcases vZ.nw k B3 hk with h1 | ⟨k',B4,h1,h2⟩
  ·exact .inl h1
  ·by_cases e:k'=nm
   ·subst e
    rw [Env.mH IP] at h1; cases h1
    exact .inr ⟨r,B,hB,by rw [<- so]; exact h2⟩
   ·rw [Env.cw e] at h1
    exact .inr ⟨k',B4,h1,h2⟩
 ·exact pO gv (fun _=>dK) hsr hmv
 ·obtain ⟨h1,⟨rfl,rfl⟩ | ⟨h2,h3⟩⟩:=Af hk
  ·exact ⟨B,Env.qo hr3,aoS⟩
  ·obtain ⟨B3,hB3,hr4⟩:=xS.live k y h3
   exact ⟨B3,by rw [Env.sm h1]; exact hB3,mX gv (fun _=>dK) hr4 (hb3 h1 h2 h3)⟩
 ·obtain ⟨ga,IF⟩:=la
  obtain ⟨gb,SG⟩:=lb
  obtain ⟨a1,⟨rfl,-⟩ | ⟨a2,a3⟩⟩:=Af IF <;> obtain ⟨b1,⟨rfl,-⟩ | ⟨b2,b3⟩⟩:=Af SG
  ·exact (b9 rfl).elim
  ·rw [hr3] at ea; cases ea
   exact Ne.symm (hdB b1 b3 (Env.pS eb).2)
  ·rw [hr3] at eb; cases eb
   exact hdB a1 a3 (Env.pS ea).2
  ·exact xS.inj a b Ba Bb b9 ⟨ga,a3⟩ ⟨gb,b3⟩ (Env.pS ea).2 (Env.pS eb).2
 ·obtain ⟨gk,hgk⟩:=lk
  obtain ⟨h1,⟨rfl,-⟩ | ⟨h2,h3⟩⟩:=Af hgk
  ·rw [hr3] at hk; cases hk
   have:=xS.apart nm Bf ⟨h',S2⟩ aiS
   rw [so] at this; exact this
  ·exact xS.apart k B3 ⟨gk,h3⟩ (Env.pS hk).2
 ·by_cases e:k=nm
  ·subst e; exact if_pos rfl
  ·rw [Env.sm e]
   refine lQ k (by simp [Env.add,e]; exact h1) fun ⟨q1,q2,q3⟩=>h2 ⟨by omega,by omega,?_⟩
   have jv:r<s.rg.length:=(List.getElem?_eq_some_iff.1 gS).1
   by_cases jc:k<s.rg.length
   ·exact Nat.lt_of_lt_of_le jc (Cy s _)
   ·rcases Fp x.up q3 with h3 | ⟨u,h3,h4⟩
    ·exfalso
     have hl3:s'.rg.length<=max s.rg.length (nm+1):=by
      rw [<- S1]
      show (putAt (putAt s.rg r none) nm (some h)).length<=_
      have h5:(putAt s.rg r none).length=s.rg.length:=by unfold putAt; rw [if_pos jv,List.length_set]
      unfold putAt at h5 ⊢
      rw [if_pos jv] at h5 ⊢
      split
      ·rw [List.length_set]; omega
      ·simp; omega
     omega
    ·obtain ⟨u1,u2⟩:=u
     have:(u1,u2)∈(x.up.filter fun u=>u.1 !=nm&&u.1 !=r)++[(r,some g')]:=by
      refine List.mem_append_left _ (List.mem_filter.2 ⟨h3,?_⟩)
      simp only [ayu,bne_iff_ne,ne_eq]
      simp only at h4
      exact ⟨by omega,by omega⟩
     exact Nat.lt_of_le_of_lt h4 (mV this)
theorem Fu {X:Cx} (cy:∀ f T,X.con f=some T->Known X.P X.glob f T) {f:FuncId} {args:List NV} {nm:Nat} {s:St} {Γ:Env} {w:World} {vs:List Value} {R:fQ->Prop}
  (hw:aQ Γ s.rg w) (hG:GlobOk X.glob Γ) (dG:R2 (cM Γ) args vs) (fH:∀ k,nm<=k->k<nm+16->Γ.μ k=none) (h:(ju X f args nm s).run R) :
  Calls X.P f vs.toArray w fun e w'=>∃ x v,R x∧e=.returned v∧bp Γ s w nm x v w':=by
 unfold ju at h
 split at h
 ·split at h
  ·rename_i hf
   rcases EK h with h | h
   ·exact CI cy hf hw hG dG fH h
   ·exact hU cy (dL s _ _ _ (by simp)) hw hG dG fH h
  ·exact hU cy (dL s _ _ _ (by simp)) hw hG dG fH h
 ·exact hU cy (dL s _ _ _ (by simp)) hw hG dG fH h
def S4:Part->Bool
 | .i _=>true
 | .b=>true
 | _=>false
def eI:Part->FC->Value
 | .i k,a=>.int k a.n
 | _,a=>.bool a.t
def dB:List Part->List FC->Nat->List Value
 | [],_,_=>[]
 | p::ks,row,j=>eI p (row.getD j (.i 0))::dB ks row (j+1)
theorem jE:∀ {ks:List Part} {row:List FC} {j i:Nat} {p:Part},ks[i]? = some p->(dB ks row j)[i]? = some (eI p (row.getD (j+i) (.i 0)))
 | [],_,_,_,_,h=>by simp at h
 | p::ks,row,j,0,q,h=>by simp at h; subst h; simp [dB]
 | p::ks,row,j,i+1,q,h=>by
   simp at h
   rw [dB,List.getElem?_cons_succ,jE h]
   congr 3; omega
theorem gI {Γ:Env}:∀ {ks:List Part} {row:List FC} {j:Nat} {vs:List Value},(∀ p∈ks,S4 p=true)->R2 (FR Γ) (ay (bj ks row j)) vs->vs=dB ks row j
 | [],row,j,vs,_,h=>by cases h; rfl
 | p::ks,row,j,vs,hf,h=>by
   have hp:=hf p (by simp)
   cases p <;> simp only [S4,ayH] at hp
   ·rw [bj,Part.put,iY] at h
    cases h with
    | cons h1 h2=>
      rw [gI (fun q hq=>hf q (by simp [hq])) h2]
      have:_=Value.int _ _:=h1.1
      rw [this]; rfl
   ·rw [bj,Part.put,iY] at h
    cases h with
    | cons h1 h2=>
      rw [gI (fun q hq=>hf q (by simp [hq])) h2]
      have:_=Value.bool _:=h1.1
      rw [this]; rfl
theorem eC {P:Program}:∀ {fs:List Field} {ks:List Part} {j:Nat},gg P fs ks j=true->∀ p∈ks,S4 p=true
 | [],[],_,_=>by simp
 | [],_::_,_,h=>by simp [gg] at h
 | _::_,[],_,h=>by simp [gg] at h
 | f::fs,p::ks,j,h=>by
   cases p <;> simp only [gg,ayu,ayH] at h
   ·intro q hq
    rcases List.mem_cons.1 hq with rfl | hq
    ·rfl
    ·exact eC h.2 q hq
   ·intro q hq
    rcases List.mem_cons.1 hq with rfl | hq
    ·rfl
    ·exact eC h.2 q hq
theorem qX:∀ {ks:List Part} {a b:List FC} {j:Nat},dS ks a b j=true->dB ks a j=dB ks b j
 | [],_,_,_,_=>rfl
 | p::ks,a,b,j,h=>by
   cases p <;> simp only [dS,ayu,beq_iff_eq,ayH] at h
   ·simp only [dB,eI,h.1,qX h.2]
   ·simp only [dB,eI,h.1,qX h.2]
section
variable {P:Program} (w:World)
theorem fB {t:TypeId} {d:TypeDesc} {xs:Array Value} {o:Nat} {v:Value} (hu:P.underlying t=some d) (ha:b4 P t=false) (hx:xs[o]? = some v):(part t xs o).run P w=.ok v w:=by
 simp [part,dI hu,ha,hx]
theorem hZ (d:Nat) {xs ys:Array Value} {a b:List FC}:∀ {fs:List Field} {ks:List Part} {j:Nat},gg P fs ks j=true->
  (∀ i p,ks[i]? = some p->xs[j+i]? = some (eI p (a.getD (j+i) (.i 0)))∧ys[j+i]? = some (eI p (b.getD (j+i) (.i 0))))->
  (Op.eqFields (d+1) xs ys fs).run P w=.ok (dS ks a b j) w
 | [],[],_,_,_=>rfl
 | [],_::_,_,h,_=>by simp [gg] at h
 | _::_,[],_,h,_=>by simp [gg] at h
 | f::fs,p::ks,j,h,hc=>by
   have h0:=hc 0 p (by simp)
   simp only [ax9] at h0
   have hn:∀ i q,ks[i]? = some q->xs[(j+1)+i]? = some (eI q (a.getD ((j+1)+i) (.i 0)))∧ys[(j+1)+i]? = some (eI q (b.getD ((j+1)+i) (.i 0))):=fun i q hq=>by
    have:=hc (i+1) q (by simpa using hq)
    rw [show j+(i+1)=(j+1)+i by omega] at this
    exact this
   cases p <;> simp only [gg,ayu,ayH,bne_iff_ne,ne_eq,beq_iff_eq] at h
   ·obtain ⟨⟨⟨h1,h2⟩,h3⟩,h4⟩:=h
    split at h3
    case h_2=>cases h3
    rename_i k k' hu
    have ih:=hZ d h4 hn
    have O':b4 P f.type=false:=by simp [b4,hu]
    simp only [Op.eqFields]
    rw [if_pos h1]
    simp only [Sem.run_bind,h2,fB w hu O' h0.1,fB w hu O' h0.2,Result.andThen_ok,eI]
    rw [run_equalIn_int w d f.type _ _ _ _ hu]
    simp only [Result.andThen_ok,dS]
    cases e:(a.getD j (.i 0)).n==(b.getD j (.i 0)).n
    ·simp
    ·simpa using ih
   ·obtain ⟨⟨⟨h1,h2⟩,h3⟩,h4⟩:=h
    split at h3
    case h_2=>cases h3
    rename_i hu
    have ih:=hZ d h4 hn
    have O':b4 P f.type=false:=by simp [b4,hu]
    simp only [Op.eqFields]
    rw [if_pos h1]
    simp only [Sem.run_bind,h2,fB w hu O' h0.1,fB w hu O' h0.2,Result.andThen_ok,eI]
    rw [run_equalIn_bool' w d f.type _ _ hu]
    simp only [Result.andThen_ok,dS]
    cases e:(a.getD j (.i 0)).t==(b.getD j (.i 0)).t
    ·simp
    ·simpa using ih
theorem fC {t:TypeId} {ks:List Part} (h:jA P t ks=true):∃ fs,P.underlying t=some (.struct fs)∧gg P fs.toList ks 0=true∧P.stoodInHeld t=false∧P.eqGuardType P.depth t=false:=by
 unfold jA at h
 split at h
 ·rename_i fs hu
  simp only [ayu,Bool.not_eq_eq_eq_not,Bool.not_true] at h
  exact ⟨fs,hu,h.1.1,h.1.2,h.2⟩
 ·cases h
theorem lR {t:TypeId} {ks:List Part} {Γ:Env} {a b:List FC} {x y:Value} (h:jA P t ks=true) (hx:gR Γ ks a x) (hy:gR Γ ks b y):(Op.equalIn 10000 t x y).run P w=.ok (dS ks a b 0) w:=by
 obtain ⟨fs,hu,hf,hs,-⟩:=fC h
 obtain ⟨vs,rfl,h1,-⟩:=hx
 obtain ⟨ws,rfl,h2,-⟩:=hy
 have e1:=gI (eC hf) h1
 have e2:=gI (eC hf) h2
 have hfo:P.fieldsOf t=fs:=by simp [Program.fieldsOf,hu]
 rw [show (10000:Nat)=(9998+1)+1 from rfl,run_equalIn_struct w _ t _ _ (by rw [hfo]; exact hu) hs,hfo]
 refine hZ w 9998 hf fun i p hp=>?_
 rw [ayf,e1,e2]
 have g1:=jE (row:=a) (j:=0) hp
 have g2:=jE (row:=b) (j:=0) hp
 rw [ayf] at g1 g2
 exact ⟨by simpa using g1,by simpa using g2⟩
theorem sq (em:Bool) (n:Nat) {t:TypeId} {ks:List Part} {Γ:Env} {a:List FC} {x:Value} (h:jA P t ks=true) (hx:gR Γ ks a x):(Instr.checkKey em (n+2) t x).run P w=.ok () w:=by
 obtain ⟨fs,hu,hf,-,-⟩:=fC h
 obtain ⟨vs,rfl,h1,-⟩:=hx
 have e1:=gI (eC hf) h1
 subst e1
 rw [show n+2=(n+1)+1 from rfl,Instr.checkKey]
 simp only [Sem.run_bind,run_underlying hu,Result.andThen_ok]
 rw [<- Array.forIn_toList]
 have key:∀ (fs:List Field) (nT : List Part) (j:Nat),gg P fs nT j=true->(∀ i p,nT[i]? = some p->(dB ks a 0).toArray[j+i]? = some (eI p (a.getD (j+i) (.i 0))))->
   (forIn fs PUnit.unit fun (f:Field) (_:PUnit)=>(if f.name≠"_" then do
      let Pk <- part f.type (dB ks a 0).toArray f.offset
      Instr.checkKey em (n+1) f.type Pk
      pure (ForInStep.yield PUnit.unit)
     else pure (ForInStep.yield PUnit.unit):Sem (ForInStep PUnit))).run P w=.ok PUnit.unit w:=by
  intro fs
  induction fs with
  | nil=>intro nT j _ _; simp
  | cons f fs ih=>
    intro nT j Sr hc
    cases nT with
    | nil=>simp [gg] at Sr
    | cons p nT=>
      have h0:=hc 0 p (by simp)
      simp only [ax9] at h0
      have hn:∀ i q,nT[i]? = some q->(dB ks a 0).toArray[(j+1)+i]? = some (eI q (a.getD ((j+1)+i) (.i 0))):=fun i q hq=>by
       have:=hc (i+1) q (by simpa using hq)
       rw [show j+(i+1)=(j+1)+i by omega] at this
       exact this
      cases p <;> simp only [gg,ayu,ayH,bne_iff_ne,ne_eq,beq_iff_eq] at Sr
      ·obtain ⟨⟨⟨g1,g2⟩,g3⟩,g4⟩:=Sr
       split at g3
       case h_2=>cases g3
       rename_i k k' hfu
       have O':b4 P f.type=false:=by simp [b4,hfu]
       simp only [List.forIn_cons,Sem.run_bind]
       rw [if_pos g1]
       simp only [Sem.run_bind,g2,fB w hfu O' h0,Result.andThen_ok,eI]
       simp only [Instr.checkKey,Sem.run_bind,run_underlying hfu,Result.andThen_ok,Sem.run_pure]
       exact ih nT (j+1) g4 hn
      ·obtain ⟨⟨⟨g1,g2⟩,g3⟩,g4⟩:=Sr
       split at g3
       case h_2=>cases g3
       rename_i hfu
       have O':b4 P f.type=false:=by simp [b4,hfu]
       simp only [List.forIn_cons,Sem.run_bind]
       rw [if_pos g1]
       simp only [Sem.run_bind,g2,fB w hfu O' h0,Result.andThen_ok,eI]
       simp only [Instr.checkKey,Sem.run_bind,run_underlying hfu,Result.andThen_ok,Sem.run_pure]
       exact ih nT (j+1) g4 hn
 have:=key fs.toList ks 0 hf fun i p hp=>by
  rw [ayf]
  have g1:=jE (row:=a) (j:=0) hp
  rw [ayf] at g1
  simpa using g1
 rw [this]
 rfl
theorem qu (n:Nat):∀ (ks:List Part) (a:List FC) (j:Nat),((dB ks a j).zip (dB ks a j)).all (fun (x,y)=>Instr.sameBits n x y)=true
 | [],_,_=>rfl
 | p::ks,a,j=>by
   simp only [dB,List.zip_cons_cons,List.all_cons,qu n ks a (j+1),Bool.and_true]
   cases p <;> simp [eI,Instr.sameBits]
end
def MpE (Γ:Env) (ks sch:List Part) (x:List FC × List FC) (e:MapEntry):Prop:=gR Γ ks x.1 e.key∧gR Γ sch x.2 e.val
inductive Found (Γ:Env) (ks sch:List Part) (key:List FC) (xs:List (List FC × List FC)) (es:List MapEntry) (i:Nat):Option (Nat × Value)->Prop
 | no:(∀ x∈xs,dS ks key x.1 0=false)->Found Γ ks sch key xs es i none
 | yes (pre:List (List FC × List FC)) (x:List FC × List FC) (post:List (List FC × List FC)) (ug:List MapEntry) (e:MapEntry) (xW:List MapEntry) :
   xs=pre++x::post->es=ug++e::xW->R2 (MpE Γ ks sch) pre ug->MpE Γ ks sch x e->R2 (MpE Γ ks sch) post xW->(∀ y∈pre,dS ks key y.1 0=false)->dS ks key x.1 0=true->
   Found Γ ks sch key xs es i (some (i+ug.length,e.val))
section
variable {P:Program} (w:World) {Γ:Env} {ks sch:List Part} {key:List FC}
theorem qv {t:TypeId} {x:Value} (h:jA P t ks=true) (hx:gR Γ ks key x):∀ {xs:List (List FC × List FC)} {es:List MapEntry} (i:Nat),R2 (MpE Γ ks sch) xs es->
  ∃ r,(Instr.findAsking t x es i).run P w=.ok r w∧Found Γ ks sch key xs es i r
 | [],_,i,.nil=>⟨none,by simp [Instr.findAsking],.no fun _ h=>by cases h⟩
 | y::xs,e::es,i,.cons h1 h2=>by
   have he:(Op.equal t x e.key).run P w=.ok (dS ks key y.1 0) w:=lR w h hx h1.1
   cases hk:dS ks key y.1 0 with
   | true=>
     refine ⟨some (i,e.val),by simp [Instr.findAsking,he,hk],?_⟩
     have:=Found.yes (Γ:=Γ) (ks:=ks) (sch:=sch) (key:=key) (i:=i) [] y xs [] e es rfl rfl .nil h1 h2 (fun _ h=>by cases h) hk
     simpa using this
   | false=>
     obtain ⟨r,hr,hf⟩:=qv h hx (i+1) h2
     refine ⟨r,by simp only [Instr.findAsking,Sem.run_bind,he,Result.andThen_ok,hk,ayH,if_false]; exact hr,?_⟩
     cases hf with
     | no hn=>
       exact .no fun z hz=>by
        rcases List.mem_cons.1 hz with rfl | hz
        ·exact hk
        ·exact hn z hz
     | yes pre z post ug e' xW a1 a2 a3 a4 a5 a6 a7=>
       have:=Found.yes (Γ:=Γ) (ks:=ks) (sch:=sch) (key:=key) (xs:=y::xs) (es:=e::es) (i:=i) (y::pre) z post (e::ug) e' xW (by rw [a1]; rfl) (by rw [a2]; rfl) (.cons h1 a3) a4 a5 (fun q hq=>by
        rcases List.mem_cons.1 hq with rfl | hq
        ·exact hk
        ·exact a6 q hq) a7
       rw [ayg,show i+(ug.length+1)=(i+1)+ug.length by omega] at this
       exact this
theorem S5 {xs:List (List FC × List FC)} (h:∀ x∈xs,dS ks key x.1 0=false):gW ks key xs=false∧(∀ v,km ks key v xs=xs++[(key,v)])∧ko ks key xs=xs:=by
 induction xs with
 | nil=>exact ⟨rfl,fun _=>rfl,rfl⟩
 | cons x xs ih=>
   obtain ⟨h1,h2,h3⟩:=ih fun y hy=>h y (by simp [hy])
   have hx:=h x (by simp)
   refine ⟨?_,fun v=>?_,?_⟩
   ·unfold gW at h1 ⊢
    rw [ayA,hx,h1]; rfl
   ·rw [km,hx,h2]; rfl
   ·rw [ko,hx,h3]
theorem IQ {pre post:List (List FC × List FC)} {x:List FC × List FC} (h:∀ y∈pre,dS ks key y.1 0=false) (hx:dS ks key x.1 0=true) :
  gW ks key (pre++x::post)=true∧jQ ks key (pre++x::post)=x.2∧(∀ v,km ks key v (pre++x::post)=pre++(key,v)::post)∧ko ks key (pre++x::post)=pre++post:=by
 induction pre with
 | nil=>
   refine ⟨?_,?_,fun v=>?_,?_⟩
   ·simp [gW,hx]
   ·simp [jQ,hx]
   ·rw [axY,km,hx]; rfl
   ·rw [axY,ko,hx]; rfl
 | cons y pre ih=>
   obtain ⟨h1,h2,h3,h4⟩:=ih fun z hz=>h z (by simp [hz])
   have hy:=h y (by simp)
   refine ⟨?_,?_,fun v=>?_,?_⟩
   ·unfold gW at h1 ⊢
    rw [ayh,ayA,h1,Bool.or_true]
   ·unfold jQ at h2 ⊢
    rw [ayh,List.find?_cons,hy]
    exact h2
   ·rw [ayh,km,hy,h3]; rfl
   ·rw [ayh,ko,hy,h4]; rfl
end
theorem IS {α:Type} (a b:List α) (x:α) (f:α->α):(a++x::b).modify a.length f=a++f x::b:=by
 rw [List.modify_eq_take_cons_drop (by simp)]
 simp
theorem Pl {α:Type} (a b:List α) (x:α):(a++x::b).eraseIdx a.length=a++b:=by
 rw [List.eraseIdx_append_of_length_le (axB _)]
 simp
theorem CJ {P:Program} {t:TypeId} {z:NV} {w:World} {Γ:Env} (h:B7 P t=some z):∃ v,(zeroValue t).run P w=.ok v w∧cM Γ z v:=by
 have agg:B6 P t=true->∀ {i:TypeInfo} {v:Value},P.info? t=some i->i.zero=some v->∃ cs,v=.agg cs:=by
  intro h i v hi hv
  unfold B6 at h
  rw [hi] at h
  simp only [hv] at h
  split at h
  ·rename_i e; cases e; exact ⟨_,rfl⟩
  ·cases h
 unfold B7 at h
 split at h
 ·rename_i ha hb
  split at h
  case h_2=>cases h
  rename_i l hl
  cases h
  obtain ⟨i,v,hi,hv,hzo,hz⟩:=iX hl
  obtain ⟨cs,rfl⟩:=agg ha hi hv
  exact ⟨_,cC hi hv w,cs.toList,by simp,hz Γ,hzo⟩
 ·rename_i ha hb
  split at h
  case h_2=>cases h
  rename_i l hl
  cases h
  obtain ⟨i,v,hi,hv,cS,hs⟩:=cr hl
  obtain ⟨cs,rfl⟩:=agg ha hi hv
  exact ⟨_,cC hi hv w,cs.toList,by simp,cQ hs⟩
 ·cases h
structure jl (P:Program) (s:St) (Γ:Env) (w:World) (t:TypeId) (vm vk:Value) (r:Nat) (g:aG) (ks sch:List Part) (xs:List (List FC × List FC)) (row:List FC) (et:TypeId) (B:cR) (es:Array MapEntry) (ck:Nat) (kt:TypeId):Prop where
 hu:P.underlying t=some (.map kt et)
 hf:jA P kt ks=true
 hm:vm=.map (some B.ax)
 hk:gR Γ ks row vk
 hg:s.rg[r]? = some (some g)
 hb:g.body=.mp ks sch xs
 hB:Γ.pt r=some B
 hh:w.heap[B.ax]? = some (.map es ck)
 he:R2 (MpE Γ ks sch) xs es.toList
 hp:B.post=some []
 fv:B.st=g.st
theorem mZ {P:Program} {s:St} {Γ:Env} {w:World} {a:Act} {t:TypeId} {m k:Operand} {r:Nat} {g:aG} {ks sch:List Part} {xs:List (List FC × List FC)} {row:List FC} {et:TypeId} (hw:aQ Γ s.rg w) (dr:cO Γ s.fr a.tmps)
  (h:oc P s t m k=some (r,g,ks,sch,xs,row,et)):∃ B es ck kt,jl P s Γ w t (a.eval m) (a.eval k) r g ks sch xs row et B es ck kt:=by
 unfold oc at h
 split at h
 case h_2=>cases h
 rename_i kt et' r' key hu hm hk
 split at h
 case h_2=>cases h
 rename_i g' hg
 split at h
 case h_2=>cases h
 rename_i nT rV xs' hb
 split at h
 case h_2=>cases h
 rename_i aoU mM hf
 cases h
 obtain ⟨⟨B,hB,hv⟩,-⟩:=cD (aS dr m) hm
 have hkr:=jj mM (iE (aS dr k) hk)
 have gS:=(bS s r g).1 hg
 rcases hw.AA hB gS with ⟨c,hA⟩ | hM
 ·have:=hA.body
  rw [hb] at this
  exact this.elim
 ·obtain ⟨⟨ks2,axk,xs2,es,ck,h1,h2,h3⟩,h4,h5⟩:=hM
  rw [hb] at h1
  cases h1
  exact ⟨B,es,ck,kt,hu,hf,hv,hkr,gS,hb,hB,h2,h3,h4,h5⟩
section
variable {P:Program} {s:St} {Γ:Env} {w:World} {t:TypeId} {vm vk:Value} {r:Nat} {g:aG} {ks sch:List Part} {xs:List (List FC × List FC)} {row:List FC} {et:TypeId} {B:cR} {es:Array MapEntry} {ck:Nat} {kt:TypeId}
theorem jl.get (M:jl P s Γ w t vm vk r g ks sch xs row et B es ck kt):(getObj B.ax).run P w=.ok (.map es ck) w:=by simp [getObj,Sem.run,M.hh]
theorem jl.put (M:jl P s Γ w t vm vk r g ks sch xs row et B es ck kt) (o:Obj):(setObj B.ax o).run P w=.ok () (w.putObj B.ax o):=by simp [setObj,Sem.run,M.hh,World.putObj]
theorem jl.find (M:jl P s Γ w t vm vk r g ks sch xs row et B es ck kt):∃ q,(Instr.findKey kt vk es.toList).run P w=.ok q w∧Found Γ ks sch row xs es.toList 0 q:=by
 obtain ⟨q,h1,h2⟩:=qv w M.hf M.hk 0 M.he
 obtain ⟨fs,hu,-⟩:=fC M.hf
 exact ⟨q,by rw [run_findKey_eq w (by rw [hu]) vk es.toList]; exact h1,h2⟩
theorem jl.check (M:jl P s Γ w t vm vk r g ks sch xs row et B es ck kt) (em:Bool):(Instr.checkKey em 10000 kt vk).run P w=.ok () w:=sq w em 9998 M.hf M.hk
theorem jl.lookup (M:jl P s Γ w t vm vk r g ks sch xs row et B es ck kt) {z:NV} (hz:B7 P et=some z) (ok:Bool) :
  ∃ v,(Instr.lookup t vm vk ok).run P w=.ok (if ok then .tuple #[v,.bool (gW ks row xs)] else v) w∧(gW ks row xs=true∧gR Γ sch (jQ ks row xs) v∨gW ks row xs=false∧cM Γ z v):=by
 obtain ⟨q,h1,h2⟩:=M.find
 have hc:=M.check es.isEmpty
 cases h2 with
 | no hn=>
   obtain ⟨hh,-,-⟩:=S5 hn
   obtain ⟨v,hv,hr⟩:=CJ (w:=w) (Γ:=Γ) hz
   refine ⟨v,?_,.inr ⟨hh,hr⟩⟩
   rw [hh]
   simp [Instr.lookup,run_underlying M.hu,M.hm,M.get,hc,h1,hv]
 | yes pre x post ug e xW a1 a2 a3 a4 a5 a6 a7=>
   subst a1
   obtain ⟨hh,hg,-,-⟩:=IQ (post:=post) a6 a7
   refine ⟨e.val,?_,.inl ⟨hh,by rw [hg]; exact a4.2⟩⟩
   rw [hh]
   simp [Instr.lookup,run_underlying M.hu,M.hm,M.get,hc,h1]
theorem jl.sr (M:jl P s Γ w t vm vk r g ks sch xs row et B es ck kt) (hw:aQ Γ s.rg w) {ys:List (List FC × List FC)} {es' : Array MapEntry} {ck' : Nat} (h:R2 (MpE Γ ks sch) ys es'.toList) {nm:Nat} {v:NS} {u:Value} (hv:b5 Γ v u) :
  bp Γ s w nm {up:=[(r,some {g with body:=.mp ks sch ys})],v:=v} u (w.putObj B.ax (.map es' ck')):=by
 have ff:=fy M.hh
 refine ⟨Γ,Ext.refl Γ w,hv,?_,⟨rfl,rfl,rfl,by rw [World.putObj_size]; exact axB _⟩,fun _ h _=>h⟩
 refine hw.change ⟨g,M.hg⟩ M.hB (fun b hb=>World.putObj_heap_other hb) (.inr (.inr ⟨(Env.bt.1 M.hB).2,⟨ks,sch,ys,es',ck',rfl,?_,h⟩,M.hp,M.fv⟩))
 exact World.putObj_heap_same ff
theorem R2.mid {α β:Type} {R:α->β->Prop} {a:List α} {b:List β} {x:α} {y:β} {c:List α} {d:List β} (h1:R2 R a b) (h2:R x y) (h3:R2 R c d):R2 R (a++x::c) (b++y::d):=h1.append (.cons h2 h3)
theorem jl.set (M:jl P s Γ w t vm vk r g ks sch xs row et B es ck kt) (hw:aQ Γ s.rg w) {vr:List FC} {v:Value} (hv:gR Γ sch vr v) (nm:Nat) :
  ∃ w',(Instr.mapUpdate t vm vk v).run P w=.ok () w'∧bp Γ s w nm {up:=[(r,some {g with body:=.mp ks sch (km ks row vr xs)})],v:=.dead} undef w':=by
 obtain ⟨q,h1,h2⟩:=M.find
 have hc:=M.check false
 cases h2 with
 | no hn=>
   obtain ⟨-,hs,-⟩:=S5 hn
   refine ⟨w.putObj B.ax (.map (es.push {key:=vk,val:=v,born:=ck}) (ck+1)),?_,M.sr hw (by rw [hs,Array.toList_push]; exact M.he.append (.cons ⟨M.hk,hv⟩ .nil)) trivial⟩
   simp [Instr.mapUpdate,run_underlying M.hu,M.hm,M.get,M.put,hc,h1]
 | yes pre x post ug e xW a1 a2 a3 a4 a5 a6 a7=>
   subst a1
   obtain ⟨-,-,hs,-⟩:=IQ (post:=post) a6 a7
   have auy:es[ug.length]? = some e:=by
    rw [<- Array.getElem?_toList,a2]; simp
   have auz:e.key=vk:=by
    obtain ⟨fs,-,hf,-⟩:=fC M.hf
    obtain ⟨vs,b1,b2,-⟩:=M.hk
    obtain ⟨ws,c1,c2,-⟩:=a4.1
    rw [b1,c1,gI (eC hf) b2,gI (eC hf) c2,qX a7]
   have xX:Instr.sameBits 10000 vk vk=true:=by
    obtain ⟨fs,-,hf,-⟩:=fC M.hf
    obtain ⟨vs,b1,b2,-⟩:=M.hk
    rw [b1,gI (eC hf) b2]
    simp only [Instr.sameBits,beq_self_eq_true,Bool.true_and]
    exact qu _ _ _ _
   refine ⟨w.putObj B.ax (.map (es.modify ug.length fun e=>{e with key:=vk,val:=v}) ck),?_,M.sr hw (by rw [hs,Array.toList_modify,a2,IS]; exact a3.mid ⟨M.hk,hv⟩ a5) trivial⟩
   simp [Instr.mapUpdate,run_underlying M.hu,M.hm,M.get,M.put,hc,h1,auy,auz,Instr.keyThatStays,xX]
theorem jl.del (M:jl P s Γ w t vm vk r g ks sch xs row et B es ck kt) (hw:aQ Γ s.rg w) (nm:Nat) (ty:TypeId) (ts:Array TypeId) (ht:ts[0]? = some t) :
  ∃ w',(Builtin.delete_ ts ty #[vm,vk]).run P w=.ok (.tuple #[]) w'∧bp Γ s w nm {up:=[(r,some {g with body:=.mp ks sch (ko ks row xs)})],v:=.tu []} (.tuple #[]) w':=by
 obtain ⟨q,h1,h2⟩:=M.find
 have hc:=M.check es.isEmpty
 have htu:b5 Γ (.tu []) (.tuple #[]):=⟨[],rfl,.nil⟩
 cases h2 with
 | no hn=>
   obtain ⟨-,-,hs⟩:=S5 hn
   refine ⟨w.putObj B.ax (.map es ck),?_,M.sr hw (by rw [hs]; exact M.he) htu⟩
   simp [Builtin.delete_,ht,run_underlying M.hu,M.hm,M.get,M.put,hc,h1]
 | yes pre x post ug e xW a1 a2 a3 a4 a5 a6 a7=>
   subst a1
   obtain ⟨-,-,-,hs⟩:=IQ (post:=post) a6 a7
   refine ⟨w.putObj B.ax (.map (es.eraseIdxIfInBounds ug.length) ck),?_,M.sr hw (by rw [hs,Array.toList_eraseIdxIfInBounds,a2,Pl]; exact a3.append a5) htu⟩
   simp [Builtin.delete_,ht,run_underlying M.hu,M.hm,M.get,M.put,hc,h1]
end
theorem v7 {P:Program} {s:St} {Γ:Env} {w:World} {a:Act} {op:BinOp} {t:TypeId} {x y:Operand} {b:Bool} (dr:cO Γ s.fr a.tmps) (h:jI P s op t x y=some b) :
  (do eqGuard op t x y (a.eval x) (a.eval y); binOp op t (a.eval x) (a.eval y):Sem Value).run P w=.ok (.bool b) w:=by
 unfold jI at h
 split at h
 case h_2=>cases h
 rename_i xs ys ks hx hy hk
 have key:∀ {ra rb:List FC},lF ks xs []=some ra->lF ks ys []=some rb->jA P t ks=true->∃ c d,a.eval x=.agg c∧a.eval y=.agg d∧(Op.equalIn 10000 t (.agg c) (.agg d)).run P w=.ok (dS ks ra rb 0) w∧(eqGuard op t x y (.agg c) (.agg d)).run P w=.ok () w:=by
  intro ra rb h1 h2 h3
  have r1:gR Γ ks ra (a.eval x):=jj (y:=.ag xs) h1 (iE (aS dr x) hx)
  have r2:gR Γ ks rb (a.eval y):=jj (y:=.ag ys) h2 (iE (aS dr y) hy)
  have he:=lR w h3 r1 r2
  obtain ⟨fs,-,-,-,hg⟩:=fC h3
  obtain ⟨vs,e1,-⟩:=r1
  obtain ⟨ws,e2,-⟩:=r2
  rw [e1,e2] at he
  exact ⟨_,_,e1,e2,he,run_eqGuard_agg w op t x y _ _ hg⟩
 split at h
 ·rename_i ra rb h1 h2 h3
  cases h
  obtain ⟨c,d,e1,e2,e3,e4⟩:=key h1 h2 h3
  rw [e1,e2]
  simp only [Sem.run_bind,e4,Result.andThen_ok,run_eql_struct,e3]
 ·rename_i ra rb h1 h2 h3
  cases h
  obtain ⟨c,d,e1,e2,e3,e4⟩:=key h1 h2 h3
  rw [e1,e2]
  simp only [Sem.run_bind,e4,Result.andThen_ok,run_neq_struct,e3]
 ·cases h
theorem qY {s:St} {Γ:Env} {w:World} {x:NC} {v:Value} {c:List Bool} {sch:List Part} {ys:List (List FC)} (hw:aQ Γ s.rg w) (hx:CR Γ x v) (h:lE s x=some (c,sch,ys)) (hc:bT c) :
  ∃ a cap,v=.slice a ys.length cap∧ys.length<=cap∧dD sch ys∧(ys.length=0∨∃ ax off bF,a=some ⟨ax,off,none⟩∧R2 (FR Γ) (cL sch ys) bF∧∀ j u,bF[j]? = some u->w.cell? ⟨ax,off+j,none⟩=some u):=by
 unfold lE at h
 split at h
 ·rename_i r off len
  obtain ⟨⟨B,o,cap,hB,rfl,eQ,nV,dh⟩,-⟩:=hx
  split at h
  case h_2=>cases h
  rename_i g hg
  split at h
  case h_2=>cases h
  rename_i SL Ae hb
  cases h
  have gS:=(bS s r g).1 hg
  obtain ⟨cs,hcs,fv,cS,aH⟩:=hw.Cg hB gS
  rw [hb] at aH
  obtain ⟨oA,hs0,l1,l2,hl,hr,hk⟩:=aH
  have hlen:off+len<=Ae.length:=by simpa [bT] using hc
  have e1:((Ae.drop off).take len).length=len:=by simp; omega
  rw [e1]
  refine ⟨_,cap,rfl,eQ,(hk.drop off).take len,?_⟩
  rcases dh with ⟨rfl,-⟩ | h0
  ·right
   refine ⟨B.ax,off * B.st,(l1.drop (off * aO sch)).take (len * aO sch),rfl,?_,fun j u hj=>dV hcs ?_⟩
   ·rw [<- gn (hk.drop off),<- mU hk]
    exact (hr.drop _).take _
   ·rw [hl,fv,oA]
    exact aV (bU hj)
  ·left; omega
 ·rename_i r len
  obtain ⟨Fe,-⟩:=hx
  split at h
  case h_2=>cases h
  rename_i g hg
  split at h
  case h_2=>cases h
  rename_i SL Ae hb
  cases h
  have gS:=(bS s r g).1 hg
  have hlen:len<=Ae.length:=by simpa [bT] using hc
  have e1:(Ae.take len).length=len:=by simp; omega
  rw [e1]
  rcases Fe with ⟨rfl,rfl,-⟩ | ⟨B,o,cap,hB,rfl,eQ,nV,dh⟩
  ·exact ⟨none,0,rfl,axB _,fun x hx=>by simp at hx,.inl rfl⟩
  obtain ⟨cs,hcs,fv,cS,aH⟩:=hw.Cg hB gS
  rw [hb] at aH
  obtain ⟨oA,hs0,l1,l2,hl,hr,hk⟩:=aH
  refine ⟨_,cap,rfl,eQ,hk.take len,?_⟩
  rcases dh with ⟨rfl,-⟩ | h0
  ·right
   refine ⟨B.ax,0 * B.st,l1.take (len * aO sch),rfl,?_,fun j u hj=>dV hcs ?_⟩
   ·rw [<- gn hk]
    exact hr.take _
   ·rw [axQ] at hj
    split at hj
    case isFalse=>cases hj
    rw [hl,ayc,ayf]
    exact aV hj
  ·left; omega
 ·rename_i sch xs
  cases h
  obtain ⟨⟨a,cap,rfl,eQ,h0,hk,dK⟩,-⟩:=hx
  refine ⟨a,cap,rfl,eQ,hk,?_⟩
  rcases dK with rfl | ⟨ax,off,vs,rfl,dK,hr⟩
  ·left; rfl
  ·right; exact ⟨ax,off,vs,rfl,hr,fun j u hj=>dK.cell hw hj⟩
 ·cases h
theorem m7 {P:Program} {e:TypeId} {sch:List Part} (h:rQ P e sch=true):∃ i z,P.info? e=some i∧i.zero=some z∧z.cells.size=i.size∧i.size=aO sch∧0<aO sch∧i.bytes=bf P e∧b4 P e=true:=by
 unfold rQ at h
 simp only [ayu,decide_eq_true_eq] at h
 obtain ⟨⟨⟨-,h0⟩,ha⟩,h⟩:=h
 split at h
 ·rename_i i hi
  split at h
  ·rename_i z hz
   simp only [ayu,beq_iff_eq] at h
   exact ⟨i,z,hi,hz,h.1,h.2,h0,by simp [bf,hi],ha⟩
  ·cases h
 ·cases h
theorem ss {Γ:Env} {sch:List Part} {ys:List (List FC)} {bF:List Value} (hk:dD sch ys) (hr:R2 (FR Γ) (cL sch ys) bF):bF.length=ys.length * aO sch:=by
 rw [<- hr.length,mT hk]
theorem m9 {Γ:Env} {e:TypeId} {sch:List Part} {ys:List (List FC)} {bF:List Value} (h0:0<aO sch) (hk:dD sch ys) (hr:R2 (FR Γ) (cL sch ys) bF) (l2:List Value):bG Γ (fZ e sch ys).st (fZ e sch ys).body (bF++l2):=
 ⟨rfl,h0,bF,l2,rfl,hr,hk⟩
theorem aiV {Γ:Env} {xs:List NC} {l:List Value} (r:R2 (FR Γ) xs l):∀ u∈l,u.oneCell'=true:=(R2.c r).sa
theorem sw {P:Program} {s:St} {Γ:Env} {w:World} {t ty e:TypeId} {r len:Nat} {y:NC} {vx vy:Value} {nm:Nat} {c d:List Bool} {sch:List Part} {xs ys:List (List FC)} {g:aG} (hw:aQ Γ s.rg w) (fH:Γ.μ nm=none)
  (hx:CR Γ (.h r 0 len) vx) (hy:CR Γ y vy) (ht:P.underlying t=some (.slice e)) (Ey:lE s y=some (c,sch,ys)) (eS:rQ P e sch=true) (jd:lE s (.h r 0 len)=some (d,sch,xs)) (hg:s.bK r=some g) (tI:g.e=e)
  (hc:bT c) (hd:bT d) (qt:bT (jg P e (len+ys.length))) :
  ∃ u w',(Builtin.append_ #[t,t] ty #[vx,vy]).run P w=.ok u w'∧bp Γ s w nm {up:=[(r,none),(nm,some (fZ e sch (xs++ys)))],v:=.v (.c (.h nm 0 (len+ys.length)))} u w':=by
 obtain ⟨a,xK,rfl,auo,hky,bO⟩:=qY hw hy Ey hc
 obtain ⟨AT,CC⟩:=bQ qt
 obtain ⟨i,z,hi,hz,wN,cS,h0,AL,-⟩:=m7 eS
 have gS:=(bS s r g).1 hg
 obtain ⟨⟨B,o,cap,hB,rfl,eQ,nV,dh⟩,-⟩:=hx
 obtain ⟨cs,hcs,fv,CB,aH⟩:=hw.Cg hB gS
 have wM:xs.length=len∧aO sch=g.st∧dD sch xs∧∃ olds l2,cs.toList=olds++l2∧R2 (FR Γ) (cL sch xs) olds:=by
  unfold lE at jd
  simp only [hg] at jd
  split at jd
  case h_2=>cases jd
  rename_i SL Ae hb
  cases jd
  rw [hb] at aH
  obtain ⟨oA,hs0,l1,l2,hl,hr,hk⟩:=aH
  have hlen:0+len<=Ae.length:=by simpa [bT] using hd
  refine ⟨by simp; omega,oA.symm,(hk.drop 0).take len,l1.take (len * aO sch),l1.drop (len * aO sch)++l2,?_,?_⟩
  ·rw [hl,<- axC,axE]
  ·rw [axZ,<- gn hk]
   exact hr.take _
 obtain ⟨wM,hxw,hkx,olds,l2,AS,dK⟩:=wM
 have hxv:olds.length=len * i.size:=by rw [ss hkx dK,wM,cS]
 have qS:w.heap[B.ax]? = some (.cells cs e (0,0)):=by rw [hcs,tI]
 have SJ:g.st=i.size:=by rw [<- hxw,cS]
 have lI:((some r).bind fun r=>(Γ.pt r).map (·.ax))=some B.ax:=by simp [Env.gY hB]
 have SI:∀ q,some r=some q->∃ B,Γ.pt q=some B∧live s.rg q:=fun q hq=>by cases hq; exact ⟨B,Env.gY hB,g,gS⟩
 have fin:∀ {v:Value} {w' : World} {vv:Value} {news:List Value},R2 (FR Γ) (cL sch ys) news->(Builtin.append_ #[t,t] ty #[vv,.slice a ys.length xK]).run P w=.ok v w'->oC w (some B.ax) e i.size (len+ys.length) (olds++news) v w'->
   ∃ u w',(Builtin.append_ #[t,t] ty #[vv,.slice a ys.length xK]).run P w=.ok u w'∧bp Γ s w nm {up:=[(r,none),(nm,some (fZ e sch (xs++ys)))],v:=.v (.c (.h nm 0 (len+ys.length)))} u w':=by
  intro v w' vv news LQ bE ha
  rw [<- lI] at ha
  have vY:R2 (FR Γ) (cL sch (xs++ys)) (olds++news):=by rw [mS]; exact dK.append LQ
  have:=bp.LJ (s:=s) (nm:=nm) (gz:=fZ e sch (xs++ys)) (old:=some r) (kl:=some r) hw fH (fun _ h=>h) SI (m9 h0 (hkx.append hky) vY) rfl cS.symm ha
  exact ⟨v,w',bE,this⟩
 by_cases Fc:ys.length=0
 ·have bE:=cu (w:=w) (ty:=ty) ht hi (some ⟨B.ax,o,none⟩) a len cap xK eQ
  have hyn:ys=[]:=ayb Fc
  have SK:oC w (some B.ax) e i.size (len+ys.length) (olds++[]) (.slice (some ⟨B.ax,o,none⟩) len cap) w:=by
   rw [Fc,ax9,ayw]
   exact ⟨⟨B.ax,o,cap,cs,rfl,qS,eQ,nV,dh.imp (fun h=>⟨by rw [h.1,ayc],by rw [CB,<- h.2,ayf,fv,SJ]⟩) id,⟨l2,AS⟩,.inl rfl⟩,fun _ _ _=>rfl,Wd.refl w⟩
  exact fin (news:=[]) (by rw [hyn]; exact .nil) (by rw [Fc]; exact bE) SK
 ·rcases bO with bO | ⟨ax,off,news,rfl,LQ,bO⟩
  ·exact (Fc bO).elim
  have hyv:news.length=ys.length * i.size:=by rw [ss hky LQ,cS]
  rcases dh with ⟨rfl,LM⟩ | LM
  ·simp only [ayc,ayf] at LM ⊢
   obtain ⟨v,w',bE,ha⟩:=LH (w:=w) (ty:=ty) ht hi hz wN qS AS hxv (cap:=cap) (by rw [CB,<- LM,fv,SJ]) nV (a:=⟨ax,off,none⟩) (m:=ys.length) (c:=xK) (news:=news) hyv
    (fun j u hj=>by rw [Addr.add_lit]; exact bO j u hj) (aiV LQ) (by rw [AL]; exact AT) CC
   exact fin LQ bE ha
  ·have tZ:len=0:=by omega
   subst tZ
   subst LM
   have hxn:olds=[]:=ayb (by rw [hxv]; simp)
   obtain ⟨v,w',bE,ha⟩:=AR (w:=w) (ty:=ty) ht hi hz wN ⟨B.ax,o,none⟩ (a:=⟨ax,off,none⟩) (m:=ys.length) (c:=xK) (news:=news) hyv
    (fun j u hj=>by rw [Addr.add_lit]; exact bO j u hj) (by omega) (by rw [AL]; simpa using AT) (by simpa using CC) (some B.ax)
   exact fin LQ bE (by rw [hxn]; simpa using ha)
theorem xY {P:Program} {s:St} {Γ:Env} {w:World} {t ty:TypeId} {x y:NC} {vx vy:Value} {nm:Nat} {R:fQ->Prop} {tr:Tr fQ} (hw:aQ Γ s.rg w) (fH:Γ.μ nm=none)
  (hx:CR Γ x vx) (hy:CR Γ y vy) (ht:lG P s t x y nm=some tr) (h:tr.run R) :
  ∃ ef u w',R ef∧(Builtin.append_ #[t,t] ty #[vx,vy]).run P w=.ok u w'∧bp Γ s w nm ef u w':=by
 unfold lG at ht
 split at ht
 case h_2=>cases ht
 rename_i e hu
 split at ht
 case h_2=>cases ht
 rename_i c sch ys Ey
 split at ht
 case isFalse=>cases ht
 rename_i eS
 obtain ⟨i,z,hi,hz,wN,cS,h0,AL,-⟩:=m7 eS
 split at ht
 ·cases ht
  obtain ⟨rfl,-⟩:=hx
  obtain ⟨hc,h⟩:=(bC _ _ _).1 h
  obtain ⟨a,cap,rfl,eQ,hky,bO⟩:=qY hw hy Ey hc
  simp only [Tr.run] at h
  rcases aW.1 h with ⟨h1,h⟩ | ⟨h1,h⟩
  ·have tZ:ys.length=0:=by simpa using h1
   rw [tZ]
   exact ⟨_,_,_,h,cu hu hi none a 0 0 cap (axB _),bp.plain hw ⟨rfl,rfl⟩⟩
  ·have tZ:ys.length≠0:=by simpa using h1
   obtain ⟨qt,h⟩:=(bC _ _ _).1 h
   obtain ⟨AT,CC⟩:=bQ qt
   rcases bO with bO | ⟨ax,off,news,rfl,LQ,bO⟩
   ·exact (tZ bO).elim
   obtain ⟨v,w',bE,ha⟩:=wO (w:=w) (ty:=ty) hu hi hz wN (a:=⟨ax,off,none⟩) (m:=ys.length) (c:=cap) (news:=news) (by rw [ss hky LQ,cS])
    (fun j u hj=>by rw [Addr.add_lit]; exact bO j u hj) (by omega) (by rw [AL]; exact AT) CC
   exact ⟨_,v,w',h,bE,bp.LJ (gz:=fZ e sch ys) (old:=none) (kl:=none) hw fH (fun _ h=>by cases h) (fun _ h=>by cases h) (m9 h0 hky LQ) rfl cS.symm ha⟩
 ·rename_i r len
  split at ht
  case h_2=>cases ht
  rename_i d rV xs g jd hg
  split at ht
  case isFalse=>cases ht
  rename_i tI
  obtain ⟨rfl,tI⟩:=tI
  cases ht
  obtain ⟨hc,h⟩:=(bC _ _ _).1 h
  obtain ⟨hd,h⟩:=(bC _ _ _).1 h
  obtain ⟨qt,h⟩:=(bC _ _ _).1 h
  obtain ⟨u,w',h1,h2⟩:=sw (ty:=ty) hw fH hx hy hu Ey eS jd hg tI hc hd qt
  exact ⟨_,u,w',h,h1,h2⟩
 ·rename_i r len
  split at ht
  case h_2=>cases ht
  rename_i d rV xs g jd hg
  split at ht
  case isFalse=>cases ht
  rename_i tI
  obtain ⟨rfl,tI⟩:=tI
  cases ht
  obtain ⟨hc,h⟩:=(bC _ _ _).1 h
  obtain ⟨hd,h⟩:=(bC _ _ _).1 h
  obtain ⟨qt,h⟩:=(bC _ _ _).1 h
  obtain ⟨hx1,hx2⟩:=hx
  have mM:∃ d',lE s (.h r 0 len)=some (d',rV,xs)∧bT d':=by
   unfold lE at jd ⊢
   simp only [hg] at jd ⊢
   split at jd
   case h_2=>cases jd
   rename_i SL Ae hb
   cases jd
   have:len<=Ae.length:=by simpa [bT] using hd
   exact ⟨[decide (0+len<=Ae.length)],rfl,fun b hb=>by rw [ayx] at hb; subst hb; exact axv (by omega)⟩
  rcases hx1 with ⟨rfl,rfl,-⟩ | hx1
  ·obtain ⟨AT,CC⟩:=bQ qt
   obtain ⟨a,cap,rfl,eQ,hky,bO⟩:=qY hw hy Ey hc
   have Fe:xs=[]:=by
    unfold lE at jd
    simp only [hg] at jd
    split at jd
    case h_2=>cases jd
    cases jd
    simp
   subst Fe
   by_cases tZ:ys.length=0
   ·have hyn:ys=[]:=ayb tZ
    subst hyn
    exact ⟨_,_,_,h,cu hu hi none a 0 0 cap (axB _),bp.ghost hw fH (.inr (.inr ⟨_,rfl,h0⟩))⟩
   ·rcases bO with bO | ⟨ax,off,news,rfl,LQ,bO⟩
    ·exact (tZ bO).elim
    rw [ayf] at AT CC
    obtain ⟨v,w',bE,ha⟩:=wO (w:=w) (ty:=ty) hu hi hz wN (a:=⟨ax,off,none⟩) (m:=ys.length) (c:=cap) (news:=news) (by rw [ss hky LQ,cS])
     (fun j u hj=>by rw [Addr.add_lit]; exact bO j u hj) (by omega) (by rw [AL]; exact AT) CC
    have hE:=bp.LJ (s:=s) (nm:=nm) (gz:=fZ e rV ys) (old:=none) (kl:=some r) hw fH (fun _ h=>by cases h) (fun _ h=>by cases h) (m9 h0 hky LQ) rfl cS.symm ha
    refine ⟨_,v,w',h,bE,?_⟩
    rw [ayf,axY]
    exact hE.told fun Γ' hr=>⟨.inr hr.1,hr.2⟩
  ·obtain ⟨d',hd1,hd2⟩:=mM
   obtain ⟨u,w',h1,h2⟩:=sw (ty:=ty) hw fH ⟨hx1,hx2⟩ hy hu Ey eS hd1 hg tI hc hd2 qt
   exact ⟨_,u,w',h,h1,h2.told fun Γ' hr=>⟨.inr hr.1,hr.2⟩⟩
 ·cases ht
theorem vu {Γ:Env} {s:St} {a:Act} {sch:List Part} (dr:cO Γ s.fr a.tmps):∀ {parts:List (Nat × Operand)} {j:Nat} {rows:List (List FC)},mC sch s j parts=some rows->
  parts=parts.mapIdx (fun i p=>(j+i,p.2))∧R2 (fun row (p:Nat × Operand)=>gR Γ sch row (a.eval p.2)) rows parts
 | [],j,rows,h=>by cases h; exact ⟨rfl,.nil⟩
 | (i,x)::l,j,rows,h=>by
   simp only [mC] at h
   split at h
   case isFalse=>cases h
   rename_i Pf
   subst Pf
   split at h
   case h_2=>cases h
   rename_i v hv
   split at h
   case h_2=>cases h
   rename_i r rs h1 h2
   cases h
   obtain ⟨h3,h4⟩:=vu dr h2
   refine ⟨?_,.cons (jj h1 (iE (aS dr x) hv)) h4⟩
   rw [List.mapIdx_cons]
   simp only [ax9]
   congr 1
   conv=>lhs; rw [h3]
   congr 1
   funext k p
   congr 1
   omega
theorem Pm {Γ:Env} {sch:List Part} {n:Nat} (hn:n=aO sch):∀ {rows:List (List FC)} {l:List (Nat × Value)} {j:Nat} {cells:Array Value} {pre:List Value},
  R2 (fun row (p:Nat × Value)=>gR Γ sch row p.2) rows l->(∀ i p,l[i]? = some p->p.1=j+i)->cells.size=(j+rows.length) * n->cells.toList.take (j * n)=pre->pre.length=j * n->
  ∃ cs bF,Instr.fill (fun i=>some (i * n,n)) cells l=some cs∧R2 (FR Γ) (cL sch rows) bF∧cs.toList=pre++bF:=by
 intro rows l
 induction l generalizing rows with
 | nil=>
   intro j cells pre hr hl hs hp RK
   cases hr
   refine ⟨cells,[],rfl,.nil,?_⟩
   rw [ayw,<- hp,axN]
   simp at hs
   simp [hs]
 | cons p l ih=>
   intro j cells pre hr hl hs hp RK
   cases hr with
   | @cons row _ rs _ h1 h2=>
     obtain ⟨i,u⟩:=p
     have hi:i=j:=by simpa using hl 0 (i,u) (by simp)
     subst hi
     obtain ⟨vs,rfl,hv,fI⟩:=h1
     have xy:vs.length=n:=by rw [<- hv.length,gG fI,hn]
     have cS:cells.size=i * n+n+rs.length * n:=by rw [hs,ayg,Nat.add_mul,Nat.add_mul,Nat.one_mul]; omega
     have key:=jD (i * n) vs 0 cells (by rw [xy,cS]; omega)
     rw [ax9] at key
     have Pa:(vs.toArray.zipIdx.foldl (fun (cs:Array Value) (x:Value × Nat)=>cs.setIfInBounds (i * n+x.2) x.1) cells).toList=aw cells.toList (i * n) vs:=by
      rw [<- key,<- ayj]
      simp
     have hs2:(vs.toArray.zipIdx.foldl (fun (cs:Array Value) (x:Value × Nat)=>cs.setIfInBounds (i * n+x.2) x.1) cells).size=((i+1)+rs.length) * n:=by
      have:=congrArg ayF Pa
      rw [fT _ _ _ (by rw [xy,ayi,cS]; omega)] at this
      rw [ayi,ayi] at this
      rw [this,hs,ayg]
      congr 1; omega
     have hp2:(vs.toArray.zipIdx.foldl (fun (cs:Array Value) (x:Value × Nat)=>cs.setIfInBounds (i * n+x.2) x.1) cells).toList.take ((i+1) * n)=pre++vs:=by
      rw [Pa]
      unfold aw
      have Ez:(cells.toList.take (i * n)).length=i * n:=by rw [hp,RK]
      rw [axH,axW (by rw [axG,Ez,xy]; omega),axN (by rw [axG,Ez,xy]; omega),hp]
     obtain ⟨cs,bF,i1,i2,i3⟩:=ih (rows:=rs) (j:=i+1) h2 (fun q p hq=>by
      have:=hl (q+1) p (by simpa using hq)
      omega) hs2 hp2 (by rw [axG,RK,xy,axH])
     refine ⟨cs,vs++bF,?_,?_,?_⟩
     ·have c1:((Value.agg vs.toArray).cells.size !=n||decide (i * n+(Value.agg vs.toArray).cells.size > cells.size))=false:=by
       simp [Value.cells,xy,cS]
      simp only [Instr.fill]
      rw [if_neg (by simpa using c1)]
      exact i1
     ·rw [iF]; exact hv.append i2
     ·rw [i3,axC]
theorem Ag {P:Program} {s:St} {Γ:Env} {w:World} {a:Act} {t:TypeId} {len:Nat} {parts:Array (Nat × Operand)} {g:aG} {nm:Nat} (hw:aQ Γ s.rg w) (fH:Γ.μ nm=none) (dr:cO Γ s.fr a.tmps) (h:kj P s t len parts.toList=some g) :
  ∃ u w',(Instr.buildSlice t len (parts.map fun p=>(p.1,a.eval p.2))).run P w=.ok u w'∧bp Γ s w nm {up:=[(nm,some g)],v:=.v (.c (.h nm 0 len))} u w':=by
 unfold kj at h
 split at h
 case h_2=>cases h
 rename_i e hu
 split at h
 case h_2=>cases h
 rename_i sch jc axl
 split at h
 case isFalse=>cases h
 rename_i kK
 obtain ⟨eS,hlen,SA,axm⟩:=kK
 split at h
 case h_2=>cases h
 rename_i rows LD
 cases h
 obtain ⟨i,z,hi,hz,wN,cS,h0,AL,-⟩:=m7 eS
 obtain ⟨hp,hr⟩:=vu dr LD
 have hrl:rows.length=len:=by rw [hr.length,hlen]
 have hse:al P e=aO sch:=by simp [al,hi,cS]
 have vY:R2 (fun row (p:Nat × Value)=>gR Γ sch row p.2) rows (parts.map fun p=>(p.1,a.eval p.2)).toList:=by
  rw [ayl]
  clear hp hlen LD hrl
  generalize parts.toList=l at hr
  induction hr with
  | nil=>exact .nil
  | cons x _ ih=>exact .cons x ih
 obtain ⟨cs,bF,h1,h2,h3⟩:=Pm (n:=al P e) hse (j:=0) (cells:=(Array.range (len * al P e)).map (fun x=>z.cells[x % al P e]!)) (pre:=[]) vY (fun q p hq=>by
  rw [ayl,ayn] at hq
  rw [hp,List.getElem?_mapIdx] at hq
  cases hx:parts.toList[q]? with
  | none=>rw [hx] at hq; simp at hq
  | some y=>
    rw [hx] at hq
    simp at hq
    rw [<- hq]
    simp) (by simp [hrl]) (by simp) (by simp)
 have bE:=ox (w:=w) (v:=z) hu hi hz (by rw [wN,cS,hse]) (by rw [hse]; exact SA) h1
 refine ⟨_,_,bE,?_⟩
 have hkr:dD sch rows:=by
  intro row mM
  obtain ⟨q,hq⟩:=ayE mM
  obtain ⟨p,-,vs,-,-,fI⟩:=vY.get hq
  exact fI
 rw [axY] at h3
 have EY:cs.size=len * aO sch:=by
  rw [<- ayi,h3,ss hkr h2,hrl]
 have hb:bG Γ (fZ e sch rows).st (fZ e sch rows).body cs.toList:=by
  have:=m9 (e:=e) h0 hkr h2 []
  rwa [ayw,<- h3] at this
 refine ⟨_,Ext.add fH (fun _=>.inl (axB _)),⟨⟨_,0,len,Env.tT (B:=cR.all w.heap.size (aO sch) cs.size e) rfl rfl rfl,rfl,axB _,by simp only [maxLen]; omega,.inl ⟨by simp,by rw [ayf,EY]; rfl⟩⟩,rfl⟩,hw.new (g:=fZ e sch rows) fH hb,Wd.alloc _ _ _,hJ (mV (g:=some (fZ e sch rows)) (by simp))⟩
end Go.Nx
