/-
  Joined: EngB.
-/
import Derived.Test.YtbmpbafemefepaaGreatDoorWs1
import Derived.Lib.AppendZeros
import Derived.Laws.CopyRow
import Derived.Laws.StructEq
import Derived.WideKeyRuns
import Derived.RangeFuncRecord
set_option linter.unusedVariables false
namespace Go.Nx
open Go
theorem splice_cons {α:Type} (xs:List α) (o:Nat) (v:α) (l:List α) (h:o<xs.length):splice (xs.set o v) (o+1) l=splice xs o (v::l):=by
 have e1:(xs.set o v).take (o+1)=xs.take o++[v]:=by
  rw [List.set_eq_take_append_cons_drop,if_pos h,List.take_append,List.length_take,Nat.min_eq_left (by omega),List.take_of_length_le (by simp; omega)]
  simp
 have e2:(xs.set o v).drop (o+1+l.length)=xs.drop (o+1+l.length):=List.drop_set_of_lt (by omega)
 simp only [splice,e1,e2,List.length_cons,List.append_assoc,List.cons_append,List.nil_append]
 congr 4
 omega
theorem foldl_splice (off:Nat):∀ (l:List Value) (k:Nat) (cs:Array Value),off+k+l.length≤cs.size→
  ((l.zipIdx k).foldl (fun (cs:Array Value) (x:Value × Nat)=>cs.setIfInBounds (off+x.2) x.1) cs).toList=splice cs.toList (off+k) l
 | [],k,cs,_=>by simp [splice]
 | v::l,k,cs,h=>by
   simp only [List.zipIdx_cons,List.foldl_cons]
   rw [foldl_splice off l (k+1) _ (by simp at h ⊢; omega)]
   simp only [List.length_cons] at h
   simp only [Array.toList_setIfInBounds]
   rw [← splice_cons _ _ _ _ (by simp; omega),Nat.add_assoc]
def PartsRel (Γ:Env):List (Nat × NS)→List (Nat × Value)→Prop:=R2 fun x y=>x.1=y.1∧SRel Γ x.2 y.2
theorem buildParts_sound {P:Program} {Γ:Env} {size:Nat→Option (Nat × Nat)}:∀ {parts:List (Nat × NS)} {pv:List (Nat × Value)} {xs l:List NC} {cells:Array Value},
  buildParts P size xs parts=some l→PartsRel Γ parts pv→R2 (CR Γ) xs cells.toList→∃ cs,Instr.fill size cells pv=some cs∧R2 (CR Γ) l cs.toList
 | [],pv,xs,l,cells,h,hp,hr=>by
   cases hp
   simp only [buildParts,Option.some.injEq] at h
   subst h
   exact ⟨cells,rfl,hr⟩
 | (i,v)::rest,pv,xs,l,cells,h,hp,hr=>by
   cases hp with
   | cons h1 h2=>
     rename_i y m
     obtain ⟨i',u⟩:=y
     obtain ⟨rfl,hv⟩:=h1
     simp only [buildParts] at h
     split at h
     case h_2=>cases h
     rename_i off n x hs hx
     split at h
     case isFalse=>cases h
     rename_i hc
     have hxr:=(nv_rel hv hx).cells
     have hxs:=(nv_rel hv hx).segs.2
     rw [← hxs] at hc
     have hl1:=hxr.length
     have hl2:=hr.length
     have hsz:u.cells.size=n:=by rw [← hc.1,hl1]; simp
     have hle:off+u.cells.size≤cells.size:=by rw [hsz,← Array.length_toList,← hl2]; exact hc.2
     have key:=foldl_splice off u.cells.toList 0 cells (by simpa using hle)
     have harr:(u.cells.zipIdx.foldl (fun (cs:Array Value) (x:Value × Nat)=>cs.setIfInBounds (off+x.2) x.1) cells).toList=splice cells.toList off u.cells.toList:=by
      rw [Nat.add_zero] at key
      rw [← key,← Array.foldl_toList]
      simp
     obtain ⟨cs,hf,hrr⟩:=buildParts_sound (cells:=u.cells.zipIdx.foldl (fun (cs:Array Value) (x:Value × Nat)=>cs.setIfInBounds (off+x.2) x.1) cells) h h2 (by rw [harr]; exact hr.splice off hxr)
     refine ⟨cs,?_,hrr⟩
     have c1:(u.cells.size !=n||decide (off+u.cells.size > cells.size))=false:=by simp [hsz]; omega
     simp only [Instr.fill,hs]
     rw [if_neg (by simpa using c1)]
     exact hf
theorem run_listMapM {α β:Type} {P:Program} {w:World} (f:α→Sem β) (g:α→β):∀ (l:List α),(∀ x∈l,(f x).run P w=.ok (g x) w)→(l.mapM f).run P w=.ok (l.map g) w
 | [],_=>by simp
 | x::l,h=>by
   rw [List.mapM_cons]
   simp [h x (by simp),run_listMapM f g l (fun y hy=>h y (by simp [hy]))]
theorem run_arrayMapM {α β:Type} {P:Program} {w:World} (f:α→Sem β) (g:α→β) (a:Array α) (h:∀ x∈a.toList,(f x).run P w=.ok (g x) w):(a.mapM f).run P w=.ok (a.map g) w:=by
 rw [Array.mapM_eq_mapM_toList]
 simp only [Sem.run_map,run_listMapM f g a.toList h,Result.andThen_ok]
 rw [← Array.toList_map]
theorem nbuild_sound {P:Program} {Γ:Env} {w:World} {t:TypeId} {parts:List (Nat × NS)} {pv:Array (Nat × Value)} {l:List NC} (h:nbuild P t parts=some l) (hp:PartsRel Γ parts pv.toList) :
  ∃ cs:List Value,(Instr.build t pv).run P w=.ok (.agg cs.toArray) w∧R2 (CR Γ) l cs:=by
 unfold nbuild at h
 split at h
 ·rename_i z fs hz hu
  split at h
  case isFalse=>cases h
  rename_i hall
  obtain ⟨i,v,hi,hv,hsz,hs⟩:=zeroCells_spec hz
  obtain ⟨cs,hf,hr⟩:=buildParts_sound h hp (scals_rel hs)
  refine ⟨cs.toList,?_,hr⟩
  have hm:=run_arrayMapM (P:=P) (w:=w) (fun (f:Field)=>(do pure (f.offset,← sizeOf f.type):Sem (Nat × Nat))) (fun f=>(f.offset,sizeT P f.type)) fs (fun f hf=>by
   obtain ⟨fi,hfi⟩:=Option.isSome_iff_exists.1 (List.all_eq_true.1 hall f hf)
   simp [run_sizeOf hfi])
  have hplace:(fun (x:Nat)=>(fs.map fun f=>(f.offset,sizeT P f.type))[x]?)=fun i=>(fs[i]?).map fun f=>(f.offset,sizeT P f.type):=by
   funext x; simp
  simp only [Instr.build,Sem.run_bind,run_zeroValue hi hv,Result.andThen_ok,run_underlying hu,hm,hplace,hf]
  simp
 ·rename_i z n e hz hu
  split at h
  case isFalse=>cases h
  rename_i hpos
  obtain ⟨i,v,hi,hv,hsz,hs⟩:=zeroCells_spec hz
  obtain ⟨ei,hei,-⟩:=info_of_size hpos
  obtain ⟨cs,hf,hr⟩:=buildParts_sound h hp (scals_rel hs)
  refine ⟨cs.toList,?_,hr⟩
  simp only [Instr.build,Sem.run_bind,run_zeroValue hi hv,Result.andThen_ok,run_underlying hu,run_sizeOf hei,hf]
  simp
 ·cases h
theorem buildSegs_sound {Γ:Env} {size:Nat→Option (Nat × Nat)}:∀ {parts:List (Nat × NS)} {pv:List (Nat × Value)} {xs l:List Seg} {cells:Array Value},
  buildSegs size xs parts=some l→PartsRel Γ parts pv→SegOk xs→R2 (CR Γ) (segFlat xs) cells.toList→∃ cs,Instr.fill size cells pv=some cs∧R2 (CR Γ) (segFlat l) cs.toList∧SegOk l
 | [],pv,xs,l,cells,h,hp,ho,hr=>by
   cases hp
   simp only [buildSegs,Option.some.injEq] at h
   subst h
   exact ⟨cells,rfl,hr,ho⟩
 | (i,v)::rest,pv,xs,l,cells,h,hp,ho,hr=>by
   cases hp with
   | cons h1 h2=>
     rename_i y m
     obtain ⟨i',u⟩:=y
     obtain ⟨rfl,hv⟩:=h1
     simp only [buildSegs] at h
     split at h
     case h_2=>cases h
     rename_i off n x hs hx
     split at h
     case isFalse=>cases h
     rename_i hc
     split at h
     case h_2=>cases h
     rename_i ys hput
     have hxr:=(nv_rel hv hx).cells
     obtain ⟨hxo,hxs⟩:=(nv_rel hv hx).segs
     have hl1:=hxr.length
     have hl2:=hr.length
     have hfl:=segFlat_length ho
     obtain ⟨hyo,hyf⟩:=segPut_spec ho hxo (by rw [NV.segs_flat,hxs]; exact hc.1) (by omega) hput
     rw [NV.segs_flat] at hyf
     have hsz:u.cells.size=n:=by rw [← hc.1,← hxs,hl1]; simp
     have hle:off+u.cells.size≤cells.size:=by rw [hsz,← Array.length_toList,← hl2]; omega
     have key:=foldl_splice off u.cells.toList 0 cells (by simpa using hle)
     have harr:(u.cells.zipIdx.foldl (fun (cs:Array Value) (x:Value × Nat)=>cs.setIfInBounds (off+x.2) x.1) cells).toList=splice cells.toList off u.cells.toList:=by
      rw [Nat.add_zero] at key
      rw [← key,← Array.foldl_toList]
      simp
     obtain ⟨cs,hf,hrr⟩:=buildSegs_sound (cells:=u.cells.zipIdx.foldl (fun (cs:Array Value) (x:Value × Nat)=>cs.setIfInBounds (off+x.2) x.1) cells) h h2 hyo (by rw [harr,hyf]; exact hr.splice off hxr)
     refine ⟨cs,?_,hrr⟩
     have c1:(u.cells.size !=n||decide (off+u.cells.size > cells.size))=false:=by simp [hsz]; omega
     simp only [Instr.fill,hs]
     rw [if_neg (by simpa using c1)]
     exact hf
theorem nbuildV_sound {P:Program} {Γ:Env} {w:World} {t:TypeId} {parts:List (Nat × NS)} {pv:Array (Nat × Value)} {v:NV} (h:nbuildV P t parts=some v) (hp:PartsRel Γ parts pv.toList) :
  ∃ u,(Instr.build t pv).run P w=.ok u w∧VRel Γ v u:=by
 unfold nbuildV at h
 split at h
 ·split at h
  case h_2=>cases h
  rename_i l hl
  cases h
  obtain ⟨cs,hrun,hr⟩:=nbuild_sound (w:=w) hl hp
  exact ⟨_,hrun,⟨cs,rfl,hr⟩⟩
 ·split at h
  ·rename_i z fs hz hu
   split at h
   case isFalse=>cases h
   rename_i hall
   split at h
   case h_2=>cases h
   rename_i l hl
   cases h
   obtain ⟨i,v,hi,hv,hzo,hz⟩:=zeroSegs_spec hz
   obtain ⟨cs,hf,hr,ho⟩:=buildSegs_sound hl hp hzo (hz Γ)
   refine ⟨.agg cs,?_,⟨cs.toList,by simp,hr,ho⟩⟩
   have hm:=run_arrayMapM (P:=P) (w:=w) (fun (f:Field)=>(do pure (f.offset,← sizeOf f.type):Sem (Nat × Nat))) (fun f=>(f.offset,sizeT P f.type)) fs (fun f hf=>by
    obtain ⟨fi,hfi⟩:=Option.isSome_iff_exists.1 (List.all_eq_true.1 hall f hf)
    simp [run_sizeOf hfi])
   have hplace:(fun (x:Nat)=>(fs.map fun f=>(f.offset,sizeT P f.type))[x]?)=fun i=>(fs[i]?).map fun f=>(f.offset,sizeT P f.type):=by
    funext x; simp
   simp only [Instr.build,Sem.run_bind,run_zeroValue hi hv,Result.andThen_ok,run_underlying hu,hm,hplace,hf]
   simp
  ·rename_i z n e hz hu
   split at h
   case isFalse=>cases h
   rename_i hpos
   split at h
   case h_2=>cases h
   rename_i l hl
   cases h
   obtain ⟨i,v,hi,hv,hzo,hz⟩:=zeroSegs_spec hz
   obtain ⟨ei,hei,-⟩:=info_of_size hpos
   obtain ⟨cs,hf,hr,ho⟩:=buildSegs_sound hl hp hzo (hz Γ)
   refine ⟨.agg cs,?_,⟨cs.toList,by simp,hr,ho⟩⟩
   simp only [Instr.build,Sem.run_bind,run_zeroValue hi hv,Result.andThen_ok,run_underlying hu,run_sizeOf hei,hf]
   simp
  ·cases h
theorem repl_get {α:Type} (z:List α):∀ (n j:Nat),((List.replicate n z).flatten)[j]? = if j<n * z.length then z[j % z.length]? else none
 | 0,j=>by simp
 | n+1,j=>by
   rw [List.replicate_succ,List.flatten_cons,List.getElem?_append]
   split
   ·rename_i h
    rw [Nat.mod_eq_of_lt h,if_pos (by rw [Nat.succ_mul]; omega)]
   ·rename_i h
    rw [repl_get z n (j - z.length)]
    have hm:(j - z.length) % z.length=j % z.length:=by
     conv=>rhs; rw [show j=(j - z.length)+z.length by omega]
     simp
    rw [hm,Nat.succ_mul]
    by_cases h2:j - z.length<n * z.length
    ·rw [if_pos h2,if_pos (by omega)]
    ·rw [if_neg h2,if_neg (by omega)]
theorem made_rel {Γ:Env} {z:List NC} {zv:Array Value} (r:R2 (CR Γ) z zv.toList) (n:Nat):R2 (CR Γ) (repl n z) ((Array.range (n * zv.size)).map (zv[· % zv.size]!)).toList:=by
 have hl:=r.length
 simp only [Array.length_toList] at hl
 refine R2.of_get ?_ fun j x hx=>?_
 ·simp [repl,hl]
 ·unfold repl at hx
  rw [repl_get] at hx
  split at hx
  ·rename_i hj
   obtain ⟨u,hu,hr⟩:=r.get hx
   refine ⟨u,?_,hr⟩
   rw [hl] at hj hu
   have hlt:j % zv.size<zv.size:=Nat.mod_lt _ (Nat.pos_of_ne_zero fun h=>by rw [h] at hj; simp at hj)
   simp only [Array.getElem?_toList] at hu
   rw [Array.getElem?_eq_getElem hlt] at hu
   simp only [Option.some.injEq] at hu
   simp only [Array.toList_map,Array.toList_range,List.getElem?_map,List.getElem?_range hj,Option.map_some]
   rw [getElem!_pos zv _ hlt,hu]
  ·cases hx
theorem run_buildSlice {P:Program} {w:World} {t e:TypeId} {i:TypeInfo} {v:Value} {len:Nat} {pv:Array (Nat × Value)} {cs:Array Value} (hu:P.underlying t=some (.slice e)) (hi:P.info? e=some i) (hv:i.zero=some v)
  (hsz:v.cells.size=sizeT P e) (h24:len * sizeT P e≤16777216)
  (hf:Instr.fill (fun i=>some (i * sizeT P e,sizeT P e)) ((Array.range (len * sizeT P e)).map (fun x=>v.cells[x % sizeT P e]!)) pv.toList=some cs) :
  (Instr.buildSlice t len pv).run P w=.ok (.slice (some ⟨w.heap.size,0,none⟩) len len) (w.alloc (.cells cs e)):=by
 have hi24:¬ (len * sizeT P e > 2 ^ 24):=by omega
 by_cases hn:len * sizeT P e=0
 ·simp only [hn,Array.range_zero',List.map_toArray,List.map_nil] at hf
  simp only [Instr.buildSlice,Sem.run_bind,run_underlying hu,Result.andThen_ok,run_sizeOf hi,hn,if_true,Array.range_zero',List.map_toArray,List.map_nil]
  rw [hf]
  simp [newRow]
 ·simp only [Instr.buildSlice,Sem.run_bind,run_underlying hu,Result.andThen_ok,run_sizeOf hi,hi24,hn,if_false,Sem.run_pure,run_zeroValue hi hv,hsz]
  rw [hf]
  simp [newRow]
def ROk (Γ:Env) (s:St) (w:World) (run:Result Next):R1→Prop
 | .no=>True
 | .val c v=>allT c→∃ u,run=.ok (.value u) w∧SRel Γ v u
 | .new c g vf=>allT c→∃ u cs,run=.ok (.value u) (w.alloc (.cells cs g.e))∧BodyRel Γ g.st g.body cs.toList∧
    ∀ nm,Γ.μ nm=none→SRel (Γ.add nm (Blk.all w.heap.size g.st cs.size g.e)) (vf nm) u
 | .upd c n g=>allT c→∃ w',run=.ok .skip w'∧WRel Γ (putAt s.rg n (some g)) w'∧Wd w w'
theorem ksFrom_length:∀ {z:List NC} {ks:List CK},ksFrom z=some ks→ks.length=z.length
 | [],ks,h=>by simp [ksFrom] at h; subst h; rfl
 | x::z,ks,h=>by
   cases x <;> simp only [ksFrom,reduceCtorEq] at h <;>
   ·split at h
    ·rename_i r hr
     cases h
     simp [ksFrom_length hr]
    ·cases h
theorem elemBody_st {P:Program} {e:TypeId} {z:List NC} (n:Nat) (xs:List NC) (hz:zeroCells P e=some z) (hl:z.length=sizeT P e):(elemBody P e n xs).1=sizeT P e:=by
 have hk:∀ ks,ksOf P e=some ks→ks.length=sizeT P e:=fun ks h=>by
  simp only [ksOf,hz] at h
  rw [ksFrom_length h,hl]
 unfold elemBody
 split
 ·rename_i k h
  have:=hk _ h
  simp only [List.length_singleton] at this
  split <;> exact this
 ·rename_i ks _ h
  have:=hk _ h
  split
  ·split
   ·exact this
   ·rfl
  ·rfl
 ·rfl
theorem ofV_ok {Γ:Env} {s:St} {w:World} {run:Result Next} {x:Option (List Bool × NS)} (h:∀ c v,x=some (c,v)→allT c→∃ u,run=.ok (.value u) w∧SRel Γ v u):ROk Γ s w run (ofV x):=by
 cases x with
 | none=>trivial
 | some p=>exact h p.1 p.2 rfl
theorem ofOpt_rel {Γ:Env} {s:St} {a:Act} (hfr:FrRel Γ s.fr a.tmps) {x:Option Operand} {y:Option NC} (h:ofOpt s x=some y):BRel Γ y (x.map a.eval):=by
 unfold ofOpt at h
 split at h
 ·cases h; rfl
 ·rename_i o
  split at h
  ·rename_i z hz
   cases h
   exact ⟨_,rfl,nc_rel (ev_rel hfr o) hz⟩
  ·cases h
theorem parts_rel {Γ:Env} {s:St} {a:Act} (hfr:FrRel Γ s.fr a.tmps) (parts:Array (Nat × Operand)) :
  PartsRel Γ (parts.toList.map fun (i,x)=>(i,s.ev x)) (parts.map fun (i,x)=>(i,a.eval x)).toList:=by
 rw [Array.toList_map]
 exact R2.self_map _ _ _ fun x=>⟨rfl,ev_rel hfr x.2⟩
theorem addr_new {Γ:Env} {nm:Nat} {w:World} {st sz:Nat} {e:TypeId}:SRel (Γ.add nm (Blk.all w.heap.size st sz e)) (.v (.c (.p nm 0 0))) (.pointer (some ⟨w.heap.size,0,none⟩)):=
 ⟨⟨Blk.all w.heap.size st sz e,Env.add_pt rfl,by simp [Blk.o,Blk.all]⟩,rfl⟩
theorem nmm_ok {P:Program} {s:St} {Γ:Env} {w:World} {a:Act} {o:Oper} {c:Call} (hfr:FrRel Γ s.fr a.tmps) (less:Bool) (hop:o.op=.call c)
  (hcal:c.callee=.builtin (match less with | true=>.min | false=>.max)) {cc:List Bool} {v:NS} (h:nmm less s c.args.toList=some (cc,v)) :
  ∃ u,(execOp a.eval o).run P w=.ok (.value u) w∧SRel Γ v u:=by
 unfold nmm at h
 split at h
 case h_2=>cases h
 rename_i x y ha
 split at h
 case h_2=>cases h
 rename_i k m k' n hx hy
 cases h
 obtain ⟨callee,args,argTypes⟩:=c
 simp only at hcal ha
 subst hcal
 have ha' : args=#[x,y]:=by rw [← Array.toArray_toList (xs:=args),ha]
 subst ha'
 have h1:=ev_rel hfr x
 have h2:=ev_rel hfr y
 rw [hx] at h1
 rw [hy] at h2
 have e1:a.eval x=.int k m:=h1.1
 have e2:a.eval y=.int k' n:=h2.1
 cases less with
 | true=>
   refine ⟨.int k (if n<m then n else m),?_,?_,rfl⟩
   ·simp [execOp,hop,resolve,invoke,builtin,e1,e2,Builtin.min_,Builtin.min2]
   ·show _=Value.int k (bif decide (n<m) then n else m)
    by_cases c:n<m <;> simp [c]
 | false=>
   refine ⟨.int k (if n > m then n else m),?_,?_,rfl⟩
   ·simp [execOp,hop,resolve,invoke,builtin,e1,e2,Builtin.max_,Builtin.max2]
   ·show _=Value.int k (bif decide (n > m) then n else m)
    by_cases c:n > m <;> simp [c]
theorem ncap_ok {P:Program} {s:St} {Γ:Env} {w:World} {a:Act} {o:Oper} {c:Call} (hfr:FrRel Γ s.fr a.tmps) (hop:o.op=.call c)
  (hcal:c.callee=.builtin .cap) {cc:List Bool} {v:NS} (h:ncap P s c.args.toList c.argTypes.toList=some (cc,v)) :
  ∃ u,(execOp a.eval o).run P w=.ok (.value u) w∧SRel Γ v u:=by
 unfold ncap at h
 split at h
 case h_2=>cases h
 rename_i x t ha ht
 split at h
 case h_2=>cases h
 rename_i e hu hx
 cases h
 obtain ⟨callee,args,argTypes⟩:=c
 simp only at hcal ha ht
 subst hcal
 have ha' : args=#[x]:=by rw [← Array.toArray_toList (xs:=args),ha]
 have ht' : argTypes=#[t]:=by rw [← Array.toArray_toList (xs:=argTypes),ht]
 subst ha' ht'
 have h1:=ev_rel hfr x
 rw [hx] at h1
 have e1:a.eval x=.slice none 0 0:=h1.1
 refine ⟨goInt 0,?_,⟨rfl,rfl⟩⟩
 simp [execOp,hop,resolve,invoke,builtin,e1,Builtin.cap_,run_underlying hu]
theorem allPtr_rel {Γ:Env}:∀ {l:List NS} {t:List (Nat × Nat × Nat)} {vs:List Value},allPtr l=some t→R2 (SRel Γ) l vs→R2 (fun (x:Nat × Nat × Nat) u=>∃ B,Γ.pt x.1=some B∧u=.pointer (some ⟨B.blk,B.o+(x.2.1 * B.st+x.2.2),none⟩)) t vs
 | [],t,vs,h,r=>by simp [allPtr] at h; subst h; cases r; exact .nil
 | x::l,t,vs,h,r=>by
   unfold allPtr at h
   split at h
   ·rename_i heq; cases heq
   ·rename_i r' i c l' heq
    cases heq
    split at h
    ·rename_i t' ht
     cases h
     cases r with
     | cons r1 r2=>
       obtain ⟨⟨B,hB,hv⟩,-⟩:=r1
       exact .cons ⟨B,hB,hv⟩ (allPtr_rel ht r2)
    ·cases h
   ·cases h
theorem nassert_sound {P:Program} {gl:List Nat} {x:NC} {u:Value} {xt asserted:TypeId} {v:NS} {Γ:Env} {rg:List (Option Reg)} {w:World} (hw:WRel Γ rg w) (hG:GlobOk gl Γ) (hx:CR Γ x u) (h:nassert P gl x asserted=some v) :
  ∃ z,(Instr.typeAssert u xt asserted true).run P w=.ok z w∧SRel Γ v z:=by
 have _:=hw
 have res:SRel Γ (.tu [.c .pn,.c (.b false)]) (.tuple #[.pointer none,.bool false]):=
  ⟨[.pointer none,.bool false],rfl,.cons ⟨rfl,rfl⟩ (.cons ⟨rfl,rfl⟩ .nil)⟩
 have zv:zeroNil P asserted=true→(zeroValue asserted).run P w=.ok (.pointer none) w:=by
  intro hz
  unfold zeroNil at hz
  split at hz
  ·rename_i i hi
   split at hz
   ·rename_i hzv
    exact run_zeroValue hi hzv w
   ·cases hz
  ·cases hz
 unfold nassert at h
 split at h
 ·obtain ⟨rfl,-⟩:=hx
  split at h
  ·rename_i p hp hz
   cases h
   refine ⟨_,?_,res⟩
   unfold Instr.typeAssert
   simp [run_underlying hp,zv hz]
  ·cases h
 ·rename_i k
  split at h
  ·cases h
  ·rename_i hif
   simp only [Bool.or_eq_true,not_or,Bool.not_eq_true,beq_eq_false_iff_ne,Bool.not_eq_false'] at hif
   obtain ⟨h2,h3⟩:=hif
   split at h
   ·rename_i p hp hz
    cases h
    obtain ⟨ad,c,e,fz,ca,ta,g1,-⟩:=hG.1 k (List.contains_iff_mem.1 h3)
    have hu:Γ.er k=some u:=hx.1
    rw [g1] at hu
    cases hu
    refine ⟨_,?_,res⟩
    unfold Instr.typeAssert
    generalize gl.headD 0=q at h2
    simp [run_underlying hp,zv hz,h2]
   ·cases h
 ·cases h
theorem made_list (z:Array Value) (q:Nat):(madeCells z (q * z.size)).toList=(List.replicate q z.toList).flatten:=by
 unfold madeCells
 simp only [Array.toList_map,Array.toList_range]
 induction q with
 | zero=>simp
 | succ q ih=>
   rw [Nat.succ_mul,Nat.add_comm,List.range_add,List.map_append,List.replicate_succ,List.flatten_cons]
   congr 1
   ·refine List.ext_getElem? fun j=>?_
    rw [List.getElem?_map]
    by_cases hj:j<z.size
    ·rw [List.getElem?_range hj,Option.map_some,Nat.mod_eq_of_lt hj]
     simp [hj]
    ·rw [List.getElem?_eq_none (by rw [List.length_range]; omega),List.getElem?_eq_none (by simp; omega)]
     rfl
   ·rw [List.map_map,← ih]
    congr 1
    funext i
    show z[(z.size+i) % z.size]! = z[i % z.size]!
    rw [Nat.add_mod_left]
theorem light_sound {P:Program} {glob:List Nat} {s:St} {Γ:Env} {w:World} {a:Act} (hw:WRel Γ s.rg w) (hG:GlobOk glob Γ) (hfr:FrRel Γ s.fr a.tmps) (o:Oper) :
  ROk Γ s w ((execOp a.eval o).run P w) (light P glob s o.op):=by
 cases hop:o.op <;> simp only [light]
 case move x=>exact fun _=>⟨a.eval x,by simp [execOp,hop],ev_rel hfr x⟩
 case assign x=>exact fun _=>⟨a.eval x,by simp [execOp,hop],ev_rel hfr x⟩
 case alloc t=>
  split
  case h_2=>trivial
  rename_i g hg
  intro _
  unfold allocReg at hg
  split at hg
  ·split at hg
   case h_2=>cases hg
   rename_i l hl
   cases hg
   obtain ⟨i,v,hi,hv,hzo,hz⟩:=zeroSegs_spec hl
   refine ⟨.pointer (some ⟨w.heap.size,0,none⟩),v.cells,?_,⟨v.cells.toList,[],by simp,hz Γ,hzo⟩,fun nm _=>addr_new⟩
   simp [execOp,hop,Instr.alloc,run_zeroValue hi hv,newVar,newRow]
  split at hg
  case h_2=>cases hg
  rename_i z hz
  cases hg
  obtain ⟨i,v,hi,hv,hsz,hs⟩:=zeroCells_spec hz
  obtain ⟨hb,he⟩:=varReg_rel (Γ:=Γ) P t (scals_rel hs)
  refine ⟨.pointer (some ⟨w.heap.size,0,none⟩),v.cells,?_,hb,fun nm _=>addr_new⟩
  rw [he]
  simp [execOp,hop,Instr.alloc,run_zeroValue hi hv,newVar,newRow]
 case box t x=>
  split
  case h_2=>trivial
  rename_i nv hnv
  split
  case isFalse=>trivial
  split
  case h_2=>trivial
  rename_i g hg
  intro _
  have hr:=nv_rel (ev_rel hfr x) hnv
  have hrun:(execOp a.eval o).run P w=.ok (.value (.pointer (some ⟨w.heap.size,0,none⟩))) (w.alloc (.cells (a.eval x).cells t)):=by simp [execOp,hop,Instr.box,newVar,newRow]
  unfold boxReg at hg
  split at hg
  ·split at hg
   ·cases hg
    refine ⟨_,_,hrun,⟨(a.eval x).cells.toList,[],by simp,hr.cells,hr.segs.1⟩,fun nm _=>addr_new⟩
   ·split at hg
    case h_2=>cases hg
    rename_i l hl
    cases hg
    obtain ⟨h1,h2⟩:=segAs_spec hl
    exact ⟨_,_,hrun,⟨(a.eval x).cells.toList,[],by simp,by rw [h2]; exact hr.cells,h1⟩,fun nm _=>addr_new⟩
  cases hg
  obtain ⟨hb,he⟩:=varReg_rel (Γ:=Γ) P t hr.cells
  refine ⟨.pointer (some ⟨w.heap.size,0,none⟩),(a.eval x).cells,?_,hb,fun nm _=>addr_new⟩
  rw [he]
  simp [execOp,hop,Instr.box,newVar,newRow]
 case build t parts=>
  split
  case h_2=>trivial
  rename_i l hl
  intro _
  obtain ⟨u,hrun,hr⟩:=nbuildV_sound (w:=w) hl (parts_rel hfr parts)
  exact ⟨u,by simp [execOp,hop,hrun],hr⟩
 case buildSlice t len parts=>
  split
  case h_2=>trivial
  rename_i e hu
  split
  case h_2=>trivial
  rename_i z hz
  split
  case isFalse=>trivial
  rename_i hle
  split
  case h_2=>trivial
  rename_i l hl
  intro _
  obtain ⟨i,v,hi,hv,hsz,hs⟩:=zeroCells_spec hz
  have hzl:z.length=sizeT P e:=by rw [(scals_rel (Γ:=Γ) hs).length]; simpa using hsz
  have hm:=made_rel (scals_rel (Γ:=Γ) hs) len
  rw [hsz] at hm
  obtain ⟨cs,hf,hr⟩:=buildParts_sound hl (parts_rel hfr parts) hm
  have hlen:cs.size=len * sizeT P e:=by
   have h1:∀ (ps:List (Nat × Value)) (c0 c1:Array Value),Instr.fill (fun i=>some (i * sizeT P e,sizeT P e)) c0 ps=some c1→c1.size=c0.size:=by
    intro ps
    induction ps with
    | nil=>intro c0 c1 h; simp [Instr.fill] at h; rw [h]
    | cons p ps ih=>
      intro c0 c1 h
      simp only [Instr.fill] at h
      split at h
      ·cases h
      ·rw [ih _ _ h]
       have:∀ (l:List (Value × Nat)) (q:Array Value),(l.foldl (fun (cs:Array Value) (x:Value × Nat)=>cs.setIfInBounds (p.1 * sizeT P e+x.2) x.1) q).size=q.size:=by
        intro l
        induction l with
        | nil=>intro q; rfl
        | cons y l ihl=>intro q; rw [List.foldl_cons,ihl]; simp
       rw [← Array.foldl_toList]
       exact this _ _
   rw [h1 _ _ _ hf]; simp
  refine ⟨.slice (some ⟨w.heap.size,0,none⟩) len len,cs,?_,elemBody_rel P e len hr,fun nm _=>⟨⟨_,0,len,Env.add_wh rfl rfl rfl,rfl,Nat.le_refl _,?_,?_⟩,rfl⟩⟩
  ·simp only [execOp,hop,Sem.run_bind,run_buildSlice (w:=w) hu hi hv hsz (by rw [← hzl]; exact hle.1) hf,Result.andThen_ok,Sem.run_pure]
  ·simp only [maxLen]; omega
  ·left
   simp only [Nat.zero_mul,Nat.zero_add,true_and,Blk.all_st,Blk.all_sz]
   rw [elemBody_st len l hz hzl,hlen]
 case load t x=>
  split
  case h_2=>trivial
  rename_i d y hu hy
  refine ofV_ok fun c v h hc=>?_
  obtain ⟨u,hr,hs⟩:=nload_sound hw hG (by rw [hu]; rfl) (nc_rel (ev_rel hfr x) hy) h hc
  exact ⟨u,by simp only [execOp,hop,Sem.run_bind,hr,Result.andThen_ok,Sem.run_pure],hs⟩
 case store t x y=>
  split
  case h_2=>trivial
  rename_i i nx ny hi hx hy
  split
  case h_2=>trivial
  rename_i c n g h
  intro hc
  obtain ⟨w',hr,h1,h2⟩:=nstore_sound hw hi (nc_rel (ev_rel hfr x) hx) (nv_rel (ev_rel hfr y) hy) h hc
  exact ⟨w',by simp only [execOp,hop,Sem.run_bind,hr,Result.andThen_ok,Sem.run_pure],h1,h2⟩
 case nilCheck x=>
  have hr:=ev_rel hfr x
  split
  ·rename_i r i c he
   intro _
   rw [he] at hr
   have hr':=hr
   obtain ⟨⟨B,hB,hv⟩,-⟩:=hr'
   exact ⟨a.eval x,by simp only [execOp,hop,hv]; rfl,hr⟩
  ·rename_i r o ww i c he
   intro _
   rw [he] at hr
   have hr':=hr
   obtain ⟨⟨B,hB,hv⟩,-⟩:=hr'
   exact ⟨a.eval x,by simp only [execOp,hop,hv]; rfl,hr⟩
  ·rename_i k xs i he
   intro _
   rw [he] at hr
   have hr':=hr
   obtain ⟨⟨blk,off,hv,-⟩,-⟩:=hr'
   exact ⟨a.eval x,by simp only [execOp,hop,hv]; rfl,hr⟩
  ·rename_i ks xs i c he
   intro _
   rw [he] at hr
   have hr':=hr
   obtain ⟨⟨blk,off,hv,-⟩,-⟩:=hr'
   exact ⟨a.eval x,by simp only [execOp,hop,hv]; rfl,hr⟩
  ·rename_i sch xs i c he
   intro _
   rw [he] at hr
   have hr':=hr
   obtain ⟨⟨blk,off,vs,hv,-⟩,-⟩:=hr'
   exact ⟨a.eval x,by simp only [execOp,hop,hv]; rfl,hr⟩
  ·rename_i g he
   intro _
   rw [he] at hr
   have hr':=hr
   obtain ⟨hv,-⟩:=hr'
   exact ⟨a.eval x,by simp only [execOp,hop,show a.eval x=_ from hv]; rfl,hr⟩
  ·trivial
 case binOp op t x y yt=>
  split
  case h_2=>trivial
  rename_i p q hp hq
  split
  case h_2=>trivial
  rename_i c r h
  intro hc
  obtain ⟨z,hr,hs⟩:=nbinE_sound (P:=P) hw hG (nc_rel (ev_rel hfr x) hp) (nc_rel (ev_rel hfr y) hq) h hc
  exact ⟨z,by simp only [execOp,hop,Sem.run_bind (x:=(do eqGuard op t x y (a.eval x) (a.eval y); binOp op t (a.eval x) (a.eval y):Sem Value)),hr,Result.andThen_ok,Sem.run_pure],hs⟩
 case unOp op t x=>
  split
  case h_2=>trivial
  rename_i p hp
  split
  case h_2=>trivial
  rename_i r h
  intro _
  obtain ⟨z,hr,hs⟩:=nun_sound (P:=P) w (nc_rel (ev_rel hfr x) hp) h
  exact ⟨z,by simp only [execOp,hop,Sem.run_bind,hr,Result.andThen_ok,Sem.run_pure],hs⟩
 case convert src dst x=>
  split
  ·rename_i k n hn
   split
   ·rename_i ds k' hs hd
    intro _
    obtain ⟨hv,-⟩:=nc_rel (ev_rel hfr x) hn
    refine ⟨.int k' (k'.wrap n),?_,⟨rfl,rfl⟩⟩
    have hv' : a.eval x=.int k n:=hv
    simp only [execOp,hop,hv',convert,Sem.run_bind,run_underlying hs,run_underlying hd,Result.andThen_ok,Conv.intToInt,Sem.run_pure]
   ·trivial
  ·trivial
 case makeSlice t l c=>
  split
  case h_2=>trivial
  rename_i e n m hu hl hcp
  split
  case h_2=>trivial
  rename_i g hg
  intro hc
  have hc' : 0≤n∧n≤m∧m * bytesT P e≤140737488355328∧m≤9223372036854775807:=by simpa [allT] using hc
  obtain ⟨h0,h1,h2,h3⟩:=hc'
  obtain ⟨hv1,-⟩:=nc_rel (ev_rel hfr l) hl
  obtain ⟨hv2,-⟩:=nc_rel (ev_rel hfr c) hcp
  have hv1' : a.eval l=.int .i64 n:=hv1
  have hv2' : a.eval c=.int .i64 m:=hv2
  have key:∀ (z:NC),zeroCells P e=some [z]→∃ (u:Value),CR Γ z u∧
    (Instr.makeSlice t (.int .i64 n) (.int .i64 m)).run P w=.ok (.slice (some ⟨w.heap.size,0,none⟩) n.toNat m.toNat) (w.alloc (.cells (List.replicate m.toNat u).toArray e)):=by
   intro z hz
   obtain ⟨i,v,hi,hv,hsz,hs⟩:=zeroCells_spec hz
   obtain ⟨u,hu1,hu2⟩:=R2.one (scals_rel (Γ:=Γ) hs)
   have hvc:v.cells=#[u]:=by rw [← Array.toArray_toList (xs:=v.cells),hu1]
   have hs1:i.size=1:=by
    have:sizeT P e=1:=by rw [← hsz,hvc]; rfl
    simpa [sizeT,hi] using this
   refine ⟨u,hu2,?_⟩
   have hby:(i.bytes:Int) * m≤281474976710656:=by
    have:bytesT P e=i.bytes:=by simp [bytesT,hi]
    rw [this] at h2
    rw [Int.mul_comm]; omega
   rw [run_make w t e i v hu hi hv .i64 .i64 n m h0 h1 hby h3]
   congr 4
   rw [hvc,hs1]
   apply Array.ext'
   simp only [madeCells,Nat.mul_one,Array.toList_map,Array.toList_range]
   apply List.ext_getElem?
   intro j
   by_cases hj:j<m.toNat
   ·simp [hj,Nat.mod_one]
   ·simp [hj]
  have hsplit:∀ (u:Value),List.replicate m.toNat u=List.replicate n.toNat u++List.replicate (m.toNat - n.toNat) u:=fun u=>by
   rw [List.replicate_append_replicate]; congr 1; omega
  unfold makeReg at hg
  split at hg
  ·rename_i k z hz
   cases hg
   obtain ⟨u,hu2,hrun⟩:=key _ hz
   have hu3:u=.int k z:=hu2.1
   refine ⟨.slice (some ⟨w.heap.size,0,none⟩) n.toNat m.toNat,(List.replicate m.toNat u).toArray,by simp only [execOp,hop,hv1',hv2',Sem.run_bind,hrun,Result.andThen_ok,Sem.run_pure],⟨rfl,List.replicate (m.toNat - n.toNat) u,?_⟩,fun nm _=>⟨⟨_,0,m.toNat,Env.add_wh rfl rfl rfl,rfl,by omega,by simp only [maxLen]; omega,.inl ?_⟩,rfl⟩⟩
   ·rw [hsplit,hu3]; simp
   ·simp
  ·rename_i z hz
   cases hg
   obtain ⟨u,hu2,hrun⟩:=key _ hz
   have hu3:u=.bool z:=hu2.1
   refine ⟨.slice (some ⟨w.heap.size,0,none⟩) n.toNat m.toNat,(List.replicate m.toNat u).toArray,by simp only [execOp,hop,hv1',hv2',Sem.run_bind,hrun,Result.andThen_ok,Sem.run_pure],⟨rfl,by decide,List.replicate (m.toNat - n.toNat) u,?_⟩,fun nm _=>⟨⟨_,0,m.toNat,Env.add_wh rfl rfl rfl,rfl,by omega,by simp only [maxLen]; omega,.inl ?_⟩,rfl⟩⟩
   ·have hrep:∀ q,rowsV [.b] (List.replicate q [.b z])=List.replicate q (Value.bool z):=fun q=>by
     unfold rowsV
     induction q with
     | zero=>rfl
     | succ q ih=>rw [List.replicate_succ,List.replicate_succ,List.flatMap_cons,ih]; rfl
    rw [hrep,hu3]; exact hsplit _
   ·simp
  ·rename_i zs _ _ hz
   split at hg
   case h_2=>cases hg
   rename_i ks hks
   split at hg
   case h_2=>cases hg
   rename_i row hrow
   split at hg
   case isFalse=>cases hg
   rename_i h1k
   cases hg
   obtain ⟨i,v,hi,hv,hsz,hs⟩:=zeroCells_spec hz
   have hus:=toRow_vals (Γ:=Γ) hrow (scals_rel hs)
   have hs1:i.size=v.cells.size:=by
    rw [hsz]
    simp [sizeT,hi]
   have hkl:ks.length=v.cells.size:=by
    rw [ksFrom_length hks,(scals_rel (Γ:=Γ) hs).length]
    simp
   have hby:(i.bytes:Int) * m≤281474976710656:=by
    have:bytesT P e=i.bytes:=by simp [bytesT,hi]
    rw [this] at h2
    rw [Int.mul_comm]; omega
   have hrun:=run_make (P:=P) w t e i v hu hi hv .i64 .i64 n m h0 h1 hby h3
   rw [hs1] at hrun
   have hrep:∀ q,rowsV ks (List.replicate q row)=(List.replicate q v.cells.toList).flatten:=fun q=>by
    unfold rowsV
    rw [hus]
    induction q with
    | zero=>rfl
    | succ q ih=>rw [List.replicate_succ,List.replicate_succ,List.flatMap_cons,ih,List.flatten_cons]
   refine ⟨.slice (some ⟨w.heap.size,0,none⟩) n.toNat m.toNat,madeCells v.cells (m.toNat * v.cells.size),by simp only [execOp,hop,hv1',hv2',Sem.run_bind,hrun,Result.andThen_ok,Sem.run_pure],⟨rfl,by omega,rowsV ks (List.replicate (m.toNat - n.toNat) row),?_⟩,fun nm _=>⟨⟨_,0,m.toNat,Env.add_wh rfl rfl rfl,rfl,by omega,by simp only [maxLen]; omega,.inl ?_⟩,rfl⟩⟩
   ·rw [made_list,hrep,hrep,← List.flatten_append,List.replicate_append_replicate]
    congr 2
    omega
   ·rw [size_madeCells,hkl]
    simp
  ·cases hg
 case slice t x lo hi mx=>
  cases mx with
  | some _=>trivial
  | none=>
    simp only
    split
    case h_2=>trivial
    rename_i p pl ph hp hl hh
    refine ofV_ok fun c v h hc=>?_
    obtain ⟨z,hr,hs⟩:=nslice_sound hw (nc_rel (ev_rel hfr x) hp) (ofOpt_rel hfr hl) (ofOpt_rel hfr hh) h hc
    exact ⟨z,by simp only [execOp,hop,Option.map_none,Sem.run_bind,hr,Result.andThen_ok,Sem.run_pure],hs⟩
 case fieldAddr t x f=>
  split
  ·rename_i r i c o ft hx hf
   intro _
   obtain ⟨⟨B,hB,hv⟩,-⟩:=nc_rel (ev_rel hfr x) hx
   refine ⟨.pointer (some ⟨B.blk,B.o+(i * B.st+c)+o,none⟩),by simp only [execOp,hop,hv,Sem.run_bind,run_fieldAt hf,Result.andThen_ok,Sem.run_pure],⟨⟨B,hB,by rw [Nat.add_assoc,Nat.add_assoc]⟩,rfl⟩⟩
  ·rename_i r q ww i c o ft hx hf
   intro _
   obtain ⟨⟨B,hB,hv⟩,-⟩:=nc_rel (ev_rel hfr x) hx
   refine ⟨.pointer (some ⟨B.blk,B.o+(q+i * ww+c)+o,none⟩),by simp only [execOp,hop,hv,Sem.run_bind,run_fieldAt hf,Result.andThen_ok,Sem.run_pure],⟨⟨B,hB,by rw [Nat.add_assoc B.o,Nat.add_assoc (q+_)]⟩,rfl⟩⟩
  ·rename_i ks xs i c o ft hx hf
   intro _
   obtain ⟨⟨blk,off,hv,hro⟩,-⟩:=nc_rel (ev_rel hfr x) hx
   refine ⟨.pointer (some ⟨blk,off+i * ks.length+c+o,none⟩),by simp only [execOp,hop,hv,Sem.run_bind,run_fieldAt hf,Result.andThen_ok,Sem.run_pure],⟨⟨blk,off,by rw [Nat.add_assoc (off+_)],hro⟩,rfl⟩⟩
  ·rename_i sch xs i c o ft hx hf
   intro _
   obtain ⟨⟨blk,off,vs,hv,h0,hk,hro⟩,-⟩:=nc_rel (ev_rel hfr x) hx
   refine ⟨.pointer (some ⟨blk,off+(i * schSize sch+c)+o,none⟩),by simp only [execOp,hop,hv,Sem.run_bind,run_fieldAt hf,Result.andThen_ok,Sem.run_pure],⟨⟨blk,off,vs,by rw [Nat.add_assoc off,Nat.add_assoc (i * _)],h0,hk,hro⟩,rfl⟩⟩
  ·trivial
 case field t x f=>
  split
  case h_3=>trivial
  case h_2=>
   rename_i l o ft hx hf
   split
   case h_2=>trivial
   rename_i d hd
   split
   case h_2=>trivial
   rename_i v hv
   intro _
   have hr:=ev_rel hfr x
   rw [hx] at hr
   obtain ⟨vs,he,hr,hok⟩:=hr
   have hg:=segGet_spec hok hv
   obtain ⟨fs,fx,fi,hu,hfx,rfl,rfl,hi,hs⟩:=fieldOff_spec hf
   cases ha:isAggT P fx.type with
   | true=>
     obtain ⟨g1,g2,g3,g4⟩:=hg.all ha
     have hr' : R2 (CR Γ) v.cells ((vs.drop fx.offset).take (sizeT P fx.type)):=g1 ▸ (hr.drop _).take _
     refine ⟨.agg ((vs.drop fx.offset).take (sizeT P fx.type)).toArray,?_,vrel_of_cells hr' g3 g4⟩
     simp [execOp,hop,he,Instr.field,run_underlying hu,hfx,part,run_isAgg hd,ha,asAgg,run_sizeOf hi]
   | false=>
     obtain ⟨y,gy,g1⟩:=hg.one ha
     obtain ⟨z,hz,hr'⟩:=hr.get g1
     refine ⟨z,?_,by rw [gy]; exact hr'⟩
     simp [execOp,hop,he,Instr.field,run_underlying hu,hfx,part,run_isAgg hd,ha,asAgg,hz]
  rename_i xs o ft hx hf
  split
  case h_2=>trivial
  rename_i d hd
  have hr:=ev_rel hfr x
  rw [hx] at hr
  obtain ⟨vs,hv,hr⟩:=hr
  obtain ⟨h1,h2⟩:=run_field (P:=P) (w:=w) hf hr
  split
  ·rename_i ha
   split
   ·rename_i l hl
    intro _
    obtain ⟨z,hz,hs⟩:=h1 l ha (by rw [hd]; rfl) hl
    exact ⟨z,by simp only [execOp,hop,hv,Sem.run_bind,hz,Result.andThen_ok,Sem.run_pure],hs⟩
   ·trivial
  ·rename_i ha
   split
   ·rename_i y hy
    intro _
    obtain ⟨z,hz,hs⟩:=h2 y (by simpa using ha) (by rw [hd]; rfl) hy
    exact ⟨z,by simp only [execOp,hop,hv,Sem.run_bind,hz,Result.andThen_ok,Sem.run_pure],hs⟩
   ·trivial
 case indexAddr t x ix=>
  split
  case h_2=>trivial
  rename_i p q hp hq
  refine ofV_ok fun c v h hc=>?_
  obtain ⟨z,hr,hs⟩:=nindexAddr_sound hw (nc_rel (ev_rel hfr x) hp) (nc_rel (ev_rel hfr ix) hq) h hc
  exact ⟨z,by simp only [execOp,hop,Sem.run_bind,hr,Result.andThen_ok,Sem.run_pure],hs⟩
 case sliceToArrayPointer t x=>
  split
  case h_2=>trivial
  rename_i n e r off len hu hx
  split
  case isFalse=>trivial
  rename_i h0
  intro hc
  have hc:n≤len:=by simpa [allT] using hc
  obtain ⟨⟨B,o,cap,hB,hv,hlc,hcm,hcap⟩,-⟩:=nc_rel (ev_rel hfr x) hx
  have ho:o=off * B.st:=by
   rcases hcap with h | h
   ·exact h.1
   ·omega
  have hr:(Instr.arrayAt t (a.eval x)).run P w=.ok (.pointer (some ⟨B.blk,o,none⟩)) w:=by
   rw [hv]
   simp [Instr.arrayAt,run_underlying hu,show ¬ len<n by omega]
  exact ⟨.pointer (some ⟨B.blk,o,none⟩),by simp only [execOp,hop,Sem.run_bind,hr,Result.andThen_ok,Sem.run_pure],⟨⟨B,Env.wh_pt hB,by rw [ho,Nat.add_zero,Env.wh_o hB,Nat.zero_add]⟩,rfl⟩⟩
 case index t x ix=>
  split
  case h_2=>trivial
  rename_i q hq
  refine ofV_ok fun c v h hc=>?_
  obtain ⟨z,hr,hs⟩:=nindex_sound (P:=P) (w:=w) (ev_rel hfr x) (nc_rel (ev_rel hfr ix) hq) h hc
  exact ⟨z,by simp only [execOp,hop,Sem.run_bind,hr,Result.andThen_ok,Sem.run_pure],hs⟩
 case makeFunc fn first caps=>
  cases fn
  case func f=>
   simp only
   split
   case isFalse=>trivial
   rename_i h0
   split
   case h_2=>trivial
   rename_i l hl
   intro _
   have hf:first=#[]:=Array.eq_empty_of_size_eq_zero h0
   refine ⟨.func (.func f) #[] (caps.map a.eval),by simp [execOp,hop,hf,Instr.makeFunc],⟨caps.toList.map a.eval,?_,?_⟩,rfl⟩
   ·congr 1
    apply Array.ext'
    simp
   ·exact allPtr_rel hl (R2.self_map _ _ _ fun x=>ev_rel hfr x)
  all_goals trivial
 case typeAssert x xt asserted ok=>
  cases ok
  ·trivial
  ·simp only
   split
   case h_2=>trivial
   rename_i p hp
   split
   case h_2=>trivial
   rename_i v hv
   intro _
   obtain ⟨z,hr,hs⟩:=nassert_sound (P:=P) (xt:=xt) hw hG (nc_rel (ev_rel hfr x) hp) hv
   exact ⟨z,by simp only [execOp,hop,Sem.run_bind,hr,Result.andThen_ok,Sem.run_pure],hs⟩
 case extract x i=>
  have hr:=ev_rel hfr x
  split
  ·rename_i l hx
   split
   ·rename_i v hv
    intro _
    rw [hx] at hr
    obtain ⟨vs,he,hr⟩:=hr
    obtain ⟨u,hu,hs⟩:=hr.get hv
    exact ⟨u,by simp [execOp,hop,he,Instr.extract,hu],hs⟩
   ·trivial
  ·trivial
 case call c=>
  split
  case h_5=>trivial
  case h_2 hcal=>
   refine ofV_ok fun cc v h hc=>?_
   exact ncap_ok hfr hop hcal h
  case h_3 hcal=>
   refine ofV_ok fun cc v h hc=>?_
   exact nmm_ok hfr true hop hcal h
  case h_4 hcal=>
   refine ofV_ok fun cc v h hc=>?_
   exact nmm_ok hfr false hop hcal h
  rename_i hcal
  refine ofV_ok fun cc v h hc=>?_
  unfold nlen at h
  split at h
  case h_2=>cases h
  rename_i x t ha ht
  obtain ⟨callee,args,argTypes⟩:=c
  simp only at hcal ha ht
  subst hcal
  have ha' : args=#[x]:=by rw [← Array.toArray_toList (xs:=args),ha]
  have ht' : argTypes=#[t]:=by rw [← Array.toArray_toList (xs:=argTypes),ht]
  subst ha' ht'
  have hr:=ev_rel hfr x
  have fin:∀ (n:Nat),(Builtin.len_ #[t] o.type #[a.eval x]).run P w=.ok (goInt n) w→∃ u,(execOp a.eval o).run P w=.ok (.value u) w∧SRel Γ (.v (.c (.i .i64 n))) u:=by
   intro n hn
   refine ⟨goInt n,?_,⟨rfl,rfl⟩⟩
   simp only [execOp,hop,resolve,Sem.run_bind,Sem.run_pure,Result.andThen_ok,invoke,builtin,List.map_toArray,List.map_cons,List.map_nil,hn]
  split at h
  ·rename_i e r off n hu hx
   cases h
   rw [hx] at hr
   obtain ⟨⟨B,oo,cap,hB,hv,-⟩,-⟩:=hr
   exact fin n (by simp [Builtin.len_,run_underlying hu,hv])
  ·rename_i e r o ww i n hu hx
   cases h
   rw [hx] at hr
   obtain ⟨⟨B,ad,cap,hB,hv,-⟩,-⟩:=hr
   exact fin n (by simp [Builtin.len_,run_underlying hu,hv])
  ·rename_i e r n hu hx
   cases h
   rw [hx] at hr
   obtain ⟨⟨hn,hv,-⟩ | ⟨B,o,cap,hB,hv,-⟩,-⟩:=hr
   ·rw [hn]
    exact fin 0 (by simp [Builtin.len_,run_underlying hu,hv])
   ·exact fin n (by simp [Builtin.len_,run_underlying hu,hv])
  ·rename_i e k xs hu hx
   cases h
   rw [hx] at hr
   obtain ⟨⟨aa,cap,hv,-⟩,-⟩:=hr
   exact fin xs.length (by simp [Builtin.len_,run_underlying hu,hv])
  ·rename_i e ks xs hu hx
   cases h
   rw [hx] at hr
   obtain ⟨⟨aa,cap,hv,-⟩,-⟩:=hr
   exact fin xs.length (by simp [Builtin.len_,run_underlying hu,hv])
  ·rename_i e sch xs hu hx
   cases h
   rw [hx] at hr
   obtain ⟨⟨aa,cap,hv,-⟩,-⟩:=hr
   exact fin xs.length (by simp [Builtin.len_,run_underlying hu,hv])
  ·rename_i e hu hx
   cases h
   rw [hx] at hr
   obtain ⟨hv,-⟩:=hr
   exact fin 0 (by simp [Builtin.len_,run_underlying hu,show a.eval x=_ from hv])
  ·rename_i z hu hx
   cases h
   rw [hx] at hr
   obtain ⟨hv,-⟩:=hr
   exact fin z.size (by simp [Builtin.len_,run_underlying hu,show a.eval x=_ from hv])
  ·rename_i _ n e hu
   cases h
   exact fin n (by simp [Builtin.len_,run_underlying hu])
  ·cases h
 all_goals trivial
structure Ext (Γ:Env) (w:World) (Γ' : Env):Prop where
 le:Γ.le Γ'
 ro:∀ b,Γ'.ro b=true→Γ.ro b=true∨w.heap.size≤b∨∃ n B,Γ.pt n=some B∧B.blk=b
 nw:∀ n B,Γ'.pt n=some B→w.heap.size≤B.blk∨∃ n' B',Γ.pt n'=some B'∧B'.blk=B.blk
theorem Ext.refl (Γ:Env) (w:World):Ext Γ w Γ:=⟨Env.le.refl Γ,fun _ h=>.inl h,fun n B h=>.inr ⟨n,B,h,rfl⟩⟩
theorem Ext.trans {a b c:Env} {w w' : World} (hw:Wd w w') (h:Ext a w b) (k:Ext b w' c):Ext a w c:=by
 refine ⟨h.le.trans k.le,fun x hx=>?_,fun n B hB=>?_⟩
 ·rcases k.ro x hx with h1 | h1 | ⟨n,B,h1,rfl⟩
  ·exact h.ro x h1
  ·exact .inr (.inl (Nat.le_trans hw.size h1))
  ·rcases h.nw n B h1 with h2 | h2
   ·exact .inr (.inl h2)
   ·exact .inr (.inr h2)
 ·rcases k.nw n B hB with h1 | ⟨n',B',h1,h2⟩
  ·exact .inl (Nat.le_trans hw.size h1)
  ·rw [← h2]; exact h.nw n' B' h1
theorem Ext.add {Γ:Env} {w:World} {nm:Nat} {B:Blk} (h:Γ.μ nm=none) (hb:B.gh=false→w.heap.size≤B.blk∨∃ n' B',Γ.pt n'=some B'∧B'.blk=B.blk):Ext Γ w (Γ.add nm B):=by
 refine ⟨Γ.le_add nm B h,fun b hb=>.inl hb,fun n B' hn=>?_⟩
 by_cases e:n=nm
 ·subst e
  obtain ⟨h1,h2⟩:=Env.pt_iff.1 hn
  rw [Env.add_self] at h1
  cases h1
  exact hb h2
 ·rw [Env.add_other e] at hn
  exact .inr ⟨n,B',hn,rfl⟩
theorem Wd.alloc (w:World) (c:Array Value) (t:TypeId):Wd w (w.alloc (.cells c t)):=⟨rfl,rfl,rfl,by simp⟩
def Els.vals:Els→List Value
 | .ints k xs=>xs.map (.int k)
 | .recs ks xs=>rowsV ks xs
def Els.w:Els→Nat
 | .ints _ _=>1
 | .recs ks _=>ks.length
theorem Els.vals_length (x:Els):x.vals.length=x.length * x.w:=by
 cases x with
 | ints k xs=>simp [Els.vals,Els.length,Els.w]
 | recs ks xs=>simp [Els.vals,Els.length,Els.w,rowsV_length]
theorem Els.vals_one (x:Els):∀ u∈x.vals,u.oneCell'=true:=by
 cases x with
 | ints k xs=>intro u hu; simp only [Els.vals,List.mem_map] at hu; obtain ⟨n,-,rfl⟩:=hu; rfl
 | recs ks xs=>exact (rowsNC_rel ⟨fun _=>none,fun _=>none,fun _=>false,fun _=>none⟩ ks xs).oneCell
theorem Els.app_spec {x y z:Els} (h:x.app y=some z):z.vals=x.vals++y.vals∧z.length=x.length+y.length∧z.w=x.w∧∀ e,(z.reg e).st=z.w:=by
 cases x <;> cases y <;> simp only [Els.app,reduceCtorEq] at h
 ·split at h
  ·rename_i e; cases h; subst e; exact ⟨by simp [Els.vals],by simp [Els.length],rfl,fun _=>rfl⟩
  ·cases h
 ·split at h
  ·rename_i e; cases h; subst e; exact ⟨by simp [Els.vals,rowsV],by simp [Els.length],rfl,fun _=>rfl⟩
  ·cases h
theorem Els.fits_spec {P:Program} {e:TypeId} {x:Els} (h:x.fits P e=true):∃ i v,P.info? e=some i∧i.zero=some v∧v.cells.size=i.size∧i.size=x.w∧0<x.w∧i.bytes=bytesT P e:=by
 have key:∀ ks,ksOf P e=some ks→∃ i v,P.info? e=some i∧i.zero=some v∧v.cells.size=i.size∧i.size=ks.length∧i.bytes=bytesT P e:=by
  intro ks hks
  unfold ksOf at hks
  split at hks
  ·rename_i z hz
   obtain ⟨i,v,hi,hv,hsz,hs⟩:=zeroCells_spec hz
   have h1:i.size=sizeT P e:=by simp [sizeT,hi]
   refine ⟨i,v,hi,hv,by rw [h1]; exact hsz,?_,by simp [bytesT,hi]⟩
   rw [ksFrom_length hks,(scals_rel (Γ:=⟨fun _=>none,fun _=>none,fun _=>false,fun _=>none⟩) hs).length,h1,← hsz]; simp
  ·cases hks
 cases x with
 | ints k xs=>
   simp only [Els.fits,decide_eq_true_eq] at h
   obtain ⟨i,v,h1,h2,h3,h4,h5⟩:=key _ h
   exact ⟨i,v,h1,h2,h3,h4,Nat.one_pos,h5⟩
 | recs ks xs=>
   simp only [Els.fits,Bool.and_eq_true,decide_eq_true_eq] at h
   obtain ⟨i,v,h1,h2,h3,h4,h5⟩:=key _ h.1
   exact ⟨i,v,h1,h2,h3,h4,h.2,h5⟩
theorem Els.reg_rel (Γ:Env) (x:Els) (e:TypeId) (l2:List Value) (h0:0<x.w):BodyRel Γ (x.reg e).st (x.reg e).body (x.vals++l2)∧(x.reg e).e=e∧(x.reg e).st=x.w:=by
 cases x with
 | ints k xs=>exact ⟨⟨rfl,l2,rfl⟩,rfl,rfl⟩
 | recs ks xs=>exact ⟨⟨rfl,h0,l2,rfl⟩,rfl,rfl⟩
theorem els_sound {s:St} {Γ:Env} {w:World} {y:NC} {v:Value} {c:List Bool} {ys:Els} (hw:WRel Γ s.rg w) (hy:CR Γ y v) (h:els s y=some (c,ys)) (hc:allT c) :
  ∃ a cap,v=.slice a ys.length cap∧ys.length≤cap∧(ys.length=0∨∃ blk off,a=some ⟨blk,off,none⟩∧∀ j u,ys.vals[j]? = some u→w.cell? ⟨blk,off+j,none⟩=some u):=by
 unfold els at h
 split at h
 ·rename_i r off len
  obtain ⟨⟨B,o,cap,hB,rfl,hlc,hcm,hcap⟩,-⟩:=hy
  split at h
  case h_2=>cases h
  rename_i g hg
  obtain ⟨cs,hcs,hst,hsz,hbody⟩:=hw.atW hB ((reg_eq s r g).1 hg)
  split at h
  ·rename_i k xs hb
   cases h
   rw [hb] at hbody
   obtain ⟨h1,l2,hl⟩:=hbody
   have hlen:off+len≤xs.length:=by simpa [allT] using hc
   have e1:(Els.ints k ((xs.drop off).take len)).length=len:=by simp [Els.length]; omega
   rw [e1]
   refine ⟨_,cap,rfl,hlc,?_⟩
   rcases hcap with ⟨rfl,-⟩ | h0
   ·right
    refine ⟨B.blk,off * B.st,rfl,fun j u hj=>?_⟩
    refine heap_cell hcs ?_
    rw [hl,hst,h1,Nat.mul_one]
    refine prefix_get ?_
    simp only [Els.vals,List.map_take,List.map_drop] at hj
    exact drop_take_get hj
   ·left; omega
  ·rename_i ks xs hb
   cases h
   rw [hb] at hbody
   obtain ⟨h1,h0',l2,hl⟩:=hbody
   have hlen:off+len≤xs.length:=by simpa [allT] using hc
   have e1:(Els.recs ks ((xs.drop off).take len)).length=len:=by simp [Els.length]; omega
   rw [e1]
   refine ⟨_,cap,rfl,hlc,?_⟩
   rcases hcap with ⟨rfl,-⟩ | h0
   ·right
    refine ⟨B.blk,off * B.st,rfl,fun j u hj=>?_⟩
    refine heap_cell hcs ?_
    rw [hl,hst,h1]
    refine prefix_get ?_
    simp only [Els.vals] at hj
    rw [← rowsV_take,← rowsV_drop] at hj
    exact drop_take_get hj
   ·left; omega
  ·cases h
  ·cases h
  ·cases h
  ·cases h
 ·rename_i r o ww i len
  obtain ⟨⟨B,ad,cap,hB,rfl,hlc,hcm,had⟩,-⟩:=hy
  split at h
  case h_2=>cases h
  rename_i g hg
  split at h
  case h_2=>cases h
  rename_i l hb
  obtain ⟨cs,hA⟩:=hw.at hB ((reg_eq s r g).1 hg) (by rw [hb]; rfl)
  have hbody:=hA.body
  rw [hb] at hbody
  have hse:=segEls_spec hbody.segOk h hc
  obtain ⟨l1,l2,hl,hr,-⟩:=hbody
  have hsub:=(hr.drop (o+i * ww)).take (len * ww)
  have key:ys.length=len∧(l1.drop (o+i * ww)).take (len * ww)=ys.vals:=by
   rcases hse with ⟨k,xs,rfl,hw1,hxl,he⟩ | ⟨ks,xs,rfl,hw1,h0,hxl,he⟩
   ·rw [he] at hsub
    exact ⟨hxl,intsNC_vals hsub⟩
   ·rw [he] at hsub
    exact ⟨hxl,rowsNC_vals hsub⟩
  rw [key.1]
  refine ⟨_,cap,rfl,hlc,?_⟩
  rcases had with rfl | h0
  ·right
   refine ⟨B.blk,_,rfl,fun j u hj=>?_⟩
   rw [← key.2] at hj
   rw [Nat.add_assoc]
   refine hA.cell ?_
   rw [hl]
   exact prefix_get (drop_take_get hj)
  ·left; omega
 ·rename_i r len
  obtain ⟨hy,-⟩:=hy
  split at h
  case h_2=>cases h
  rename_i g hg
  rcases hy with ⟨rfl,rfl,-⟩ | ⟨B,o,cap,hB,rfl,hlc,hcm,hcap⟩
  ·split at h
   ·cases h
    exact ⟨none,0,rfl,Nat.le_refl _,.inl rfl⟩
   ·cases h
    exact ⟨none,0,rfl,Nat.le_refl _,.inl rfl⟩
   ·cases h
  obtain ⟨cs,hcs,hst,hsz,hbody⟩:=hw.atW hB ((reg_eq s r g).1 hg)
  split at h
  ·rename_i k xs hb
   cases h
   rw [hb] at hbody
   obtain ⟨h1,l2,hl⟩:=hbody
   have hlen:len≤xs.length:=by simpa [allT] using hc
   have e1:(Els.ints k (xs.take len)).length=len:=by simp [Els.length]; omega
   rw [e1]
   refine ⟨_,cap,rfl,hlc,?_⟩
   rcases hcap with ⟨rfl,-⟩ | hc0
   rotate_left
   ·left; omega
   refine .inr ⟨B.blk,_,rfl,fun j u hj=>heap_cell hcs ?_⟩
   rw [hl,Nat.zero_mul]
   refine prefix_get ?_
   simp only [Els.vals,List.map_take] at hj
   rw [Nat.zero_add]
   rw [List.getElem?_take] at hj
   split at hj
   ·exact hj
   ·cases hj
  ·rename_i ks xs hb
   cases h
   rw [hb] at hbody
   obtain ⟨h1,h0',l2,hl⟩:=hbody
   have hlen:len≤xs.length:=by simpa [allT] using hc
   have e1:(Els.recs ks (xs.take len)).length=len:=by simp [Els.length]; omega
   rw [e1]
   refine ⟨_,cap,rfl,hlc,?_⟩
   rcases hcap with ⟨rfl,-⟩ | hc0
   rotate_left
   ·left; omega
   refine .inr ⟨B.blk,_,rfl,fun j u hj=>heap_cell hcs ?_⟩
   rw [hl,Nat.zero_mul]
   refine prefix_get ?_
   simp only [Els.vals] at hj
   rw [← rowsV_take] at hj
   rw [Nat.zero_add]
   rw [List.getElem?_take] at hj
   split at hj
   ·exact hj
   ·cases hj
  ·cases h
 ·rename_i k xs
  cases h
  obtain ⟨⟨a,cap,rfl,hlc,hro⟩,-⟩:=hy
  refine ⟨a,cap,rfl,hlc,?_⟩
  rcases hro with rfl | ⟨blk,off,rfl,hro⟩
  ·left; rfl
  ·right; exact ⟨blk,off,rfl,fun j u hj=>hro.cell hw hj⟩
 ·rename_i ks xs
  cases h
  obtain ⟨⟨a,cap,rfl,hlc,hks,hro⟩,-⟩:=hy
  refine ⟨a,cap,rfl,hlc,?_⟩
  rcases hro with rfl | ⟨blk,off,rfl,hro⟩
  ·left; rfl
  ·right; exact ⟨blk,off,rfl,fun j u hj=>hro.cell hw hj⟩
 ·cases h
section
variable {P:Program} {w:World} {t ty e:TypeId} {i:TypeInfo} {z:Value}
theorem run_append_zero (ht:P.underlying t=some (.slice e)) (hi:P.info? e=some i) (b a:Option Addr) (n c cap:Nat) (h:n≤c) :
  (Builtin.append_ #[t,t] ty #[.slice b n c,.slice a 0 cap]).run P w=.ok (.slice b n c) w:=by
 cases a with
 | none=>cases b <;> simp [Builtin.append_,run_underlying ht,sizeOf,typeInfo,hi,Builtin.lenOf,Builtin.firstCells,h,storeCells]
 | some a=>cases b <;> simp [Builtin.append_,run_underlying ht,sizeOf,typeInfo,hi,Builtin.lenOf,Builtin.firstCells,h,storeCells,loadCells,loadCellsFrom]
structure Appd (w:World) (old:Option Nat) (e:TypeId) (size n:Nat) (vals:List Value) (v:Value) (w' : World):Prop where
 row:∃ blk o cap cur,v=.slice (some ⟨blk,o,none⟩) n cap∧w'.heap[blk]? = some (.cells cur e (0,0))∧n≤cap∧cap≤maxLen∧(o=0∧cur.size=cap * size∨cap=0)∧(∃ l2,cur.toList=vals++l2)∧
  (old=some blk∨(w.heap.size≤blk∧blk<w'.heap.size))
 keep:∀ b,b<w.heap.size→old≠some b→w'.heap[b]? = w.heap[b]?
 wd:Wd w w'
theorem grown_alloc (hz:i.zero=some z) (hzs:z.cells.size=i.size) {olds news:List Value} {n m G:Nat} (hlo:olds.length=n * i.size) (hln:news.length=m * i.size) (hG:n+m≤G) (hGm:G≤maxLen) (old:Option Nat) :
  Appd w old e i.size (n+m) (olds++news) (.slice (some ⟨w.heap.size,0,none⟩) (n+m) G) (w.drew.alloc (.cells (olds.toArray++news.toArray++Builtin.zeroCells z.cells (G - (n+m))) e)):=by
 have _:=hz
 refine ⟨⟨w.heap.size,0,G,_,rfl,heap_alloc_new w.drew _,hG,hGm,.inl ⟨rfl,?_⟩,⟨(Builtin.zeroCells z.cells (G - (n+m))).toList,by simp⟩,.inr ⟨Nat.le_refl _,by simp⟩⟩,fun b hb _=>heap_alloc_lt w.drew _ _ hb,⟨rfl,rfl,rfl,by simp⟩⟩
 simp only [Array.size_append,List.size_toArray,size_zeroCells,hzs,hlo,hln,← Nat.add_mul]
 congr 1
 omega
theorem app_new (ht:P.underlying t=some (.slice e)) (hi:P.info? e=some i) (hz:i.zero=some z) (hzs:z.cells.size=i.size)
  {a:Addr} {m c:Nat} {news:List Value} (hl:news.length=m * i.size) (hnews:∀ j u,news[j]? = some u→w.cell? (a.add j)=some u) (hm:0<m)
  (hb:m * i.bytes≤140737488355328) (h63:m≤9223372036854775807) :
  ∃ v w',(Builtin.append_ #[t,t] ty #[.slice none 0 0,.slice (some a) m c]).run P w=.ok v w'∧Appd w none e i.size m news v w':=by
 have hr:=run_append_nil (P:=P) w t ty e i z ht hi hz a m c news hl hnews hm (by omega) (by omega)
 refine ⟨_,_,hr,?_⟩
 have:=grown_alloc (w:=w) (e:=e) hz hzs (olds:=[]) (n:=0) (m:=m) (G:=grownCap w m 0 e) (by simp) hl (by simpa using grownCap_ge w m 0 e) (grownCap_le_maxLen w m 0 e (by simp only [maxLen]; omega)) none
 simpa using this
theorem app_old (ht:P.underlying t=some (.slice e)) (hi:P.info? e=some i) (hz:i.zero=some z) (hzs:z.cells.size=i.size)
  {blk n cap:Nat} {cur:Array Value} (hg:w.heap[blk]? = some (.cells cur e (0,0))) {olds l2:List Value} (hcur:cur.toList=olds++l2) (hlo:olds.length=n * i.size) (hcs:cur.size=cap * i.size) (hcm:cap≤maxLen)
  {a:Addr} {m c:Nat} {news:List Value} (hl:news.length=m * i.size) (hnews:∀ j u,news[j]? = some u→w.cell? (a.add j)=some u) (h1:∀ u∈news,u.oneCell'=true)
  (hb:(n+m) * i.bytes≤140737488355328) (h63:n+m≤9223372036854775807) :
  ∃ v w',(Builtin.append_ #[t,t] ty #[.slice (some ⟨blk,0,none⟩) n cap,.slice (some a) m c]).run P w=.ok v w'∧Appd w (some blk) e i.size (n+m) (olds++news) v w':=by
 by_cases hroom:n+m≤cap
 ·have hfit:n * i.size+news.length≤cur.size:=by rw [hl,hcs,← Nat.add_mul]; exact Nat.mul_le_mul_right _ hroom
  have hr:=run_append_room (P:=P) w t ty e i ht hi blk n cap cur hg a m c news hl hnews h1 hroom hfit
  refine ⟨_,_,hr,⟨⟨blk,0,cap,_,rfl,setRow_heap w blk cur _ e _ hg,hroom,hcm,.inl ⟨rfl,?_⟩,?_,.inl rfl⟩,fun b hb hne=>setRow_other w blk b _ (fun h=>hne (by rw [h])),⟨rfl,rfl,rfl,by simp⟩⟩⟩
  ·simp only [List.size_toArray,List.length_append,List.length_take,List.length_drop,Array.length_toList]
   omega
  ·refine ⟨cur.toList.drop (n * i.size+news.length),?_⟩
   have:cur.toList.take (n * i.size)=olds:=by rw [hcur,List.take_append_of_le_length (by omega),List.take_of_length_le (by omega)]
   simp only [this]
 ·have holds:∀ j u,olds[j]? = some u→w.cell? ((⟨blk,0,none⟩:Addr).add j)=some u:=fun j u hj=>by
   rw [Addr.add_lit]
   exact heap_cell hg (by rw [hcur,Nat.zero_add]; exact prefix_get hj)
  have hr:=run_append_grow (P:=P) w t ty e i z ht hi hz ⟨blk,0,none⟩ n cap olds hlo holds a m c news hl hnews (by omega) (by omega) (growslice_fits (by omega) hb)
  exact ⟨_,_,hr,grown_alloc hz hzs hlo hl (grownCap_ge w (n+m) cap e) (grownCap_le_maxLen w (n+m) cap e (by simp only [maxLen]; omega)) (some blk)⟩
theorem app_empty (ht:P.underlying t=some (.slice e)) (hi:P.info? e=some i) (hz:i.zero=some z) (hzs:z.cells.size=i.size) (b:Addr)
  {a:Addr} {m c:Nat} {news:List Value} (hl:news.length=m * i.size) (hnews:∀ j u,news[j]? = some u→w.cell? (a.add j)=some u) (hm:0<m)
  (hb:m * i.bytes≤140737488355328) (h63:m≤9223372036854775807) (old:Option Nat) :
  ∃ v w',(Builtin.append_ #[t,t] ty #[.slice (some b) 0 0,.slice (some a) m c]).run P w=.ok v w'∧Appd w old e i.size m news v w':=by
 have hr:=run_append_grow (P:=P) w t ty e i z ht hi hz b 0 0 [] (by simp) (by simp) a m c news hl hnews (by omega) (by omega) (by simpa using growslice_fits (old:=0) (by omega) hb)
 refine ⟨_,_,hr,?_⟩
 have:=grown_alloc (w:=w) (e:=e) hz hzs (olds:=[]) (n:=0) (m:=m) (G:=grownCap w (0+m) 0 e) (by simp) hl (grownCap_ge w (0+m) 0 e) (grownCap_le_maxLen w (0+m) 0 e (by simp only [maxLen]; omega)) old
 simpa using this
end
theorem putAt_length (l:List (Option Reg)) (n:Nat) (x:Option Reg):l.length≤(putAt l n x).length∧n<(putAt l n x).length:=by
 unfold putAt
 split
 ·simp; assumption
 ·simp; omega
theorem ups_le (s:St) (u:List (Nat × Option Reg)):s.rg.length≤(s.ups u).rg.length:=by
 induction u generalizing s with
 | nil=>exact Nat.le_refl _
 | cons x u ih=>obtain ⟨n,g⟩:=x; exact Nat.le_trans (putAt_length s.rg n g).1 (ih (s.setReg n g))
theorem ups_len {s:St} {u:List (Nat × Option Reg)} {n:Nat} {g:Option Reg} (h:(n,g)∈u):n<(s.ups u).rg.length:=by
 induction u generalizing s with
 | nil=>cases h
 | cons x u ih=>
   obtain ⟨m,y⟩:=x
   rcases List.mem_cons.1 h with h | h
   ·cases h; exact Nat.lt_of_lt_of_le (putAt_length s.rg n g).2 (ups_le (s.setReg n g) u)
   ·exact ih h
def EffQ (q:Nat) (Γ:Env) (s:St) (w:World) (nm:Nat) (x:Eff) (u:Value) (w' : World):Prop:=
 ∃ Γ',Ext Γ w Γ'∧SRel Γ' x.v u∧WRel Γ' (s.ups x.up).rg w'∧Wd w w'∧∀ n,Γ.μ n=none→¬ (nm≤n∧n<nm+q∧n<(s.ups x.up).rg.length)→Γ'.μ n=none
def EffOk (Γ:Env) (s:St) (w:World) (nm:Nat) (x:Eff) (u:Value) (w' : World):Prop:=EffQ 16 Γ s w nm x u w'
theorem EffOk.plain {Γ:Env} {s:St} {w:World} {nm:Nat} {v:NS} {u:Value} (hw:WRel Γ s.rg w) (h:SRel Γ v u):EffOk Γ s w nm {up:=[],v:=v} u w:=
 ⟨Γ,Ext.refl Γ w,h,hw,Wd.refl w,fun _ h _=>h⟩
theorem env_new_spec {Γ:Env} {nm:Nat} {B:Blk} {m:Nat} (hm:nm<m):∀ n,Γ.μ n=none→¬ (nm≤n∧n<nm+16∧n<m)→(Γ.add nm B).μ n=none:=by
 intro n h1 h2
 simp only [Env.add]
 rw [if_neg (by omega)]; exact h1
theorem EffOk.appdG {Γ:Env} {s:St} {w w' : World} {nm sz len:Nat} {gz:Reg} {vals:List Value} {e:TypeId} {v:Value} {old kl:Option Nat} (hw:WRel Γ s.rg w) (hnm:Γ.μ nm=none) (hk:∀ r,old=some r→kl=some r)
  (hold:∀ r,old=some r→∃ B,Γ.pt r=some B∧live s.rg r) (hbz:∀ l2,BodyRel Γ gz.st gz.body (vals++l2)) (hez:gz.e=e) (hsz:gz.st=sz)
  (ha:Appd w (old.bind fun r=>(Γ.pt r).map (·.blk)) e sz len vals v w') :
  EffOk Γ s w nm {up:=(match kl with | some r=>[(r,none)] | none=>[])++[(nm,some (gz))],v:=.v (.c (.h nm 0 len))} v w':=by
 obtain ⟨⟨blk,o,cap,cur,rfl,hcell,hnc,hcm,hcs,⟨l2,hl⟩,hblk⟩,hkeep,hwd⟩:=ha
 generalize hBn:Blk.all blk sz cur.size e=Bn
 have hgh:Bn.gh=false:=by rw [← hBn]; rfl
 have hbb:Bn.blk=blk:=by rw [← hBn]; rfl
 have hle:=Γ.le_add nm Bn hnm
 have hb:=(hbz l2).mono hle
 have he:=hez
 have hst:=hsz
 have hnew:(Γ.add nm Bn).pt nm=some Bn:=Env.add_pt hgh
 -- the regions that stay
 have hoth:∀ m g B,some m≠kl→s.rg[m]? = some (some g)→Γ.pt m=some B→B.blk≠blk∧w'.heap[B.blk]? = w.heap[B.blk]?:=by
  intro m g B hne hg hB
  obtain ⟨o,ho⟩:=hw.obj hB hg
  have:=heap_lt ho
  cases old with
  | none=>
    simp only [Option.bind_none,reduceCtorEq,false_or] at hblk
    exact ⟨by omega,hkeep _ this (by simp)⟩
  | some r=>
    obtain ⟨Br,hBr,hlr⟩:=hold r rfl
    have hd:B.blk≠Br.blk:=hw.inj m r B Br (fun h=>hne (by rw [h]; exact (hk r rfl).symm)) ⟨g,hg⟩ hlr hB hBr
    simp only [Option.bind_some,hBr,Option.map_some,Option.some.injEq] at hblk
    refine ⟨?_,hkeep _ this (by simp [hBr]; exact Ne.symm hd)⟩
    rcases hblk with rfl | ⟨h,-⟩
    ·exact hd
    ·omega
 have hkp:∀ b o,Γ.kp b=some o→b≠blk∧w'.heap[b]? = some o:=by
  intro b o hb
  have h1:=hw.kp b o hb
  cases old with
  | none=>
    simp only [Option.bind_none,reduceCtorEq,false_or] at hblk
    have:=heap_lt h1
    exact ⟨by omega,by rw [hkeep _ this (by simp)]; exact h1⟩
  | some r=>
    obtain ⟨Br,hBr,hlr⟩:=hold r rfl
    have hd:b≠Br.blk:=by rintro rfl; rw [hw.apart r Br hlr hBr] at hb; cases hb
    simp only [Option.bind_some,hBr,Option.map_some,Option.some.injEq] at hblk
    have:=heap_lt h1
    refine ⟨?_,by rw [hkeep _ this (by simp [hBr]; exact Ne.symm hd)]; exact h1⟩
    rcases hblk with rfl | ⟨h,-⟩
    ·exact hd
    ·omega
 -- the list of regions behind it
 have hrg:∀ m g,(s.ups ((match kl with | some r=>[(r,none)] | none=>[])++[(nm,some (gz))])).rg[m]? = some (some g)→(m=nm∧g=gz)∨(m≠nm∧some m≠kl∧s.rg[m]? = some (some g)):=by
  intro m g hm
  cases kl with
  | none=>
    simp only [List.nil_append,St.ups,St.setReg] at hm
    rcases (putAt_get _ _ _ _ _).1 hm with ⟨h1,h2⟩ | ⟨h1,h2⟩
    ·exact .inl ⟨h1,by simpa using h2.symm⟩
    ·exact .inr ⟨h1,by simp,h2⟩
  | some r=>
    simp only [List.cons_append,List.nil_append,St.ups,St.setReg] at hm
    rcases (putAt_get _ _ _ _ _).1 hm with ⟨h1,h2⟩ | ⟨h1,h2⟩
    ·exact .inl ⟨h1,by simpa using h2.symm⟩
    ·rcases (putAt_get _ _ _ _ _).1 h2 with ⟨_,h3⟩ | ⟨h3,h4⟩
     ·cases h3
     ·exact .inr ⟨h1,by simpa using h3,h4⟩
 refine ⟨Γ.add nm Bn,Ext.add hnm fun _=>?_,?_,?_,hwd,env_new_spec (ups_len (g:=some (gz)) (by simp))⟩
 ·rw [hbb]
  rcases hblk with h | ⟨h,-⟩
  ·right
   cases old with
   | none=>simp at h
   | some r=>
     obtain ⟨Br,hBr,-⟩:=hold r rfl
     simp only [Option.bind_some,hBr,Option.map_some,Option.some.injEq] at h
     exact ⟨r,Br,hBr,h⟩
  ·exact .inl h
 ·refine ⟨⟨Bn,o,cap,Env.add_wh hgh (by rw [← hBn]; rfl) (by rw [← hBn]; rfl),by rw [hbb],hnc,hcm,hcs.imp (fun h=>?_) id⟩,rfl⟩
  rw [← hBn]
  exact ⟨by simpa using h.1,by simpa using h.2.symm⟩
 ·refine ⟨fun m g hm=>?_,fun a b B B' hne la lb ea eb=>?_,fun b o hb=>(hkp b o hb).2,fun m B hm eB=>?_,hw.ro⟩
  ·rcases hrg m g hm with ⟨rfl,rfl⟩ | ⟨h1,h2,h3⟩
   ·refine ⟨_,Env.pt_μ hnew,?_⟩
    have h:=RegRel.all (Γ:=Γ.add m Bn) (g:=g) (w:=w') (b:=blk) (st:=sz) (sz:=cur.size) (c:=cur) (by rw [he]; exact hcell) hst.symm rfl (by rw [hl]; exact hb)
    rw [he,hBn] at h
    exact h
   ·obtain ⟨B,hB,hr⟩:=hw.live m g h3
    exact ⟨B,hle.μ _ _ hB,(hr.heap fun h0=>(hoth m g B h2 h3 (Env.pt_iff.2 ⟨hB,h0⟩)).2).mono hle⟩
  ·obtain ⟨ga,hga⟩:=la
   obtain ⟨gb,hgb⟩:=lb
   rcases hrg a ga hga with ⟨rfl,-⟩ | ⟨a1,a2,a3⟩ <;> rcases hrg b gb hgb with ⟨rfl,-⟩ | ⟨b1,b2,b3⟩
   ·exact (hne rfl).elim
   ·rw [hnew] at ea; cases ea
    rw [Env.add_other b1] at eb
    rw [hbb]
    exact Ne.symm (hoth b gb B' b2 b3 eb).1
   ·rw [hnew] at eb; cases eb
    rw [Env.add_other a1] at ea
    rw [hbb]
    exact (hoth a ga B a2 a3 ea).1
   ·rw [Env.add_other a1] at ea
    rw [Env.add_other b1] at eb
    exact hw.inj a b B B' hne ⟨ga,a3⟩ ⟨gb,b3⟩ ea eb
  ·obtain ⟨g,hg⟩:=hm
   rcases hrg m g hg with ⟨rfl,-⟩ | ⟨h1,h2,h3⟩
   ·rw [hnew] at eB; cases eB
    show Γ.kp Bn.blk=none
    rw [hbb]
    cases e:Γ.kp blk with
    | none=>rfl
    | some o=>exact ((hkp _ _ e).1 rfl).elim
   ·rw [Env.add_other h1] at eB
    exact hw.apart m B ⟨g,h3⟩ eB
theorem EffOk.appd {Γ:Env} {s:St} {w w' : World} {nm:Nat} {zs:Els} {e:TypeId} {v:Value} {old kl:Option Nat} (hw:WRel Γ s.rg w) (hnm:Γ.μ nm=none) (hk:∀ r,old=some r→kl=some r)
  (hold:∀ r,old=some r→∃ B,Γ.pt r=some B∧live s.rg r) (h0:0<zs.w)
  (ha:Appd w (old.bind fun r=>(Γ.pt r).map (·.blk)) e zs.w zs.length zs.vals v w') :
  EffOk Γ s w nm {up:=(match kl with | some r=>[(r,none)] | none=>[])++[(nm,some (zs.reg e))],v:=.v (.c (.h nm 0 zs.length))} v w':=
 EffOk.appdG hw hnm hk hold (fun l2=>(Els.reg_rel Γ zs e l2 h0).1) (Els.reg_rel Γ zs e [] h0).2.1 (Els.reg_rel Γ zs e [] h0).2.2 ha
theorem EffOk.told {Γ:Env} {s:St} {w w' : World} {nm:Nat} {up:List (Nat × Option Reg)} {x y:NS} {v:Value} (h:EffOk Γ s w nm {up:=up,v:=x} v w') (hx:∀ Γ',SRel Γ' x v→SRel Γ' y v):EffOk Γ s w nm {up:=up,v:=y} v w':=by
 obtain ⟨Γ',h1,h2,h3⟩:=h
 exact ⟨Γ',h1,hx Γ' h2,h3⟩
def Blk.none (w:World):Blk:=⟨w.heap.size,0,0,0,true,[],Option.none⟩
theorem WRel.ghost {Γ:Env} {rg:List (Option Reg)} {w:World} (h:WRel Γ rg w) {nm:Nat} {g:Reg} (hnm:Γ.μ nm=none) (hg:Ghost g):WRel (Γ.add nm (Blk.none w)) (putAt rg nm (some g)) w:=by
 have hle:=Γ.le_add nm (Blk.none w) hnm
 have hno:(Γ.add nm (Blk.none w)).pt nm=none:=by
  unfold Env.pt
  rw [Env.add_self]
  rfl
 have hpt:∀ {m B},(Γ.add nm (Blk.none w)).pt m=some B→m≠nm∧Γ.pt m=some B:=fun {m B} hB=>by
  by_cases e:m=nm
  ·subst e; rw [hno] at hB; cases hB
  ·rw [Env.add_other e] at hB; exact ⟨e,hB⟩
 have hl:∀ m,m≠nm→Nx.live (putAt rg nm (some g)) m→Nx.live rg m:=fun m e hm=>by
  rcases (putAt_live _ _ _ _).1 hm with ⟨h1,-⟩ | ⟨-,h1⟩
  ·exact (e h1).elim
  ·exact h1
 refine ⟨fun m g' hm=>?_,fun a b B B' hne la lb ea eb=>?_,h.kp,fun m B hm eB=>?_,h.ro⟩
 ·rcases (putAt_get _ _ _ _ _).1 hm with ⟨rfl,e⟩ | ⟨hne,e⟩
  ·cases e
   exact ⟨_,Env.add_self _ _ _,.inl ⟨rfl,hg⟩⟩
  ·obtain ⟨B,h1,h2⟩:=h.live m g' e
   exact ⟨B,hle.μ _ _ h1,h2.mono hle⟩
 ·obtain ⟨a1,a2⟩:=hpt ea
  obtain ⟨b1,b2⟩:=hpt eb
  exact h.inj a b B B' hne (hl a a1 la) (hl b b1 lb) a2 b2
 ·obtain ⟨a1,a2⟩:=hpt eB
  exact h.apart m B (hl m a1 hm) a2
theorem EffOk.ghost {Γ:Env} {s:St} {w:World} {nm r:Nat} {g:Reg} (hw:WRel Γ s.rg w) (hnm:Γ.μ nm=none) (hg:Ghost g):EffOk Γ s w nm {up:=[(r,none),(nm,some g)],v:=.v (.c (.hz nm 0))} (.slice none 0 0) w:=
 ⟨Γ.add nm (Blk.none w),Ext.add hnm (fun h=>by cases h),⟨.inl ⟨rfl,rfl,_,Env.add_self _ _ _⟩,rfl⟩,(hw.kill r).ghost hnm hg,Wd.refl w,env_new_spec (ups_len (g:=some g) (by simp))⟩
section
variable {P:Program} {e t u ty:TypeId} {i:TypeInfo} {zv:Value} {k kn kx:IntKind} {z:Int}
theorem zc_list (hzv:zv.cells=#[.int k z]) (j:Nat):Builtin.zeroCells zv.cells j=(List.replicate j (Value.int k z)).toArray:=by
 apply Array.ext'
 rw [hzv]
 apply List.ext_getElem?
 intro q
 simp only [Builtin.zeroCells,List.getElem?_replicate]
 by_cases hqj:q<j
 ·simp [hqj,Nat.mod_one]
 ·simp [hqj]
theorem room_zeros (w:World) (ht:P.underlying t=some (.slice e)) (hu:P.underlying u=some (.int kn)) (hi:P.info? e=some i) (hz:i.zero=some zv) (hs1:i.size=1) (hzv:zv.cells=#[.int k z])
  (g sLen sCap:Nat) (cur:Array Value) (hg:w.heap[g]? = some (.cells cur e (0,0))) (m:Nat) (h0:0<m) (h63:(m:Int)≤9223372036854775807) (h48:m * i.bytes≤281474976710656)
  (hroom:sLen+m≤sCap) (hfit:sLen+m≤cur.size) :
  (Builtin.append_ #[t,u] ty #[.slice (some ⟨g,0,none⟩) sLen sCap,.int kx m]).run P w =
    .ok (.slice (some ⟨g,0,none⟩) (sLen+m) sCap) (w.setRow g (cur.toList.take sLen++List.replicate m (Value.int k z)++cur.toList.drop (sLen+m)).toArray):=by
 have hw:IntKind.i64.wrap (m:Int)=m:=by rw [IntKind.wrap_i64]; omega
 have hn:m≠0:=by omega
 have h48i:¬ (281474976710656<(m:Int) * (i.bytes:Int)):=by
  rw [← Int.natCast_mul]
  omega
 have hneg:¬ ((m:Int)<0):=by omega
 have hst:=run_storeCells_at P g sLen e (List.replicate m (Value.int k z)) 0 cur w hg (by simpa using hfit) (fun v hv=>by rw [List.eq_of_mem_replicate hv]; rfl)
 simp only [Nat.add_zero,List.length_replicate] at hst
 have hc:∀ j,Builtin.zeroCells #[Value.int k z] j=(List.replicate j (Value.int k z)).toArray:=fun j=>by rw [← hzv]; exact zc_list hzv j
 simp [Builtin.append_,run_underlying ht,run_underlying hu,sizeOf,typeInfo,zeroValue,hi,hz,hs1,hzv,asInt,asIntOf,hw,hn,hneg,h48i,hroom,hc,Addr.add_lit,hst]
theorem grow_zeros (w:World) (ht:P.underlying t=some (.slice e)) (hu:P.underlying u=some (.int kn)) (hi:P.info? e=some i) (hz:i.zero=some zv) (hs1:i.size=1) (hzv:zv.cells=#[.int k z])
  (b:Addr) (sLen sCap:Nat) (olds:List Value) (hlo:olds.length=sLen) (holds:∀ j v,olds[j]? = some v→w.cell? (b.add j)=some v) (m:Nat) (h0:0<m) (h48:m * i.bytes≤281474976710656)
  (hgr:sCap<sLen+m) (h63:((sLen+m:Nat):Int)≤9223372036854775807) (hfit:Builtin.nextslicecap (sLen+m) sCap * i.bytes≤281474976710656) :
  (Builtin.append_ #[t,u] ty #[.slice (some b) sLen sCap,.int kx m]).run P w =
    .ok (.slice (some ⟨w.heap.size,0,none⟩) (sLen+m) (grownCap w (sLen+m) sCap e))
     (w.drew.alloc (.cells (olds.toArray++(List.replicate m (Value.int k z)).toArray++Builtin.zeroCells zv.cells (grownCap w (sLen+m) sCap e - (sLen+m))) e)):=by
 have hw:IntKind.i64.wrap (m:Int)=m:=by rw [IntKind.wrap_i64]; omega
 have hn:m≠0:=by omega
 have h48i:¬ (281474976710656<(m:Int) * (i.bytes:Int)):=by
  rw [← Int.natCast_mul]
  omega
 have hneg:¬ ((m:Int)<0):=by omega
 have hn2:¬ (sLen+m≤sCap):=by omega
 have h63' : ¬ (9223372036854775807<((sLen:Int)+(m:Int))):=by omega
 have h48' : ¬ (281474976710656<Builtin.nextslicecap (sLen+m) sCap * i.bytes):=by omega
 have hfo:=run_firstCells_some (P:=P) w.drew 1 sLen b sLen sCap olds (by omega) (by simpa using holds)
 have hc:∀ j,Builtin.zeroCells #[Value.int k z] j=(List.replicate j (Value.int k z)).toArray:=fun j=>by rw [← hzv]; exact zc_list hzv j
 simp [Builtin.append_,run_underlying ht,run_underlying hu,sizeOf,typeInfo,zeroValue,hi,hz,hs1,hzv,asInt,asIntOf,hw,hn,hn2,hneg,h48i,h63',h48',hc,Question.forced,hfo,newRow,grownCap]
theorem app_old_zeros {w:World} (ht:P.underlying t=some (.slice e)) (hu:P.underlying u=some (.int kn)) (hi:P.info? e=some i) (hz:i.zero=some zv) (hs1:i.size=1) (hzv:zv.cells=#[.int k z])
  {blk n cap:Nat} {cur:Array Value} (hg:w.heap[blk]? = some (.cells cur e (0,0))) {olds l2:List Value} (hcur:cur.toList=olds++l2) (hlo:olds.length=n) (hcs:cur.size=cap) (hcm:cap≤maxLen) {m:Nat} (h0:0<m)
  (hb:(n+m) * i.bytes≤140737488355328) (h63:n+m≤9223372036854775807) :
  ∃ v w',(Builtin.append_ #[t,u] ty #[.slice (some ⟨blk,0,none⟩) n cap,.int kx m]).run P w=.ok v w'∧Appd w (some blk) e 1 (n+m) (olds++List.replicate m (.int k z)) v w':=by
 have hmb:m * i.bytes≤(n+m) * i.bytes:=Nat.mul_le_mul_right _ (by omega)
 by_cases hroom:n+m≤cap
 ·have hr:=room_zeros (P:=P) (ty:=ty) (kx:=kx) w ht hu hi hz hs1 hzv blk n cap cur hg m h0 (by omega) (by omega) hroom (by omega)
  refine ⟨_,_,hr,⟨⟨blk,0,cap,_,rfl,setRow_heap w blk cur _ e _ hg,hroom,hcm,.inl ⟨rfl,?_⟩,?_,.inl rfl⟩,fun b hb hne=>setRow_other w blk b _ (fun h=>hne (by rw [h])),⟨rfl,rfl,rfl,by simp⟩⟩⟩
  ·simp only [List.size_toArray,List.length_append,List.length_take,List.length_drop,Array.length_toList,List.length_replicate]
   omega
  ·refine ⟨cur.toList.drop (n+m),?_⟩
   have:cur.toList.take n=olds:=by rw [hcur,List.take_append_of_le_length (by omega),List.take_of_length_le (by omega)]
   simp only [this]
 ·have holds:∀ j v,olds[j]? = some v→w.cell? ((⟨blk,0,none⟩:Addr).add j)=some v:=fun j v hj=>by
   rw [Addr.add_lit]
   exact heap_cell hg (by rw [hcur,Nat.zero_add]; exact prefix_get hj)
  have hr:=grow_zeros (P:=P) (ty:=ty) (kx:=kx) w ht hu hi hz hs1 hzv ⟨blk,0,none⟩ n cap olds hlo holds m h0 (by omega) (by omega) (by omega) (growslice_fits (by omega) hb)
  have hga:=grown_alloc (w:=w) (e:=e) hz (by rw [hzv,hs1]; rfl) (olds:=olds) (n:=n) (m:=m) (G:=grownCap w (n+m) cap e) (news:=List.replicate m (Value.int k z)) (by rw [hs1]; omega) (by rw [hs1]; simp) (grownCap_ge w (n+m) cap e) (grownCap_le_maxLen w (n+m) cap e (by simp only [maxLen]; omega)) (some blk)
  rw [hs1] at hga
  exact ⟨_,_,hr,hga⟩
theorem app_empty_zeros {w:World} (ht:P.underlying t=some (.slice e)) (hu:P.underlying u=some (.int kn)) (hi:P.info? e=some i) (hz:i.zero=some zv) (hs1:i.size=1) (hzv:zv.cells=#[.int k z])
  (b:Addr) {m:Nat} (h0:0<m) (hb:m * i.bytes≤140737488355328) (h63:m≤9223372036854775807) (old:Option Nat) :
  ∃ v w',(Builtin.append_ #[t,u] ty #[.slice (some b) 0 0,.int kx m]).run P w=.ok v w'∧Appd w old e 1 (0+m) (List.replicate m (.int k z)) v w':=by
 have hr:=grow_zeros (P:=P) (ty:=ty) (kx:=kx) w ht hu hi hz hs1 hzv b 0 0 [] rfl (by simp) m h0 (by omega) (by omega) (by omega) (by simpa using growslice_fits (old:=0) (by omega) hb)
 have hga:=grown_alloc (w:=w) (e:=e) hz (by rw [hzv,hs1]; rfl) (olds:=[]) (n:=0) (m:=m) (G:=grownCap w (0+m) 0 e) (news:=List.replicate m (Value.int k z)) (by simp) (by rw [hs1]; simp) (grownCap_ge w (0+m) 0 e) (grownCap_le_maxLen w (0+m) 0 e (by simp only [maxLen]; omega)) old
 rw [hs1] at hga
 exact ⟨_,_,hr,by simpa using hga⟩
end
theorem nzeros_sound {P:Program} {s:St} {Γ:Env} {w:World} {t u ty:TypeId} {x y:NC} {vx vy:Value} {nm:Nat} {R:Eff→Prop} (hw:WRel Γ s.rg w) (hnm:Γ.μ nm=none)
  (hx:CR Γ x vx) (hy:CR Γ y vy) (h:(nzeros P s t u x y nm).run R) :
  ∃ ef v w',R ef∧(Builtin.append_ #[t,u] ty #[vx,vy]).run P w=.ok v w'∧EffOk Γ s w nm ef v w':=by
 unfold nzeros at h
 split at h
 case h_2=>exact h.elim
 rename_i e kn k n ht hu
 obtain ⟨rfl,-⟩:=hy
 split at h
 ·obtain ⟨rfl,-⟩:=hx
  split at h
  case h_2=>exact h.elim
  rename_i k' z hz
  obtain ⟨hc,h⟩:=(chkT_run _ _ _).1 h
  have hc' : 0<n∧n.toNat * bytesT P e≤140737488355328∧n≤9223372036854775807:=by simpa [allT] using hc
  obtain ⟨i,v,hi,hv,hsz,hs⟩:=zeroCells_spec hz
  obtain ⟨q,hq1,hq2⟩:=R2.one (scals_rel (Γ:=Γ) hs)
  have hq:q=.int k' z:=hq2.1
  have hvc:v.cells=#[.int k' z]:=by rw [← Array.toArray_toList (xs:=v.cells),hq1,hq]
  have hs1:i.size=1:=by
   have:sizeT P e=1:=by rw [← hsz,hvc]; rfl
   simpa [sizeT,hi] using this
  have hby:bytesT P e=i.bytes:=by simp [bytesT,hi]
  rw [hby] at hc'
  obtain ⟨m,rfl⟩:∃ m:Nat,n=(m:Int):=⟨n.toNat,by omega⟩
  have hm:((m:Int)).toNat=m:=by simp
  rw [hm] at hc' h
  have hr:=Lib.run_append_nil_zeros (P:=P) w t u ty e i v k kn ht hu hi hv m (by omega) (by omega) hc'.2.2 (by omega)
  refine ⟨_,_,_,h,hr,?_⟩
  have hzc:∀ j,(Builtin.zeroCells v.cells j).toList=List.replicate j (.int k' z):=fun j=>by
   rw [hvc]
   apply List.ext_getElem?
   intro q
   simp only [Builtin.zeroCells,List.getElem?_replicate]
   by_cases hqj:q<j
   ·simp [hqj,Nat.mod_one]
   ·simp [hqj]
  have ha:Appd w ((none:Option Nat).bind fun r=>(Γ.pt r).map (·.blk)) e (Els.ints k' (List.replicate m z)).w (Els.ints k' (List.replicate m z)).length (Els.ints k' (List.replicate m z)).vals (.slice (some ⟨w.heap.size,0,none⟩) m (grownCap w m 0 e)) (w.drew.alloc (.cells (Builtin.zeroCells v.cells m++Builtin.zeroCells v.cells (grownCap w m 0 e - m)) e)):=by
   have hg:=grown_alloc (w:=w) (e:=e) hv (by rw [hvc,hs1]; rfl) (olds:=[]) (n:=0) (m:=m) (G:=grownCap w m 0 e) (news:=List.replicate m (.int k' z)) (by simp) (by simp [hs1]) (by simpa using grownCap_ge w m 0 e) (grownCap_le_maxLen w m 0 e (by simp only [maxLen]; omega)) none
   rw [Nat.zero_add,List.nil_append,hs1] at hg
   have e1:([]:List Value).toArray++(List.replicate m (Value.int k' z)).toArray=Builtin.zeroCells v.cells m:=by
    apply Array.ext'
    rw [hzc]
    simp
   rw [e1] at hg
   show Appd w none e 1 (List.replicate m z).length ((List.replicate m z).map (.int k')) _ _
   rw [List.length_replicate,List.map_replicate]
   exact hg
  have:=EffOk.appd (s:=s) (nm:=nm) (old:=none) (kl:=none) hw hnm (fun r h=>by cases h) (fun r h=>by cases h) (by simp [Els.w]) ha
  simpa [Els.length] using this
 ·rename_i r off len
  split at h
  case h_2=>exact h.elim
  rename_i k' z d k2 xs g hz hels hg
  split at h
  case isFalse=>exact h.elim
  rename_i hge
  obtain ⟨hge,rfl⟩:=hge
  obtain ⟨hd,h⟩:=(chkT_run _ _ _).1 h
  obtain ⟨hc,h⟩:=(chkT_run _ _ _).1 h
  have hc' : 0<n∧(len+n.toNat) * bytesT P e≤140737488355328∧len+n.toNat≤9223372036854775807:=by simpa [allT] using hc
  obtain ⟨i,v,hi,hv,hsz,hs⟩:=zeroCells_spec hz
  obtain ⟨q,hq1,hq2⟩:=R2.one (scals_rel (Γ:=Γ) hs)
  have hq:q=.int k' z:=hq2.1
  have hvc:v.cells=#[.int k' z]:=by rw [← Array.toArray_toList (xs:=v.cells),hq1,hq]
  have hs1:i.size=1:=by
   have:sizeT P e=1:=by rw [← hsz,hvc]; rfl
   simpa [sizeT,hi] using this
  have hby:bytesT P e=i.bytes:=by simp [bytesT,hi]
  rw [hby] at hc'
  obtain ⟨m,rfl⟩:∃ m:Nat,n=(m:Int):=⟨n.toNat,by omega⟩
  have hm:((m:Int)).toNat=m:=by simp
  rw [hm] at hc' h
  have hgl:=(reg_eq s r g).1 hg
  obtain ⟨⟨B,o,cap,hB,rfl,hlc,hcm,hcap⟩,-⟩:=hx
  obtain ⟨cs,hcs,hst,hszB,hbody⟩:=hw.atW hB hgl
  have hxl:xs.length=len∧g.st=1∧∃ l2,cs.toList=xs.map (.int k')++l2:=by
   unfold els at hels
   simp only [hg] at hels
   split at hels
   ·rename_i kk l hb
    cases hels
    rw [hb] at hbody
    obtain ⟨h1,l2,hl⟩:=hbody
    have hlen:0+len≤l.length:=by simpa [allT] using hd
    refine ⟨by simp; omega,h1,(l.drop len).map (.int k')++l2,?_⟩
    rw [hl]
    simp only [List.drop_zero]
    rw [← List.append_assoc,← List.map_append,List.take_append_drop]
   ·cases hels
   ·cases hels
   ·cases hels
   ·cases hels
   ·cases hels
  obtain ⟨hxl,hg1,l2,hcl⟩:=hxl
  have hgheap:w.heap[B.blk]? = some (.cells cs e (0,0)):=by rw [hcs,hge]
  have hblk:((some r).bind fun r=>(Γ.pt r).map (·.blk))=some B.blk:=by simp [Env.wh_pt hB]
  have hoks:∀ q,some r=some q→∃ B,Γ.pt q=some B∧live s.rg q:=fun q hq=>by cases hq; exact ⟨B,Env.wh_pt hB,g,hgl⟩
  have fin:∀ {v:Value} {w' : World} {vv:Value},(Builtin.append_ #[t,u] ty #[vv,.int k m]).run P w=.ok v w'→Appd w (some B.blk) e 1 (len+m) (xs.map (.int k')++List.replicate m (.int k' z)) v w'→
    ∃ ef u2 w',R ef∧(Builtin.append_ #[t,u] ty #[vv,.int k m]).run P w=.ok u2 w'∧EffOk Γ s w nm ef u2 w':=by
   intro v w' vv hrun ha
   rw [← hblk] at ha
   have hl2:(Els.ints k' (xs++List.replicate m z)).length=len+m:=by simp [Els.length,hxl]
   have ha2:Appd w ((some r).bind fun r=>(Γ.pt r).map (·.blk)) e (Els.ints k' (xs++List.replicate m z)).w (Els.ints k' (xs++List.replicate m z)).length (Els.ints k' (xs++List.replicate m z)).vals v w':=by
    rw [hl2]
    show Appd w _ e 1 (len+m) ((xs++List.replicate m z).map (.int k')) v w'
    rw [List.map_append,List.map_replicate]
    exact ha
   have:=EffOk.appd (s:=s) (nm:=nm) (old:=some r) (kl:=some r) hw hnm (fun _ h=>h) hoks (by simp [Els.w]) ha2
   rw [hl2] at this
   exact ⟨_,v,w',h,hrun,this⟩
  have hxm:(xs.map (Value.int k')).length=len:=by rw [List.length_map]; exact hxl
  rcases hcap with ⟨rfl,hcz⟩ | hcz
  ·simp only [Nat.zero_mul,Nat.zero_add] at hcz ⊢
   obtain ⟨v',w',hrun,ha⟩:=app_old_zeros (P:=P) (ty:=ty) (kx:=k) (w:=w) ht hu hi hv hs1 hvc hgheap hcl hxm (cap:=cap) (by rw [hszB,← hcz,hst,hg1,Nat.mul_one]) hcm (m:=m) (by omega) hc'.2.1 hc'.2.2
   exact fin hrun ha
  ·have hl0:len=0:=by omega
   subst hl0
   subst hcz
   have hxn:xs.map (Value.int k')=[]:=List.eq_nil_of_length_eq_zero hxm
   obtain ⟨v',w',hrun,ha⟩:=app_empty_zeros (P:=P) (ty:=ty) (kx:=k) (w:=w) ht hu hi hv hs1 hvc ⟨B.blk,o,none⟩ (m:=m) (by omega) (by simpa using hc'.2.1) (by simpa using hc'.2.2) (some B.blk)
   refine fin hrun ?_
   rw [hxn]
   exact ha
 ·exact h.elim
theorem nappend_row {P:Program} {s:St} {Γ:Env} {w:World} {t ty e:TypeId} {y:NC} {vx vy:Value} {nm r len:Nat} {g:Reg} {xs ys zs:Els} {c d:List Bool} (hw:WRel Γ s.rg w) (hnm:Γ.μ nm=none)
  (hx:CR Γ (.h r 0 len) vx) (hy:CR Γ y vy) (ht:P.underlying t=some (.slice e)) (hys:els s y=some (c,ys)) (hfit:ys.fits P e=true) (hxs:els s (.h r 0 len)=some (d,xs)) (hg:s.reg r=some g) (hzs' : xs.app ys=some zs)
  (hge:g.e=e∧xs.fits P e=true) (hc:allT c) (hd:allT d) (hc2:allT (appConds P e (len+ys.length))) :
  ∃ u w',(Builtin.append_ #[t,t] ty #[vx,vy]).run P w=.ok u w'∧EffOk Γ s w nm {up:=[(r,none),(nm,some (zs.reg e))],v:=.v (.c (.h nm 0 (len+ys.length)))} u w':=by
 obtain ⟨a,cap2,rfl,hlc2,hcells⟩:=els_sound hw hy hys hc
 obtain ⟨hc3,hc4⟩:=allT_two hc2
 obtain ⟨i,z,hi,hz,hzs,hsz,h0,hby⟩:=Els.fits_spec hfit
 obtain ⟨e1,e2,e3,-⟩:=Els.app_spec hzs'
 have hgl:=(reg_eq s r g).1 hg
 obtain ⟨⟨B,o,cap,hB,rfl,hlc,hcm,hcap⟩,-⟩:=hx
 obtain ⟨cs,hcs,hst,hszB,hbody⟩:=hw.atW hB hgl
 -- the old elements
 have hxl:xs.length=len∧xs.w=g.st∧∃ l2,cs.toList=xs.vals++l2:=by
  unfold els at hxs
  simp only [hg] at hxs
  split at hxs
  ·rename_i k l hb
   cases hxs
   rw [hb] at hbody
   obtain ⟨h1,l2,hl⟩:=hbody
   have hlen:0+len≤l.length:=by simpa [allT] using hd
   refine ⟨by simp [Els.length]; omega,h1.symm,(l.drop len).map (.int k)++l2,?_⟩
   rw [hl]
   simp only [Els.vals,List.drop_zero]
   rw [← List.append_assoc,← List.map_append,List.take_append_drop]
  ·rename_i ks l hb
   cases hxs
   rw [hb] at hbody
   obtain ⟨h1,h2,l2,hl⟩:=hbody
   have hlen:0+len≤l.length:=by simpa [allT] using hd
   refine ⟨by simp [Els.length]; omega,h1.symm,rowsV ks (l.drop len)++l2,?_⟩
   rw [hl]
   simp only [Els.vals,List.drop_zero]
   rw [← List.append_assoc]
   congr 1
   rw [← rowsV_take,← rowsV_drop,List.take_append_drop]
  ·cases hxs
  ·cases hxs
  ·cases hxs
  ·cases hxs
 obtain ⟨hxl,hxw,l2,hcl⟩:=hxl
 have hyw:ys.w=xs.w:=by
  cases xs <;> cases ys <;> simp only [Els.app,reduceCtorEq] at hzs'
  ·rfl
  ·split at hzs'
   ·rename_i ee; subst ee; rfl
   ·cases hzs'
 have hzw:zs.w=i.size:=by rw [e3,← hyw,← hsz]
 have hzl:zs.length=len+ys.length:=by rw [e2,hxl]
 have hz0:0<zs.w:=by rw [e3,← hyw]; exact h0
 have hblk:((some r).bind fun r=>(Γ.pt r).map (·.blk))=some B.blk:=by simp [Env.wh_pt hB]
 have hoks:∀ q,some r=some q→∃ B,Γ.pt q=some B∧live s.rg q:=fun q hq=>by cases hq; exact ⟨B,Env.wh_pt hB,g,hgl⟩
 have fin:∀ {v:Value} {w' : World} {vv:Value},(Builtin.append_ #[t,t] ty #[vv,.slice a ys.length cap2]).run P w=.ok v w'→Appd w (some B.blk) e i.size (len+ys.length) (xs.vals++ys.vals) v w'→
   ∃ u w',(Builtin.append_ #[t,t] ty #[vv,.slice a ys.length cap2]).run P w=.ok u w'∧EffOk Γ s w nm {up:=[(r,none),(nm,some (zs.reg e))],v:=.v (.c (.h nm 0 (len+ys.length)))} u w':=by
  intro v w' vv hrun ha
  rw [← e1,← hzl,← hzw,← hblk] at ha
  have:=EffOk.appd (old:=some r) (kl:=some r) hw hnm (fun _ h=>h) hoks hz0 ha
  rw [hzl] at this
  exact ⟨v,w',hrun,this⟩
 have hxv:xs.vals.length=len * i.size:=by rw [xs.vals_length,hxl,← hzw,e3]
 have hyv:ys.vals.length=ys.length * i.size:=by rw [ys.vals_length,← hsz]
 have hgheap:w.heap[B.blk]? = some (.cells cs e (0,0)):=by rw [hcs,hge.1]
 have hsz2:g.st=i.size:=by rw [← hxw,← hyw,← hsz]
 by_cases hy0:ys.length=0
 ·-- nothing comes: it stays where it is
  have hrun:=run_append_zero (w:=w) (ty:=ty) ht hi (some ⟨B.blk,o,none⟩) a len cap cap2 hlc
  have hyn:ys.vals=[]:=List.eq_nil_of_length_eq_zero (by rw [hyv,hy0]; simp)
  have happ:Appd w (some B.blk) e i.size (len+ys.length) (xs.vals++ys.vals) (.slice (some ⟨B.blk,o,none⟩) len cap) w:=by
   rw [hyn,hy0,Nat.add_zero,List.append_nil]
   exact ⟨⟨B.blk,o,cap,cs,rfl,hgheap,hlc,hcm,hcap.imp (fun h=>⟨by rw [h.1,Nat.zero_mul],by rw [hszB,← h.2,Nat.zero_add,hst,hsz2]⟩) id,⟨l2,hcl⟩,.inl rfl⟩,fun _ _ _=>rfl,Wd.refl w⟩
  exact fin (by rw [hy0]; exact hrun) happ
 ·rcases hcells with hcells | ⟨blk,off,rfl,hcells⟩
  ·exact (hy0 hcells).elim
  rcases hcap with ⟨rfl,hcz⟩ | hcz
  ·simp only [Nat.zero_mul,Nat.zero_add] at hcz ⊢
   obtain ⟨v,w',hrun,ha⟩:=app_old (w:=w) (ty:=ty) ht hi hz hzs hgheap hcl hxv (cap:=cap) (by rw [hszB,← hcz,hst,hsz2]) hcm (a:=⟨blk,off,none⟩) (m:=ys.length) (c:=cap2) (news:=ys.vals) hyv
    (fun j u hj=>by rw [Addr.add_lit]; exact hcells j u hj) ys.vals_one (by rw [hby]; exact hc3) hc4
   exact fin hrun ha
  ·have hl0:len=0:=by omega
   subst hl0
   subst hcz
   have hxn:xs.vals=[]:=List.eq_nil_of_length_eq_zero (by rw [hxv]; simp)
   obtain ⟨v,w',hrun,ha⟩:=app_empty (w:=w) (ty:=ty) ht hi hz hzs ⟨B.blk,o,none⟩ (a:=⟨blk,off,none⟩) (m:=ys.length) (c:=cap2) (news:=ys.vals) hyv
    (fun j u hj=>by rw [Addr.add_lit]; exact hcells j u hj) (by omega) (by rw [hby]; simpa using hc3) (by simpa using hc4) (some B.blk)
   exact fin hrun (by rw [hxn]; simpa using ha)
theorem nappend_sound {P:Program} {s:St} {Γ:Env} {w:World} {t ty:TypeId} {x y:NC} {vx vy:Value} {nm:Nat} {R:Eff→Prop} (hw:WRel Γ s.rg w) (hnm:Γ.μ nm=none)
  (hx:CR Γ x vx) (hy:CR Γ y vy) (h:(nappend P s t x y nm).run R) :
  ∃ ef u w',R ef∧(Builtin.append_ #[t,t] ty #[vx,vy]).run P w=.ok u w'∧EffOk Γ s w nm ef u w':=by
 unfold nappend at h
 split at h
 case h_2=>exact h.elim
 rename_i e ht
 split at h
 ·-- nothing is appended
  obtain ⟨rfl,-⟩:=hy
  split at h
  case isFalse=>exact h.elim
  rename_i hs
  obtain ⟨i,hi,-⟩:=info_of_size hs
  split at h
  ·obtain ⟨rfl,-⟩:=hx
   exact ⟨_,_,_,h,run_append_zero ht hi none none 0 0 0 (Nat.le_refl _),EffOk.plain hw ⟨rfl,rfl⟩⟩
  ·rename_i r off len
   have hx':=hx
   obtain ⟨⟨B,o,cap,hB,rfl,hlc,hcm,hcap⟩,-⟩:=hx'
   exact ⟨_,_,_,h,run_append_zero ht hi _ none len cap 0 hlc,EffOk.plain hw hx⟩
  ·rename_i r len
   have hx':=hx
   obtain ⟨⟨rfl,rfl,-⟩ | ⟨B,o,cap,hB,rfl,hlc,hcm,hcap⟩,-⟩:=hx'
   ·exact ⟨_,_,_,h,run_append_zero ht hi none none 0 0 0 (Nat.le_refl _),EffOk.plain hw hx⟩
   ·exact ⟨_,_,_,h,run_append_zero ht hi _ none len cap 0 hlc,EffOk.plain hw hx⟩
  ·exact h.elim
 ·split at h
  case h_2=>exact h.elim
  rename_i c ys hys
  split at h
  case isFalse=>exact h.elim
  rename_i hfit
  obtain ⟨i,z,hi,hz,hzs,hsz,h0,hby⟩:=Els.fits_spec hfit
  split at h
  ·-- onto nil
   obtain ⟨rfl,-⟩:=hx
   obtain ⟨hc,h⟩:=(chkT_run _ _ _).1 h
   obtain ⟨a,cap,rfl,hlc,hcells⟩:=els_sound hw hy hys hc
   simp only [Tr.run] at h
   rcases sel_iff.1 h with ⟨h1,h⟩ | ⟨h1,h⟩
   ·have hl0:ys.length=0:=by simpa using h1
    rw [hl0]
    exact ⟨_,_,_,h,run_append_zero ht hi none a 0 0 cap (Nat.le_refl _),EffOk.plain hw ⟨rfl,rfl⟩⟩
   ·have hl0:ys.length≠0:=by simpa using h1
    obtain ⟨hc2,h⟩:=(chkT_run _ _ _).1 h
    obtain ⟨hc3,hc4⟩:=allT_two hc2
    rcases hcells with hcells | ⟨blk,off,rfl,hcells⟩
    ·exact (hl0 hcells).elim
    obtain ⟨v,w',hrun,ha⟩:=app_new (w:=w) (ty:=ty) ht hi hz hzs (a:=⟨blk,off,none⟩) (m:=ys.length) (c:=cap) (news:=ys.vals) (by rw [ys.vals_length,hsz])
     (fun j u hj=>by rw [Addr.add_lit]; exact hcells j u hj) (by omega) (by rw [hby]; exact hc3) hc4
    refine ⟨_,v,w',h,hrun,EffOk.appd (old:=none) (kl:=none) hw hnm (fun _ h=>by cases h) (fun _ h=>by cases h) h0 (by rw [hsz] at ha; exact ha)⟩
  ·-- onto a row of the call's own
   rename_i r off len
   split at h
   case h_2=>exact h.elim
   rename_i d xs g hxs hg
   split at h
   case h_2=>exact h.elim
   rename_i zs hzs'
   split at h
   case isFalse=>exact h.elim
   rename_i hge
   obtain ⟨hc,h⟩:=(chkT_run _ _ _).1 h
   obtain ⟨hd,h⟩:=(chkT_run _ _ _).1 h
   obtain ⟨hc2,h⟩:=(chkT_run _ _ _).1 h
   obtain ⟨u,w',h1,h2⟩:=nappend_row (ty:=ty) hw hnm hx hy ht hys hfit hxs hg hzs' hge hc hd hc2
   exact ⟨_,u,w',h,h1,h2⟩
  ·-- onto a row that may be nil
   rename_i r len
   split at h
   case h_2=>exact h.elim
   rename_i d xs g hxs hg
   split at h
   case h_2=>exact h.elim
   rename_i zs hzs'
   split at h
   case isFalse=>exact h.elim
   rename_i hge
   obtain ⟨hc,h⟩:=(chkT_run _ _ _).1 h
   obtain ⟨hd,h⟩:=(chkT_run _ _ _).1 h
   obtain ⟨hc2,h⟩:=(chkT_run _ _ _).1 h
   have hrow:∃ d',els s (.h r 0 len)=some (d',xs)∧allT d':=by
    unfold els at hxs ⊢
    simp only [hg] at hxs ⊢
    split at hxs
    ·rename_i k l hb
     cases hxs
     have:len≤l.length:=by simpa [allT] using hd
     exact ⟨[decide (0+len≤l.length)],by rw [hb]; rfl,fun b hb=>by rw [List.mem_singleton] at hb; subst hb; exact decide_eq_true (by omega)⟩
    ·rename_i ks l hb
     cases hxs
     have:len≤l.length:=by simpa [allT] using hd
     exact ⟨[decide (0+len≤l.length)],by rw [hb]; rfl,fun b hb=>by rw [List.mem_singleton] at hb; subst hb; exact decide_eq_true (by omega)⟩
    ·cases hxs
   obtain ⟨hx1,hx2⟩:=hx
   rcases hx1 with ⟨rfl,rfl,-⟩ | hx1
   ·obtain ⟨hc3,hc4⟩:=allT_two hc2
    obtain ⟨a,cap,rfl,hlc,hcells⟩:=els_sound hw hy hys hc
    obtain ⟨e1,e2,e3,-⟩:=Els.app_spec hzs'
    have hx0:xs.length=0:=by
     unfold els at hxs
     simp only [hg] at hxs
     split at hxs
     ·cases hxs; simp [Els.length]
     ·cases hxs; simp [Els.length]
     ·cases hxs
    have hxv:xs.vals=[]:=List.eq_nil_of_length_eq_zero (by rw [xs.vals_length,hx0]; simp)
    by_cases hl0:ys.length=0
    ·have hg0:Ghost (zs.reg e):=by
      have hz0:zs.length=0:=by rw [e2,hx0,hl0]
      cases zs with
      | ints k l=>exact .inl ⟨k,by simp only [Els.length] at hz0; simp [Els.reg,List.eq_nil_of_length_eq_zero hz0]⟩
      | recs ks l=>exact .inr (.inl ⟨ks,by simp only [Els.length] at hz0; simp [Els.reg,List.eq_nil_of_length_eq_zero hz0]⟩)
     rw [hl0] at h ⊢
     exact ⟨_,_,_,h,run_append_zero ht hi none a 0 0 cap (Nat.le_refl _),EffOk.ghost hw hnm hg0⟩
    ·rcases hcells with hcells | ⟨blk,off,rfl,hcells⟩
     ·exact (hl0 hcells).elim
     rw [Nat.zero_add] at hc3 hc4
     obtain ⟨v,w',hrun,ha⟩:=app_new (w:=w) (ty:=ty) ht hi hz hzs (a:=⟨blk,off,none⟩) (m:=ys.length) (c:=cap) (news:=ys.vals) (by rw [ys.vals_length,hsz])
      (fun j u hj=>by rw [Addr.add_lit]; exact hcells j u hj) (by omega) (by rw [hby]; exact hc3) hc4
     have hyw:zs.w=ys.w:=by
      cases xs <;> cases ys <;> simp only [Els.app,reduceCtorEq] at hzs'
      ·split at hzs'
       ·cases hzs'; rfl
       ·cases hzs'
      ·split at hzs'
       ·rename_i ee; subst ee; cases hzs'; rfl
       ·cases hzs'
     have hzl:zs.length=ys.length:=by rw [e2,hx0,Nat.zero_add]
     have hzv:zs.vals=ys.vals:=by rw [e1,hxv,List.nil_append]
     rw [hsz,← hyw,← hzl,← hzv] at ha
     have hE:=EffOk.appd (old:=none) (kl:=some r) hw hnm (fun _ h=>by cases h) (fun _ h=>by cases h) (by rw [hyw]; exact h0) ha
     refine ⟨_,v,w',h,hrun,?_⟩
     rw [Nat.zero_add,← hzl]
     exact hE.told fun Γ' hr=>⟨.inr hr.1,hr.2⟩
   ·obtain ⟨d',hd1,hd2⟩:=hrow
    obtain ⟨u,w',h1,h2⟩:=nappend_row (ty:=ty) hw hnm ⟨hx1,hx2⟩ hy ht hys hfit hd1 hg hzs' hge hc hd2 hc2
    exact ⟨_,u,w',h,h1,h2.told fun Γ' hr=>⟨.inr hr.1,hr.2⟩⟩
  ·exact h.elim
def RoOk (Γ Γ' : Env):Prop:=∀ b o,Γ.ro b=true→Γ.kp b=some o→Γ'.ro b=true∧Γ'.kp b=some o
structure Ren (ρ:Nat→Option Nat) (Γ Γ' : Env):Prop where
 μ:∀ n j B,ρ n=some j→Γ.μ n=some B→Γ'.μ j=some B
 er:Γ'.er=Γ.er
theorem Ren.pt {ρ:Nat→Option Nat} {Γ Γ' : Env} (h:Ren ρ Γ Γ') {n j:Nat} {B:Blk} (hj:ρ n=some j) (hB:Γ.pt n=some B):Γ'.pt j=some B:=Env.pt_iff.2 ⟨h.μ _ _ _ hj (Env.pt_iff.1 hB).1,(Env.pt_iff.1 hB).2⟩
theorem Ren.wh {ρ:Nat→Option Nat} {Γ Γ' : Env} (h:Ren ρ Γ Γ') {n j:Nat} {B:Blk} (hj:ρ n=some j) (hB:Γ.wh n=some B):Γ'.wh j=some B:=Env.wh_iff.2 ⟨h.μ _ _ _ hj (Env.wh_iff.1 hB).1,(Env.wh_iff.1 hB).2⟩
theorem RoRow.ren {Γ Γ' : Env} (h:RoOk Γ Γ') {b o:Nat} {vs:List Value} (r:RoRow Γ b o vs):RoRow Γ' b o vs:=by
 obtain ⟨h1,c,e,fz,h2,h3⟩:=r
 exact ⟨(h _ _ h1 h2).1,c,e,fz,(h _ _ h1 h2).2,h3⟩
theorem FR.ren {Γ Γ' : Env} (h:RoOk Γ Γ') {x:NC} {v:Value} (r:FR Γ x v):FR Γ' x v:=by
 refine ⟨?_,r.2⟩
 replace r:=r.1
 cases x with
 | l k xs=>
   obtain ⟨a,cap,h1,h2,h3⟩:=r
   exact ⟨a,cap,h1,h2,h3.imp id fun ⟨b,o,h4,h5⟩=>⟨b,o,h4,h5.ren h⟩⟩
 | lr ks xs=>
   obtain ⟨a,cap,h1,h2,h0,h3⟩:=r
   exact ⟨a,cap,h1,h2,h0,h3.imp id fun ⟨b,o,h4,h5⟩=>⟨b,o,h4,h5.ren h⟩⟩
 | _=>exact r
theorem RowV.ren {Γ Γ' : Env} (h:RoOk Γ Γ') {sch:List Part} {row:List FC} {v:Value} (r:RowV Γ sch row v):RowV Γ' sch row v:=by
 obtain ⟨vs,h1,h2,h3⟩:=r
 exact ⟨vs,h1,h2.imp fun _ _ r=>r.ren h,h3⟩
theorem mapM_cap {ρ:Nat→Option Nat}:∀ {cap l:List (Nat × Nat × Nat)},(cap.mapM fun x=>(ρ x.1).map fun r=>(r,x.2))=some l→R2 (fun (x y:Nat × Nat × Nat)=>ρ x.1=some y.1∧y.2=x.2) cap l
 | [],l,h=>by simp at h; subst h; exact .nil
 | x::cap,l,h=>by
   rw [List.mapM_cons] at h
   simp only [Option.bind_eq_bind,Option.bind_eq_some_iff,Option.map_eq_some_iff,Option.pure_def,Option.some.injEq] at h
   obtain ⟨y,⟨r,hr,rfl⟩,l',hl',rfl⟩:=h
   exact .cons ⟨hr,rfl⟩ (mapM_cap hl')
theorem R2.trans_left {α β γ:Type} {R:α→β→Prop} {S:α→γ→Prop} {T:β→γ→Prop} {l:List α} {m:List β} {k:List γ} (h:R2 R l m) (g:R2 S l k) (ht:∀ a b c,R a b→S a c→T b c):R2 T m k:=by
 induction h generalizing k with
 | nil=>cases g; exact .nil
 | cons r _ ih=>cases g with
   | cons s g=>exact .cons (ht _ _ _ r s) (ih g)
theorem mapNC_rel {ρ:Nat→Option Nat} {Γ Γ' : Env} (h:Ren ρ Γ Γ') {x y:NC} {v:Value} (hl:x.isL=true→RoOk Γ Γ') (r:CR Γ x v) (hm:mapNC ρ x=some y):CR Γ' y v:=by
 refine ⟨?_,r.2⟩
 replace r:=r.1
 cases x with
 | p n i c=>
   simp only [mapNC,Option.map_eq_some_iff] at hm
   obtain ⟨j,hj,rfl⟩:=hm
   obtain ⟨B,hB,hv⟩:=r
   exact ⟨B,h.pt hj hB,hv⟩
 | h n o len=>
   simp only [mapNC,Option.map_eq_some_iff] at hm
   obtain ⟨j,hj,rfl⟩:=hm
   obtain ⟨B,o,cap,hB,hv⟩:=r
   exact ⟨B,o,cap,h.wh hj hB,hv⟩
 | q n o w i c=>
   simp only [mapNC,Option.map_eq_some_iff] at hm
   obtain ⟨j,hj,rfl⟩:=hm
   obtain ⟨B,hB,hv⟩:=r
   exact ⟨B,h.pt hj hB,hv⟩
 | hq n o w i len=>
   simp only [mapNC,Option.map_eq_some_iff] at hm
   obtain ⟨j,hj,rfl⟩:=hm
   obtain ⟨B,a,cap,hB,hv⟩:=r
   exact ⟨B,a,cap,h.pt hj hB,hv⟩
 | hz n len=>
   simp only [mapNC,Option.map_eq_some_iff] at hm
   obtain ⟨j,hj,rfl⟩:=hm
   rcases r with ⟨h1,h2,B,h3⟩ | ⟨B,o,cap,hB,hv⟩
   ·exact .inl ⟨h1,h2,B,h.μ _ _ _ hj h3⟩
   ·exact .inr ⟨B,o,cap,h.wh hj hB,hv⟩
 | cl f cap=>
   simp only [mapNC,Option.map_eq_some_iff] at hm
   obtain ⟨l,hl',rfl⟩:=hm
   obtain ⟨caps,hv,hr⟩:=r
   refine ⟨caps,hv,(mapM_cap hl').trans_left hr ?_⟩
   rintro a b c ⟨h1,h2⟩ ⟨B,hB,hc⟩
   exact ⟨B,h.pt h1 hB,by rw [h2]; exact hc⟩
 | l k xs=>
   cases hm
   obtain ⟨a,cap,h1,h2,h3⟩:=r
   exact ⟨a,cap,h1,h2,h3.imp id fun ⟨b,o,h4,h5⟩=>⟨b,o,h4,h5.ren (hl rfl)⟩⟩
 | lr ks xs=>
   cases hm
   obtain ⟨a,cap,h1,h2,h0,h3⟩:=r
   exact ⟨a,cap,h1,h2,h0,h3.imp id fun ⟨b,o,h4,h5⟩=>⟨b,o,h4,h5.ren (hl rfl)⟩⟩
 | m n=>
   simp only [mapNC,Option.map_eq_some_iff] at hm
   obtain ⟨j,hj,rfl⟩:=hm
   obtain ⟨B,hB,hv⟩:=r
   exact ⟨B,h.pt hj hB,hv⟩
 | mn=>cases hm; exact r
 | lt sch xs=>
   cases hm
   obtain ⟨a,cap,h1,h2,h0,hk,h3⟩:=r
   exact ⟨a,cap,h1,h2,h0,hk,h3.imp id fun ⟨b,o,vs,h4,h5,h6⟩=>⟨b,o,vs,h4,h5.ren (hl rfl),h6.imp fun _ _ r=>r.ren (hl rfl)⟩⟩
 | pt sch xs i c=>
   cases hm
   obtain ⟨b,o,vs,h1,h0,hk,h2,h3⟩:=r
   exact ⟨b,o,vs,h1,h0,hk,h2.ren (hl rfl),h3.imp fun _ _ r=>r.ren (hl rfl)⟩
 | pl k xs i=>cases hm; obtain ⟨b,o,h1,h2⟩:=r; exact ⟨b,o,h1,h2.ren (hl rfl)⟩
 | pr ks xs i c=>cases hm; obtain ⟨b,o,h1,h2⟩:=r; exact ⟨b,o,h1,h2.ren (hl rfl)⟩
 | e k=>cases hm; have e:=h.er; simp only [CRel] at r ⊢; rw [e]; exact r
 | i k n=>cases hm; exact r
 | b x=>cases hm; exact r
 | s x=>cases hm; exact r
 | pn=>cases hm; exact r
 | sn=>cases hm; exact r
 | g x=>cases hm; exact r
 | en=>cases hm; exact r
theorem mapL_spec {α β:Type} {f:α→Option β}:∀ {l:List α} {m:List β},mapL f l=some m→R2 (fun a b=>f a=some b) l m
 | [],m,h=>by simp [mapL] at h; subst h; exact .nil
 | x::l,m,h=>by
   simp only [mapL] at h
   split at h
   ·rename_i a r ha hr
    cases h
    exact .cons ha (mapL_spec hr)
   ·cases h
theorem mapCells_rel {ρ:Nat→Option Nat} {Γ Γ' : Env} (h:Ren ρ Γ Γ') {xs ys:List NC} {vs:List Value} (hl:xs.any NC.isL=true→RoOk Γ Γ') (r:R2 (CR Γ) xs vs) (hm:mapL (mapNC ρ) xs=some ys):R2 (CR Γ') ys vs:=by
 have h1:=mapL_spec hm
 clear hm
 induction h1 generalizing vs with
 | nil=>cases r; exact .nil
 | cons a b ih=>
   cases r with
   | cons r1 r2=>
     exact .cons (mapNC_rel h (fun e=>hl (by simp [e])) r1 a) (ih (fun e=>hl (by simp only [List.any_cons,Bool.or_eq_true]; exact .inr e)) r2)
theorem R2.split {α β:Type} {R:α→β→Prop} {a b:List α} {m:List β} (h:R2 R (a++b) m):R2 R a (m.take a.length)∧R2 R b (m.drop a.length):=by
 have h1:=h.take a.length
 have h2:=h.drop a.length
 rw [List.take_append_of_le_length (Nat.le_refl _),List.take_of_length_le (Nat.le_refl _)] at h1
 rw [List.drop_append,Nat.sub_self,List.drop_of_length_le (Nat.le_refl _),List.nil_append,List.drop_zero] at h2
 exact ⟨h1,h2⟩
theorem Seg.plain_rel {Γ Γ' : Env} {s:Seg} {vs:List Value} (hn:∀ xs,s≠.cells xs) (r:R2 (CR Γ) s.flat vs):R2 (CR Γ') s.flat vs:=by
 cases s with
 | cells xs=>exact (hn xs rfl).elim
 | ints k n xs=>
   have:=intsNC_vals r
   subst this
   exact intsNC_rel Γ' k xs
 | recs ks n xs=>
   have:=rowsNC_vals r
   subst this
   exact rowsNC_rel Γ' ks xs
theorem mapSegs_rel {ρ:Nat→Option Nat} {Γ Γ' : Env} (h:Ren ρ Γ Γ') {xs ys:List Seg} {vs:List Value} (hl:(segNcs xs).any NC.isL=true→RoOk Γ Γ') (r:R2 (CR Γ) (segFlat xs) vs) (ho:SegOk xs) (hm:mapL (mapSeg (mapNC ρ)) xs=some ys):R2 (CR Γ') (segFlat ys) vs∧SegOk ys:=by
 have h1:=mapL_spec hm
 clear hm
 induction h1 generalizing vs with
 | nil=>cases r; exact ⟨.nil,SegOk.none⟩
 | cons a b ih=>
   rename_i s t l m
   rw [segFlat_cons] at r
   obtain ⟨r1,r2⟩:=r.split
   obtain ⟨i1,i2⟩:=ih (fun e=>hl (by simp only [segNcs,List.any_append,Bool.or_eq_true]; exact .inr e)) r2 ho.tail
   rw [segFlat_cons,← List.take_append_drop s.flat.length vs]
   cases s with
   | cells cs=>
     simp only [mapSeg,Option.map_eq_some_iff] at a
     obtain ⟨z,hz,rfl⟩:=a
     exact ⟨(mapCells_rel h (fun e=>hl (by simp only [segNcs,Seg.ncs,List.any_append,Bool.or_eq_true]; exact .inl e)) r1 hz).append i1,SegOk.mk trivial i2⟩
   | ints k n zs=>
     simp only [mapSeg,Option.some.injEq] at a
     subst a
     exact ⟨(Seg.plain_rel (fun _ e=>by cases e) r1).append i1,SegOk.mk ho.head i2⟩
   | recs ks n zs=>
     simp only [mapSeg,Option.some.injEq] at a
     subst a
     exact ⟨(Seg.plain_rel (fun _ e=>by cases e) r1).append i1,SegOk.mk ho.head i2⟩
theorem mapNV_rel {ρ:Nat→Option Nat} {Γ Γ' : Env} (h:Ren ρ Γ Γ') {x y:NV} {v:Value} (hl:x.ncs.any NC.isL=true→RoOk Γ Γ') (r:VRel Γ x v) (hm:mapNV (mapNC ρ) x=some y):VRel Γ' y v:=by
 cases x with
 | c x=>
   simp only [mapNV,Option.map_eq_some_iff] at hm
   obtain ⟨z,hz,rfl⟩:=hm
   exact mapNC_rel h (fun e=>hl (by simp [NV.ncs,e])) r hz
 | ag xs=>
   simp only [mapNV,Option.map_eq_some_iff] at hm
   obtain ⟨z,hz,rfl⟩:=hm
   obtain ⟨vs,hv,hr⟩:=r
   exact ⟨vs,hv,mapCells_rel h hl hr hz⟩
 | sg l=>
   simp only [mapNV,Option.map_eq_some_iff] at hm
   obtain ⟨z,hz,rfl⟩:=hm
   obtain ⟨vs,hv,hr,ho⟩:=r
   exact ⟨vs,hv,mapSegs_rel h hl hr ho hz⟩
theorem mapNS_rel {ρ:Nat→Option Nat} {Γ Γ' : Env} (h:Ren ρ Γ Γ') {x y:NS} {v:Value} (hl:x.anyL=true→RoOk Γ Γ') (r:SRel Γ x v) (hm:mapNS (mapNC ρ) x=some y):SRel Γ' y v:=by
 cases x with
 | v x=>
   simp only [mapNS,Option.map_eq_some_iff] at hm
   obtain ⟨z,hz,rfl⟩:=hm
   exact mapNV_rel h hl r hz
 | tu l=>
   simp only [mapNS,Option.map_eq_some_iff] at hm
   obtain ⟨z,hz,rfl⟩:=hm
   obtain ⟨vs,hv,hr⟩:=r
   refine ⟨vs,hv,?_⟩
   have h1:=mapL_spec hz
   simp only [NS.anyL] at hl
   clear hv hz
   induction h1 generalizing vs with
   | nil=>cases hr; exact .nil
   | cons a b ih=>
     cases hr with
     | cons r1 r2=>exact .cons (mapNV_rel h (fun e=>hl (by simp only [List.any_cons,Bool.or_eq_true]; exact .inl e)) r1 a) (ih (fun e=>hl (by simp only [List.any_cons,Bool.or_eq_true]; exact .inr e)) _ r2)
 | dead=>simp only [mapNS,Option.some.injEq] at hm; subst hm; trivial
def Reg.anyL (g:Reg):Bool:=
 match g.body with
 | .cells xs=>xs.any NC.isL
 | .sg l=>(segNcs l).any NC.isL
 | .tab _ _=>true
 | .mp _ _ _=>true
 | _=>false
theorem mapL_len {α β:Type} {f:α→Option β} {l:List α} {m:List β} (h:mapL f l=some m):m.length=l.length:=(mapL_spec h).length.symm
theorem mapSegs_size {f:NC→Option NC}:∀ {l m:List Seg},mapL (mapSeg f) l=some m→segSize m=segSize l
 | [],m,h=>by simp [mapL] at h; subst h; rfl
 | s::l,m,h=>by
   simp only [mapL] at h
   split at h
   ·rename_i a r ha hr
    cases h
    have h1:=mapSegs_size hr
    have h2:a.size=s.size:=by
     cases s with
     | cells xs=>
       simp only [mapSeg,Option.map_eq_some_iff] at ha
       obtain ⟨z,hz,rfl⟩:=ha
       exact mapL_len hz
     | ints k n xs=>cases ha; rfl
     | recs ks n xs=>cases ha; rfl
    simp only [segSize,h1,h2]
   ·cases h
theorem mapReg_len {f:NC→Option NC} {g g' : Reg} (h:mapReg f g=some g'):g'.body.len=g.body.len∧g'.e=g.e∧g'.st=g.st:=by
 unfold mapReg at h
 split at h
 ·rename_i xs hb
  simp only [Option.map_eq_some_iff] at h
  obtain ⟨z,hz,rfl⟩:=h
  rw [hb]
  exact ⟨congrArg some (mapL_len hz),rfl,rfl⟩
 ·rename_i l hb
  simp only [Option.map_eq_some_iff] at h
  obtain ⟨z,hz,rfl⟩:=h
  rw [hb]
  exact ⟨congrArg some (mapSegs_size hz),rfl,rfl⟩
 ·cases h
  exact ⟨rfl,rfl,rfl⟩
theorem PartOk.same {B:Blk} {g g' : Reg} {l:List Value} (h:PartOk B g l) (hl:g'.body.len=g.body.len) (he:g'.e=g.e):PartOk B g' l:=by
 unfold PartOk at h ⊢
 rw [hl,he]
 exact h
theorem mapReg_ghost {f:NC→Option NC} {g g' : Reg} (h:mapReg f g=some g') (hg:Ghost g):Ghost g':=by
 unfold mapReg at h
 rcases hg with ⟨k,hb⟩ | ⟨ks,hb⟩ | ⟨sch,hb,h0⟩
 ·rw [hb] at h; cases h; exact .inl ⟨k,hb⟩
 ·rw [hb] at h; cases h; exact .inr (.inl ⟨ks,hb⟩)
 ·rw [hb] at h; cases h; exact .inr (.inr ⟨sch,hb,h0⟩)
theorem mapReg_rel {ρ:Nat→Option Nat} {Γ Γ' : Env} (h:Ren ρ Γ Γ') {g g' : Reg} {B:Blk} {w:World} (hl:g.anyL=true→RoOk Γ Γ') (r:RegRel Γ g B w) (hm:mapReg (mapNC ρ) g=some g'):RegRel Γ' g' B w:=by
 rcases r with ⟨h0,r⟩ | ⟨h0,c,h1,h2,h3,h4,hp⟩ | ⟨h0,r⟩
 ·exact .inl ⟨h0,mapReg_ghost hm r⟩
 rotate_left
 ·obtain ⟨⟨ks,sch,xs,es,ck,h1,h2,h3⟩,h4,h5⟩:=r
  have hro:=hl (by simp only [Reg.anyL,h1])
  have e:g'=g:=by unfold mapReg at hm; rw [h1] at hm; cases hm; rfl
  rw [e]
  exact .inr (.inr ⟨h0,⟨ks,sch,xs,es,ck,h1,h2,h3.imp fun _ _ r=>⟨r.1.ren hro,r.2.ren hro⟩⟩,h4,h5⟩)
 obtain ⟨l1,l2,l3⟩:=mapReg_len hm
 refine .inr (.inl ⟨h0,c,h1,h2.trans l3.symm,h3,?_,hp.same l1 l2⟩)
 rw [l3]
 clear l1 l2 l3 h1 h2 h3 hp
 unfold mapReg at hm
 split at hm
 ·rename_i xs hb
  simp only [Option.map_eq_some_iff] at hm
  obtain ⟨z,hz,rfl⟩:=hm
  rw [hb] at h4
  obtain ⟨l1,l2,h5,h6⟩:=h4
  exact ⟨l1,l2,h5,mapCells_rel h (fun e=>hl (by simp only [Reg.anyL,hb]; exact e)) h6 hz⟩
 ·rename_i l hb
  simp only [Option.map_eq_some_iff] at hm
  obtain ⟨z,hz,rfl⟩:=hm
  rw [hb] at h4
  obtain ⟨l1,l2,h5,h6,h7⟩:=h4
  exact ⟨l1,l2,h5,mapSegs_rel h (fun e=>hl (by simp only [Reg.anyL,hb]; exact e)) h6 h7 hz⟩
 ·rename_i hnb hns
  cases hm
  cases hb:g.body with
  | cells xs=>exact (hnb xs hb).elim
  | sg l=>exact (hns l hb).elim
  | ints k xs=>rw [hb] at h4; exact h4
  | recs ks xs=>rw [hb] at h4; exact h4
  | mp ks sch xs=>rw [hb] at h4; exact h4
  | tab sch xs=>
    have hro:=hl (by simp only [Reg.anyL,hb])
    rw [hb] at h4
    obtain ⟨hs,h0,l1,l2,h1,h2,h3⟩:=h4
    exact ⟨hs,h0,l1,l2,h1,h2.imp fun _ _ r=>r.ren hro,h3⟩
theorem mapRg_get {f:NC→Option NC}:∀ {l m:List (Option Reg)},mapRg f l=some m→m.length=l.length∧∀ (j:Nat) (g' : Reg),(m[j]? = some (some g')→∃ g,l[j]? = some (some g)∧mapReg f g=some g')
 | [],m,h=>by simp [mapRg] at h; subst h; exact ⟨rfl,fun j g' hj=>by simp at hj⟩
 | none::l,m,h=>by
   simp only [mapRg,Option.map_eq_some_iff] at h
   obtain ⟨r,hr,rfl⟩:=h
   obtain ⟨h1,h2⟩:=mapRg_get hr
   refine ⟨by simp [h1],fun j g' hj=>?_⟩
   cases j with
   | zero=>simp at hj
   | succ j=>simpa using h2 j g' (by simpa using hj)
 | some g::l,m,h=>by
   simp only [mapRg] at h
   split at h
   ·rename_i a r ha hr
    cases h
    obtain ⟨h1,h2⟩:=mapRg_get hr
    refine ⟨by simp [h1],fun j g' hj=>?_⟩
    cases j with
    | zero=>simp at hj; subst hj; exact ⟨g,by simp,ha⟩
    | succ j=>simpa using h2 j g' (by simpa using hj)
   ·cases h
theorem posIn_spec {l:List Nat} {n j:Nat} (h:posIn l n=some j):l[j]? = some n:=by
 unfold posIn at h
 rw [List.findIdx?_eq_some_iff_getElem] at h
 obtain ⟨hj,he,-⟩:=h
 rw [List.getElem?_eq_getElem hj]
 simpa using he
theorem posIn_none {l:List Nat} {n:Nat} (h:posIn l n=none):n ∉ l:=by
 unfold posIn at h
 rw [List.findIdx?_eq_none_iff] at h
 intro hn
 have:=h n hn
 simp at this
theorem nodup_get {l:List Nat} (h:l.Nodup) {i j n:Nat} (hi:l[i]? = some n) (hj:l[j]? = some n):i=j:=by
 obtain ⟨h1,h2⟩:=List.getElem?_eq_some_iff.1 hi
 obtain ⟨h3,h4⟩:=List.getElem?_eq_some_iff.1 hj
 rcases Nat.lt_trichotomy i j with hij | hij | hij
 ·exact absurd (h2.trans h4.symm) ((List.pairwise_iff_getElem.1 h) i j h1 h3 hij)
 ·exact hij
 ·exact absurd (h4.trans h2.symm) ((List.pairwise_iff_getElem.1 h) j i h3 h1 hij)
theorem reach_nodup (s:St):∀ (fuel:Nat) (todo acc:List Nat),acc.Nodup→(reach s fuel todo acc).Nodup
 | 0,todo,acc,h=>by simpa [reach] using h
 | fuel+1,[],acc,h=>by simpa [reach] using h
 | fuel+1,n::todo,acc,h=>by
   simp only [reach]
   split
   ·exact reach_nodup s fuel todo acc h
   ·rename_i hc
    split
    ·refine reach_nodup s fuel _ _ ?_
     rw [List.nodup_append]
     refine ⟨h,by simp,?_⟩
     intro a ha b hb
     simp only [List.mem_singleton] at hb
     subst hb
     rintro rfl
     exact hc (by simpa using ha)
    ·exact reach_nodup s fuel todo acc h
theorem WRel.restrict {Γ Γ' : Env} {s:St} {w:World} {L:List Nat} {rg' : List (Option Reg)} (hw:WRel Γ s.rg w) (hL:L.Nodup) (hm:mapRg (mapNC (posIn L)) (L.map s.reg)=some rg')
  (hμ:∀ j,Γ'.μ j=(L[j]?).bind Γ.μ) (her:Γ'.er=Γ.er) (hro:RoOk Γ Γ')
  (hkp:∀ b o,Γ'.kp b=some o→w.heap[b]? = some o) (hap:∀ n B,n∈L→Nx.live s.rg n→Γ.pt n=some B→Γ'.kp B.blk=none) (hrk:∀ b,Γ'.ro b=true→∃ o,Γ'.kp b=some o):WRel Γ' rg' w:=by
 have hren:Ren (posIn L) Γ Γ':=⟨fun n j B h1 h2=>by rw [hμ,posIn_spec h1]; exact h2,her⟩
 have hpt:∀ {j n:Nat} {B:Blk},L[j]? = some n→Γ'.pt j=some B→Γ.pt n=some B:=fun {j n B} hj hB=>by
  obtain ⟨h1,h2⟩:=Env.pt_iff.1 hB
  rw [hμ,hj] at h1
  exact Env.pt_iff.2 ⟨h1,h2⟩
 obtain ⟨hlen,hget⟩:=mapRg_get hm
 have hl:∀ (j:Nat) (g' : Reg),rg'[j]? = some (some g')→∃ n g,L[j]? = some n∧s.rg[n]? = some (some g)∧mapReg (mapNC (posIn L)) g=some g':=by
  intro j g' hj
  obtain ⟨g,hg,hmg⟩:=hget j g' hj
  rw [List.getElem?_map] at hg
  cases e:L[j]? with
  | none=>simp [e] at hg
  | some n=>
    simp only [e,Option.map_some,Option.some.injEq] at hg
    exact ⟨n,g,rfl,(reg_eq s n g).1 hg,hmg⟩
 refine ⟨fun j g' hj=>?_,fun i j B B' hne li lj hB hB'=>?_,hkp,fun j B lj hB=>?_,hrk⟩
 ·obtain ⟨n,g,h1,h2,h3⟩:=hl j g' hj
  obtain ⟨B,hB,hr⟩:=hw.live n g h2
  exact ⟨B,by rw [hμ,h1]; exact hB,mapReg_rel hren (fun _=>hro) hr h3⟩
 ·obtain ⟨gi,hi⟩:=li
  obtain ⟨gj,hj⟩:=lj
  obtain ⟨n,g,h1,h2,-⟩:=hl i gi hi
  obtain ⟨n',g',h1',h2',-⟩:=hl j gj hj
  refine hw.inj n n' B B' ?_ ⟨g,h2⟩ ⟨g',h2'⟩ (hpt h1 hB) (hpt h1' hB')
  rintro rfl
  exact hne (nodup_get hL h1 h1')
 ·obtain ⟨g,hg⟩:=lj
  obtain ⟨n,g',h1,h2,-⟩:=hl j g hg
  exact hap n B (List.mem_of_getElem? h1) ⟨g',h2⟩ (hpt h1 hB)
def Sound (P:Program) (gl:List Nat) (f:FuncId) (T:Con):Prop:=
 ∀ (args:List NV) (regs:List Reg) (R:Out→Prop),(T args regs).run R→
 ∀ (Γ:Env) (w:World) (vs:List Value),WRel Γ (regs.map some) w→GlobOk gl Γ→R2 (VRel Γ) args vs→(∀ n,regs.length≤n→Γ.μ n=none)→
 Calls P f vs.toArray w fun e w'=>∃ o v Γ',R o∧e=.returned v∧Ext Γ w Γ'∧SRel Γ' o.res v∧WRel Γ' o.rg w'∧Wd w w'
structure Known (P:Program) (gl:List Nat) (f:FuncId) (T:Con):Prop where
 goes:∀ args w,(callFunc f args).run P w=.ok (.enter f args) w
 sound:Sound P gl f T
def SoundF (P:Program) (gl:List Nat) (f:FuncId) (T:Con):Prop:=
 ∀ (args:List NV) (regs:List Reg) (R:Out→Prop),(T args regs).run R→
 ∀ (Γ:Env) (w:World) (vs:List Value),WRel Γ (regs.map some) w→GlobOk gl Γ→R2 (VRel Γ) args vs→(∀ n,regs.length≤n→Γ.μ n=none)→
 Calls P f vs.toArray w fun e w'=>∃ o v Γ',(R o∧∀ n,o.rg.length≤n→Γ'.μ n=none)∧e=.returned v∧Ext Γ w Γ'∧SRel Γ' o.res v∧WRel Γ' o.rg w'∧Wd w w'
structure KnownF (P:Program) (gl:List Nat) (f:FuncId) (T:Con):Prop where
 goes:∀ args w,(callFunc f args).run P w=.ok (.enter f args) w
 sound:SoundF P gl f T
theorem KnownF.known {P:Program} {gl:List Nat} {f:FuncId} {T:Con} (h:KnownF P gl f T):Known P gl f T:=
 ⟨h.goes,fun args regs R hR Γ w vs h1 h2 h3 h4=>(h.sound args regs R hR Γ w vs h1 h2 h3 h4).mono fun _ _ ⟨o,v,Γ',k1,k2⟩=>⟨o,v,Γ',k1.1,k2⟩⟩
theorem argNC_rel {P:Program} {s:St} {Γ Γ' : Env} {w:World} {passed:List Nat} {t:Option TypeId} {x y:NC} {v:Value} {c:List Bool} (hw:WRel Γ s.rg w) (hren:Ren (posIn passed) Γ Γ') (hro:RoOk Γ Γ')
  (hlent:∀ r B g,r∈names x→r ∉ passed→s.rg[r]? = some (some g)→Γ.pt r=some B→Γ'.ro B.blk=true∧Γ'.kp B.blk=w.heap[B.blk]?)
  (r:CR Γ x v) (h:argNC P s passed t x=some (c,y)) (hc:allT c):CR Γ' y v:=by
 unfold argNC at h
 split at h
 ·rename_i n off len
  split at h
  ·rename_i i hi
   cases h
   exact mapNC_rel hren (fun _=>hro) r (by simp [mapNC,hi])
  ·rename_i hi
   have hnp:=posIn_none hi
   split at h
   ·rename_i c' k xs he
    cases h
    obtain ⟨a,cap,hv,hlc,hcells⟩:=els_sound hw r he hc
    obtain ⟨⟨B,o,cap',hB,hv',hlc',hcm,hcap⟩,h1⟩:=r
    refine ⟨⟨a,cap,hv,hlc,?_⟩,h1⟩
    simp only [els] at he
    split at he
    case h_2=>cases he
    rename_i g hg
    have hgl:=(reg_eq s n g).1 hg
    obtain ⟨cs,hcs,hst,hsz,hbody⟩:=hw.atW hB hgl
    obtain ⟨hr1,hr2⟩:=hlent n B g (by simp [names]) hnp hgl (Env.wh_pt hB)
    split at he
    ·rename_i k0 xs0 hb
     cases he
     rw [hb] at hbody
     obtain ⟨h1',l2,hl⟩:=hbody
     have hlen:off+len≤xs0.length:=by simpa [allT] using hc
     rw [hv'] at hv
     simp only [Value.slice.injEq] at hv
     rcases hcap with ⟨rfl,-⟩ | h0
     ·right
      refine ⟨B.blk,off * B.st,hv.1.symm,hr1,cs,g.e,(0,0),by rw [hr2,hcs],fun j u hj=>?_⟩
      rw [List.map_take,List.map_drop] at hj
      have:=prefix_get (l2:=l2) (drop_take_get hj)
      rw [← hl] at this
      rw [hst,h1',Nat.mul_one]
      simpa using this
     ·left
      have:len=0:=by omega
      subst this
      simp
    ·cases he
    ·cases he
    ·cases he
    ·cases he
    ·cases he
   ·rename_i c' ks xs he
    cases h
    obtain ⟨a,cap,hv,hlc,hcells⟩:=els_sound hw r he hc
    obtain ⟨⟨B,o,cap',hB,hv',hlc',hcm,hcap⟩,h1⟩:=r
    simp only [els] at he
    split at he
    case h_2=>cases he
    rename_i g hg
    have hgl:=(reg_eq s n g).1 hg
    obtain ⟨cs,hcs,hst,hsz,hbody⟩:=hw.atW hB hgl
    obtain ⟨hr1,hr2⟩:=hlent n B g (by simp [names]) hnp hgl (Env.wh_pt hB)
    split at he
    ·cases he
    ·rename_i ks0 xs0 hb
     cases he
     rw [hb] at hbody
     obtain ⟨h1',h0',l2,hl⟩:=hbody
     refine ⟨⟨a,cap,hv,hlc,h0',?_⟩,h1⟩
     have hlen:off+len≤xs0.length:=by simpa [allT] using hc
     rw [hv'] at hv
     simp only [Value.slice.injEq] at hv
     rcases hcap with ⟨rfl,-⟩ | h0
     ·right
      refine ⟨B.blk,off * B.st,hv.1.symm,hr1,cs,g.e,(0,0),by rw [hr2,hcs],fun j u hj=>?_⟩
      rw [← rowsV_take,← rowsV_drop] at hj
      have:=prefix_get (l2:=l2) (drop_take_get hj)
      rw [← hl] at this
      rw [hst,h1']
      simpa using this
     ·left
      have:len=0:=by omega
      subst this
      simp
    ·cases he
    ·cases he
    ·cases he
    ·cases he
   ·split at h
    case h_2=>cases h
    rename_i c' sch xs he
    cases h
    obtain ⟨⟨B,o,cap',hB,hv',hlc',hcm,hcap⟩,h1⟩:=r
    simp only [tels] at he
    split at he
    case h_2=>cases he
    rename_i g hg
    split at he
    case h_2=>cases he
    rename_i sch0 xs0 hb
    cases he
    have hgl:=(reg_eq s n g).1 hg
    obtain ⟨cs,hcs,hst,hsz,hbody⟩:=hw.atW hB hgl
    obtain ⟨hr1,hr2⟩:=hlent n B g (by simp [names]) hnp hgl (Env.wh_pt hB)
    rw [hb] at hbody
    obtain ⟨hs1,hs0,l1,l2,hl,hr,hk⟩:=hbody
    have hlen:off+len≤xs0.length:=by simpa [allT] using hc
    have e1:((xs0.drop off).take len).length=len:=by simp; omega
    refine ⟨⟨some ⟨B.blk,o,none⟩,cap',by rw [hv',e1],by rw [e1]; exact hlc',hs0,(hk.drop off).take len,?_⟩,h1⟩
    rcases hcap with ⟨rfl,-⟩ | h0
    ·right
     refine ⟨B.blk,off * B.st,(l1.drop (off * schSize sch)).take (len * schSize sch),rfl,⟨hr1,cs,g.e,(0,0),by rw [hr2,hcs],fun j u hj=>?_⟩,?_⟩
     ·have:=prefix_get (l2:=l2) (drop_take_get hj)
      rw [← hl] at this
      rw [hst,hs1]
      simpa using this
     ·rw [← tabNC_take (hk.drop off),← tabNC_drop hk]
      exact ((hr.drop _).take _).imp fun _ _ r=>r.ren hro
    ·left
     have:len=0:=by omega
     subst this
     simp
 ·rename_i n o ww i len
  split at h
  ·rename_i j hj
   cases h
   exact mapNC_rel hren (fun _=>hro) r (by simp [mapNC,hj])
  ·rename_i hj
   have hnp:=posIn_none hj
   have lent:∀ {ys:Els} {c' : List Bool},els s (.hq n o ww i len)=some (c',ys)→allT c'→∃ a cap,v=.slice a ys.length cap∧ys.length≤cap∧v.oneCell'=true∧(ys.length=0∨∃ blk off,a=some ⟨blk,off,none⟩∧RoRow Γ' blk off ys.vals):=by
    intro ys c' he hc'
    have he':=he
    obtain ⟨⟨B,ad,cap,hB,hv,hlc,hcm,had⟩,h1⟩:=r
    simp only [els] at he
    split at he
    case h_2=>cases he
    rename_i g hg
    have hgl:=(reg_eq s n g).1 hg
    obtain ⟨hr1,hr2⟩:=hlent n B g (by simp [names]) hnp hgl hB
    split at he
    case h_2=>cases he
    rename_i l hb
    obtain ⟨cs,hA⟩:=hw.at hB hgl (by rw [hb]; rfl)
    have hbody:=hA.body
    rw [hb] at hbody
    have hse:=segEls_spec hbody.segOk he hc'
    obtain ⟨l1,l2,hl,hr,-⟩:=hbody
    have hsub:=(hr.drop (o+i * ww)).take (len * ww)
    have key:ys.length=len∧(l1.drop (o+i * ww)).take (len * ww)=ys.vals:=by
     rcases hse with ⟨k,xs,rfl,hw1,hxl,he⟩ | ⟨ks,xs,rfl,hw1,h0,hxl,he⟩
     ·rw [he] at hsub
      exact ⟨hxl,intsNC_vals hsub⟩
     ·rw [he] at hsub
      exact ⟨hxl,rowsNC_vals hsub⟩
    rw [key.1]
    refine ⟨_,cap,hv,hlc,h1,?_⟩
    rcases had with rfl | h0
    ·right
     refine ⟨B.blk,_,rfl,hr1,cs,B.e,(0,0),by rw [hr2,hA.heap],fun j u hj=>?_⟩
     rw [← key.2] at hj
     have:=prefix_get (l2:=l2) (drop_take_get hj)
     rw [← hl,List.getElem?_drop] at this
     rw [Nat.add_assoc]
     simpa using this
    ·left; omega
   split at h
   ·rename_i c' k xs he
    cases h
    obtain ⟨a,cap,hv,hlc,h1,hx⟩:=lent he hc
    refine ⟨⟨a,cap,hv,hlc,hx.imp (fun h=>List.eq_nil_of_length_eq_zero h) id⟩,h1⟩
   ·rename_i c' ks xs he
    cases h
    have h0:0<ks.length:=by
     simp only [els] at he
     split at he
     case h_2=>cases he
     split at he
     case h_2=>cases he
     rename_i g hg _ l hb
     obtain ⟨⟨B,ad,cap,hB,-⟩,-⟩:=r
     obtain ⟨cs,hA⟩:=hw.at hB ((reg_eq s n g).1 hg) (by rw [hb]; rfl)
     have hbody:=hA.body
     rw [hb] at hbody
     rcases segEls_spec hbody.segOk he hc with ⟨k,xs',hh,-⟩ | ⟨ks',xs',hh,-,h0,-⟩
     ·cases hh
     ·cases hh; exact h0
    obtain ⟨a,cap,hv,hlc,h1,hx⟩:=lent he hc
    refine ⟨⟨a,cap,hv,hlc,h0,hx.imp (fun h=>List.eq_nil_of_length_eq_zero h) id⟩,h1⟩
   ·cases h
 ·rename_i n len
  split at h
  ·rename_i j hj
   cases h
   exact mapNC_rel hren (fun _=>hro) r (by simp [mapNC,hj])
  ·rename_i hj
   have hnp:=posIn_none hj
   have lent:∀ {ys:Els} {c' : List Bool},els s (.hz n len)=some (c',ys)→allT c'→∃ a cap,v=.slice a ys.length cap∧ys.length≤cap∧v.oneCell'=true∧(ys.length=0∨∃ blk off,a=some ⟨blk,off,none⟩∧RoRow Γ' blk off ys.vals):=by
    intro ys c' he hc'
    obtain ⟨hr,h1⟩:=r
    simp only [els] at he
    split at he
    case h_2=>cases he
    rename_i g hg
    have hgl:=(reg_eq s n g).1 hg
    rcases hr with ⟨rfl,rfl,-⟩ | ⟨B,o,cap,hB,hv,hlc,hcm,hcap⟩
    ·have h0:ys.length=0:=by
      split at he
      ·cases he; simp [Els.length]
      ·cases he; simp [Els.length]
      ·cases he
     rw [h0]
     exact ⟨none,0,rfl,Nat.le_refl _,h1,.inl rfl⟩
    obtain ⟨cs,hcs,hst,hsz,hbody⟩:=hw.atW hB hgl
    obtain ⟨hr1,hr2⟩:=hlent n B g (by simp [names]) hnp hgl (Env.wh_pt hB)
    split at he
    ·rename_i k xs hb
     cases he
     rw [hb] at hbody
     obtain ⟨h1',l2,hl⟩:=hbody
     have hlen:len≤xs.length:=by simpa [allT] using hc'
     have e1:(Els.ints k (xs.take len)).length=len:=by simp [Els.length]; omega
     rw [e1]
     refine ⟨_,cap,hv,hlc,h1,?_⟩
     rcases hcap with ⟨rfl,-⟩ | h0
     ·right
      refine ⟨B.blk,_,rfl,hr1,cs,g.e,(0,0),by rw [hr2,hcs],fun j u hj=>?_⟩
      simp only [Els.vals,List.map_take] at hj
      rw [List.getElem?_take] at hj
      split at hj
      case isFalse=>cases hj
      have:=prefix_get (l2:=l2) hj
      rw [← hl] at this
      rw [Nat.zero_mul,Nat.zero_add]
      simpa using this
     ·left; omega
    ·rename_i ks xs hb
     cases he
     rw [hb] at hbody
     obtain ⟨h1',h0',l2,hl⟩:=hbody
     have hlen:len≤xs.length:=by simpa [allT] using hc'
     have e1:(Els.recs ks (xs.take len)).length=len:=by simp [Els.length]; omega
     rw [e1]
     refine ⟨_,cap,hv,hlc,h1,?_⟩
     rcases hcap with ⟨rfl,-⟩ | h0
     ·right
      refine ⟨B.blk,_,rfl,hr1,cs,g.e,(0,0),by rw [hr2,hcs],fun j u hj=>?_⟩
      simp only [Els.vals] at hj
      rw [← rowsV_take,List.getElem?_take] at hj
      split at hj
      case isFalse=>cases hj
      have:=prefix_get (l2:=l2) hj
      rw [← hl] at this
      rw [Nat.zero_mul,Nat.zero_add]
      simpa using this
     ·left; omega
    ·cases he
   split at h
   ·rename_i c' k xs he
    cases h
    obtain ⟨a,cap,hv,hlc,h1,hx⟩:=lent he hc
    refine ⟨⟨a,cap,hv,hlc,hx.imp (fun h=>List.eq_nil_of_length_eq_zero h) id⟩,h1⟩
   ·rename_i c' ks xs he
    split at h
    case isFalse=>cases h
    rename_i h0
    cases h
    obtain ⟨a,cap,hv,hlc,h1,hx⟩:=lent he hc
    refine ⟨⟨a,cap,hv,hlc,h0,hx.imp (fun h=>List.eq_nil_of_length_eq_zero h) id⟩,h1⟩
   ·split at h
    case h_2=>cases h
    rename_i c' sch xs he
    cases h
    obtain ⟨hr0,h1⟩:=r
    simp only [tels] at he
    split at he
    case h_2=>cases he
    rename_i g hg
    split at he
    case h_2=>cases he
    rename_i sch0 xs0 hb
    cases he
    have hgl:=(reg_eq s n g).1 hg
    have hlen:len≤xs0.length:=by simpa [allT] using hc
    have e1:(xs0.take len).length=len:=by simp; omega
    rcases hr0 with ⟨rfl,rfl,B0,hB0⟩ | ⟨B,o,cap',hB,hv',hlc',hcm,hcap⟩
    ·obtain ⟨B,hB,hrr⟩:=hw.live n g hgl
     have hs:0<schSize sch∧TabOk sch xs0:=by
      rcases hrr with ⟨-,⟨k,hk⟩ | ⟨ks,hk⟩ | ⟨sch',hk,h0⟩⟩ | ⟨-,c,hA⟩ | ⟨-,hM⟩
      ·rw [hb] at hk; cases hk
      ·rw [hb] at hk; cases hk
      ·rw [hb] at hk; cases hk
       exact ⟨h0,fun _ h=>by cases h⟩
      ·have:=hA.body
       rw [hb] at this
       obtain ⟨hs1,hs0,l1,l2,hl,hr,hk⟩:=this
       exact ⟨hs0,hk⟩
      ·obtain ⟨_,_,_,_,_,hk,-⟩:=hM.mp
       rw [hb] at hk; cases hk
     exact ⟨⟨none,0,by simp,by simp,hs.1,hs.2.take 0,.inl (by simp)⟩,h1⟩
    obtain ⟨cs,hcs,hst,hsz,hbody⟩:=hw.atW hB hgl
    obtain ⟨hr1,hr2⟩:=hlent n B g (by simp [names]) hnp hgl (Env.wh_pt hB)
    rw [hb] at hbody
    obtain ⟨hs1,hs0,l1,l2,hl,hr,hk⟩:=hbody
    refine ⟨⟨some ⟨B.blk,o,none⟩,cap',by rw [hv',e1],by rw [e1]; exact hlc',hs0,hk.take len,?_⟩,h1⟩
    rcases hcap with ⟨rfl,-⟩ | h0
    ·right
     refine ⟨B.blk,0 * B.st,l1.take (len * schSize sch),rfl,⟨hr1,cs,g.e,(0,0),by rw [hr2,hcs],fun j u hj=>?_⟩,?_⟩
     ·rw [List.getElem?_take] at hj
      split at hj
      case isFalse=>cases hj
      have:=prefix_get (l2:=l2) hj
      rw [← hl] at this
      rw [Nat.zero_mul,Nat.zero_add]
      simpa using this
     ·rw [← tabNC_take hk]
      exact (hr.take _).imp fun _ _ r=>r.ren hro
    ·left
     have:len=0:=by omega
     subst this
     simp
 ·obtain ⟨hv,h1⟩:=r
  cases h
  exact ⟨hv,h1⟩
 ·simp only [Option.map_eq_some_iff] at h
  obtain ⟨z,hz,he⟩:=h
  cases he
  exact mapNC_rel hren (fun _=>hro) r hz
theorem allT_append {a b:List Bool} (h:allT (a++b)):allT a∧allT b:=by
 constructor <;> intro x hx <;> exact h x (by simp [hx])
theorem argL_rel {P:Program} {s:St} {Γ Γ' : Env} {w:World} {passed:List Nat} {t:Option TypeId} (hw:WRel Γ s.rg w) (hren:Ren (posIn passed) Γ Γ') (hro:RoOk Γ Γ') :
  ∀ {xs ys:List NC} {vs:List Value} {c:List Bool},(∀ r B g,r∈xs.flatMap names→r ∉ passed→s.rg[r]? = some (some g)→Γ.pt r=some B→Γ'.ro B.blk=true∧Γ'.kp B.blk=w.heap[B.blk]?)→
  R2 (CR Γ) xs vs→argL (argNC P s passed t) xs=some (c,ys)→allT c→R2 (CR Γ') ys vs
 | [],ys,vs,c,_,r,h,_=>by
   simp only [argL,Option.some.injEq,Prod.mk.injEq] at h
   obtain ⟨-,rfl⟩:=h
   cases r; exact .nil
 | x::xs,ys,vs,c,hl,r,h,hc=>by
   simp only [argL] at h
   split at h
   ·rename_i c1 a c2 l h1 h2
    cases h
    obtain ⟨hc1,hc2⟩:=allT_append hc
    cases r with
    | cons r1 r2=>
      exact .cons (argNC_rel hw hren hro (fun q B g hq=>hl q B g (by simp [hq])) r1 h1 hc1) (argL_rel hw hren hro (fun q B g hq=>hl q B g (by simp only [List.flatMap_cons,List.mem_append]; exact .inr hq)) r2 h2 hc2)
   ·cases h
theorem argSegs_rel {P:Program} {s:St} {Γ Γ' : Env} {w:World} {passed:List Nat} {t:Option TypeId} (hw:WRel Γ s.rg w) (hren:Ren (posIn passed) Γ Γ') (hro:RoOk Γ Γ') :
  ∀ {xs ys:List Seg} {vs:List Value} {c:List Bool},(∀ r B g,r∈(segNcs xs).flatMap names→r ∉ passed→s.rg[r]? = some (some g)→Γ.pt r=some B→Γ'.ro B.blk=true∧Γ'.kp B.blk=w.heap[B.blk]?)→
  R2 (CR Γ) (segFlat xs) vs→SegOk xs→argSegs (argNC P s passed t) xs=some (c,ys)→allT c→R2 (CR Γ') (segFlat ys) vs∧SegOk ys
 | [],ys,vs,c,_,r,_,h,_=>by
   simp only [argSegs,Option.some.injEq,Prod.mk.injEq] at h
   obtain ⟨-,rfl⟩:=h
   cases r; exact ⟨.nil,SegOk.none⟩
 | x::xs,ys,vs,c,hl,r,ho,h,hc=>by
   simp only [argSegs] at h
   split at h
   case h_2=>cases h
   rename_i c1 a c2 l h1 h2
   cases h
   obtain ⟨hc1,hc2⟩:=allT_append hc
   rw [segFlat_cons] at r
   obtain ⟨r1,r2⟩:=r.split
   obtain ⟨i1,i2⟩:=argSegs_rel hw hren hro (fun q B g hq=>hl q B g (by simp only [segNcs,List.flatMap_append,List.mem_append]; exact .inr hq)) r2 ho.tail h2 hc2
   rw [segFlat_cons,← List.take_append_drop x.flat.length vs]
   cases x with
   | cells cs=>
     simp only [argSeg,Option.map_eq_some_iff] at h1
     obtain ⟨p,hp,he⟩:=h1
     cases he
     exact ⟨(argL_rel hw hren hro (fun q B g hq=>hl q B g (by simp only [segNcs,Seg.ncs,List.flatMap_append,List.mem_append]; exact .inl hq)) r1 hp hc1).append i1,SegOk.mk trivial i2⟩
   | ints k n zs=>
     simp only [argSeg,Option.some.injEq,Prod.mk.injEq] at h1
     obtain ⟨-,rfl⟩:=h1
     exact ⟨(Seg.plain_rel (fun _ e=>by cases e) r1).append i1,SegOk.mk ho.head i2⟩
   | recs ks n zs=>
     simp only [argSeg,Option.some.injEq,Prod.mk.injEq] at h1
     obtain ⟨-,rfl⟩:=h1
     exact ⟨(Seg.plain_rel (fun _ e=>by cases e) r1).append i1,SegOk.mk ho.head i2⟩
theorem argNV_rel {P:Program} {s:St} {Γ Γ' : Env} {w:World} {passed:List Nat} {t:Option TypeId} {x y:NV} {v:Value} {c:List Bool} (hw:WRel Γ s.rg w) (hren:Ren (posIn passed) Γ Γ') (hro:RoOk Γ Γ')
  (hlent:∀ r B g,r∈x.names→r ∉ passed→s.rg[r]? = some (some g)→Γ.pt r=some B→Γ'.ro B.blk=true∧Γ'.kp B.blk=w.heap[B.blk]?)
  (r:VRel Γ x v) (h:argNV P s passed t x=some (c,y)) (hc:allT c):VRel Γ' y v:=by
 cases x with
 | c x=>
   simp only [argNV,Option.map_eq_some_iff] at h
   obtain ⟨p,hp,he⟩:=h
   cases he
   exact argNC_rel hw hren hro (fun q B g hq=>hlent q B g (by simp [NV.names,NV.ncs,hq])) r hp hc
 | ag xs=>
   simp only [argNV,Option.map_eq_some_iff] at h
   obtain ⟨p,hp,he⟩:=h
   cases he
   obtain ⟨vs,hv,hr⟩:=r
   exact ⟨vs,hv,argL_rel hw hren hro (fun q B g hq=>hlent q B g hq) hr hp hc⟩
 | sg l=>
   simp only [argNV,Option.map_eq_some_iff] at h
   obtain ⟨p,hp,he⟩:=h
   cases he
   obtain ⟨vs,hv,hr,ho⟩:=r
   exact ⟨vs,hv,argSegs_rel hw hren hro (fun q B g hq=>hlent q B g hq) hr ho hp hc⟩
theorem argsNV_rel {P:Program} {s:St} {Γ Γ' : Env} {w:World} {passed:List Nat} (hw:WRel Γ s.rg w) (hren:Ren (posIn passed) Γ Γ') (hro:RoOk Γ Γ') :
  ∀ {ts:List TypeId} {xs ys:List NV} {vs:List Value} {c:List Bool},(∀ r B g,r∈xs.flatMap NV.names→r ∉ passed→s.rg[r]? = some (some g)→Γ.pt r=some B→Γ'.ro B.blk=true∧Γ'.kp B.blk=w.heap[B.blk]?)→
  R2 (VRel Γ) xs vs→argsNV P s passed ts xs=some (c,ys)→allT c→R2 (VRel Γ') ys vs
 | _,[],ys,vs,c,_,r,h,_=>by
   simp only [argsNV,Option.some.injEq,Prod.mk.injEq] at h
   obtain ⟨-,rfl⟩:=h
   cases r; exact .nil
 | ts,x::xs,ys,vs,c,hl,r,h,hc=>by
   simp only [argsNV] at h
   split at h
   ·rename_i c1 a c2 l h1 h2
    cases h
    obtain ⟨hc1,hc2⟩:=allT_append hc
    cases r with
    | cons r1 r2=>
      exact .cons (argNV_rel hw hren hro (fun q B g hq=>hl q B g (by simp only [List.flatMap_cons,List.mem_append]; exact .inl hq)) r1 h1 hc1) (argsNV_rel hw hren hro (fun q B g hq=>hl q B g (by simp only [List.flatMap_cons,List.mem_append]; exact .inr hq)) r2 h2 hc2)
   ·cases h
theorem ups_append (s:St) (a b:List (Nat × Option Reg)):s.ups (a++b)=(s.ups a).ups b:=by
 induction a generalizing s with
 | nil=>rfl
 | cons x a ih=>obtain ⟨n,g⟩:=x; exact ih _
theorem ups_fr (s:St) (u:List (Nat × Option Reg)):(s.ups u).fr=s.fr:=by
 induction u generalizing s with
 | nil=>rfl
 | cons x u ih=>obtain ⟨n,g⟩:=x; exact (ih _).trans rfl
theorem ups_get {s:St} {u:List (Nat × Option Reg)} {n:Nat} {g:Reg} (h:(s.ups u).rg[n]? = some (some g)):(n,some g)∈u∨(s.rg[n]? = some (some g)∧∀ x,(n,x) ∉ u):=by
 induction u generalizing s with
 | nil=>exact .inr ⟨h,by simp⟩
 | cons x u ih=>
   obtain ⟨m,y⟩:=x
   rcases ih (s:=s.setReg m y) h with h1 | ⟨h1,h2⟩
   ·exact .inl (by simp [h1])
   ·rcases (putAt_get _ _ _ _ _).1 h1 with ⟨rfl,rfl⟩ | ⟨h3,h4⟩
    ·exact .inl (by simp)
    ·refine .inr ⟨h4,fun x hx=>?_⟩
     simp only [List.mem_cons,Prod.mk.injEq] at hx
     rcases hx with ⟨rfl,-⟩ | hx
     ·exact h3 rfl
     ·exact h2 x hx
theorem ups_kill {s:St} {l:List Nat} {n:Nat} {g:Reg} (h:(s.ups (l.map fun n=>(n,none))).rg[n]? = some (some g)):s.rg[n]? = some (some g)∧n ∉ l:=by
 rcases ups_get h with h1 | ⟨h1,h2⟩
 ·simp only [List.mem_map,Prod.mk.injEq,reduceCtorEq,and_false,exists_false] at h1
 ·refine ⟨h1,fun hn=>h2 none (by simp only [List.mem_map,Prod.mk.injEq,and_true]; exact ⟨n,hn,rfl⟩)⟩
theorem upsOf_mem {back:Nat→Option Nat}:∀ {rg:List (Option Reg)} {j:Nat} {u:List (Nat × Option Reg)},upsOf back j rg=some u→
  (∀ n x,(n,x)∈u→∃ i,back (j+i)=some n∧rg[i]? = some x)∧(∀ i x,rg[i]? = some x→∃ n,back (j+i)=some n∧(n,x)∈u)
 | [],j,u,h=>by simp [upsOf] at h; subst h; exact ⟨fun n x h=>by simp at h,fun i x h=>by simp at h⟩
 | g::l,j,u,h=>by
   simp only [upsOf] at h
   split at h
   ·rename_i n r hn hr
    cases h
    obtain ⟨h1,h2⟩:=upsOf_mem hr
    refine ⟨fun m x hm=>?_,fun i x hi=>?_⟩
    ·simp only [List.mem_cons,Prod.mk.injEq] at hm
     rcases hm with ⟨rfl,rfl⟩ | hm
     ·exact ⟨0,hn,by simp⟩
     ·obtain ⟨i,h3,h4⟩:=h1 m x hm
      exact ⟨i+1,by rw [← h3]; congr 1; omega,by simpa using h4⟩
    ·cases i with
     | zero=>simp at hi; subst hi; exact ⟨n,hn,by simp⟩
     | succ i=>
       obtain ⟨m,h3,h4⟩:=h2 i x (by simpa using hi)
       exact ⟨m,by rw [← h3]; congr 1; omega,by simp [h4]⟩
   ·cases h
theorem ncallP_sound {X:Cx} (hcon:∀ f T,X.con f=some T→Known X.P X.glob f T) {q:Nat} {passed:List Nat} (hnd:passed.Nodup) {f:FuncId} {args:List NV} {nm:Nat} {s:St} {Γ:Env} {w:World} {vs:List Value} {R:Eff→Prop}
  (hw:WRel Γ s.rg w) (hG:GlobOk X.glob Γ) (hargs:R2 (VRel Γ) args vs) (hnm:∀ k,nm≤k→k<nm+q→Γ.μ k=none) (h:(ncallP X q passed f args nm s).run R) :
  Calls X.P f vs.toArray w fun e w'=>∃ x v,R x∧e=.returned v∧EffQ q Γ s w nm x v w':=by
 unfold ncallP at h
 split at h
 case h_2=>exact h.elim
 rename_i T fn hT hfn
 simp only at h
 split at h
 case h_2=>exact h.elim
 rename_i c args' regs hargs' hregs
 split at h
 case h_1=>exact h.elim
 obtain ⟨hc,h⟩:=(chkT_run _ _ _).1 h
 rw [Tr.run_bind] at h
 generalize hlent:((args.flatMap NV.names).filter fun n=>!passed.contains n)=lent at *
 have hlt:∀ {b:Nat} {o:Obj},w.heap[b]? = some o→b<w.heap.size:=fun e=>(Array.getElem?_eq_some_iff.1 e).1
 -- the regions that are handed over
 have hreg2:=mapL_spec hregs
 have hplive:∀ n∈passed,live s.rg n:=by
  intro n hn
  obtain ⟨j,hj⟩:=List.getElem?_of_mem hn
  obtain ⟨g,hg,hr⟩:=hreg2.get hj
  simp only [Option.bind_eq_some_iff] at hr
  obtain ⟨g0,h1,-⟩:=hr
  exact ⟨g0,(reg_eq s n g0).1 h1⟩
 have hrg:mapRg (mapNC (posIn passed)) (passed.map s.reg)=some (regs.map some):=by
  clear hplive hnd h hargs' hregs hlent
  have key:∀ {L:List Nat} {regs:List Reg},R2 (fun n g=>(s.reg n).bind (mapReg (mapNC (posIn passed)))=some g) L regs→mapRg (mapNC (posIn passed)) (L.map s.reg)=some (regs.map some):=by
   intro L regs hr
   induction hr with
   | nil=>rfl
   | cons a _ ih=>
     simp only [Option.bind_eq_some_iff] at a
     obtain ⟨g0,h1,h2⟩:=a
     simp only [List.map_cons,h1,mapRg,h2,ih]
  exact key hreg2
 -- where they lie
 let PB:Nat→Prop:=fun b=>∃ n B,n∈passed∧Γ.pt n=some B∧B.blk=b
 let LB:Nat→Prop:=fun b=>∃ n B,n∈lent∧live s.rg n∧Γ.pt n=some B∧B.blk=b
 have hPBlive:∀ b,PB b→∃ o,w.heap[b]? = some o∧Γ.kp b=none:=by
  rintro b ⟨n,B,hn,hB,rfl⟩
  obtain ⟨g,hg⟩:=hplive n hn
  obtain ⟨o,ho⟩:=hw.obj hB hg
  exact ⟨o,ho,hw.apart n B ⟨g,hg⟩ hB⟩
 have hLBpb:∀ b,LB b→¬ PB b:=by
  rintro b ⟨n,B,hn,hl,hB,rfl⟩ ⟨n',B',hn',hB',he⟩
  have hne:n≠n':=by
   rintro rfl
   rw [← hlent] at hn
   simp only [List.mem_filter,Bool.not_eq_eq_eq_not,Bool.not_true] at hn
   have:=hn.2
   simp at this
   exact this hn'
  exact hw.inj n n' B B' hne hl (hplive n' hn') hB hB' he.symm
 obtain ⟨kpc,hkpc1,hkpc2⟩:∃ kp:Nat→Option Obj,(∀ b,PB b→kp b=none)∧(∀ b,¬ PB b→kp b=w.heap[b]?):=by
  classical
  exact ⟨fun b=>if PB b then none else w.heap[b]?,fun b hb=>if_pos hb,fun b hb=>if_neg hb⟩
 obtain ⟨roc,hroc⟩:∃ ro:Nat→Bool,∀ b,ro b=true↔(Γ.ro b=true∨LB b):=by
  classical
  exact ⟨fun b=>decide (Γ.ro b=true∨LB b),fun b=>by simp⟩
 let Γc:Env:={μ:=fun j=>(passed[j]?).bind Γ.μ,kp:=kpc,ro:=roc,er:=Γ.er}
 have hkpold:∀ b o,Γ.kp b=some o→¬ PB b∧kpc b=some o:=by
  intro b o hb
  have hn:¬ PB b:=fun hp=>by obtain ⟨_,_,h2⟩:=hPBlive b hp; rw [h2] at hb; cases hb
  exact ⟨hn,by rw [hkpc2 b hn]; exact hw.kp b o hb⟩
 have hroOk:RoOk Γ Γc:=fun b o h1 h2=>⟨(hroc b).2 (.inl h1),(hkpold b o h2).2⟩
 have hren:Ren (posIn passed) Γ Γc:=⟨fun n j B h1 h2=>by show (passed[j]?).bind Γ.μ=_; rw [posIn_spec h1]; exact h2,rfl⟩
 have hrosome:∀ b,roc b=true→∃ o,kpc b=some o:=by
  intro b hb
  rcases (hroc b).1 hb with h1 | h1
  ·obtain ⟨o,ho⟩:=hw.ro b h1
   exact ⟨o,(hkpold b o ho).2⟩
  ·have hnp:=hLBpb b h1
   obtain ⟨n,B,hn,⟨g,hg⟩,hB,rfl⟩:=h1
   obtain ⟨o,ho⟩:=hw.obj hB hg
   exact ⟨o,by rw [hkpc2 _ hnp]; exact ho⟩
 have hwc:WRel Γc (regs.map some) w:=by
  refine hw.restrict hnd hrg (fun _=>rfl) rfl hroOk (fun b o hb=>?_) (fun n B hn hl hB=>?_) hrosome
  ·by_cases hp:PB b
   ·have:kpc b=some o:=hb; rw [hkpc1 b hp] at this; cases this
   ·have:kpc b=some o:=hb; rw [hkpc2 b hp] at this; exact this
  ·exact hkpc1 _ ⟨n,B,hn,hB,rfl⟩
 have hGc:GlobOk X.glob Γc:=by
  refine ⟨fun x hx=>?_,hG.2⟩
  obtain ⟨ad,c,e,fz,ca,ta,h1,h2,h3,h4⟩:=hG.1 x hx
  exact ⟨ad,c,e,fz,ca,ta,h1,(hkpold _ _ h2).2,h3,(hkpold _ _ h4).2⟩
 have hargsc:R2 (VRel Γc) args' vs:=by
  refine argsNV_rel hw hren hroOk (fun r B g hr hnp hg hB=>?_) hargs hargs' hc
  have hlb:LB B.blk:=⟨r,B,by rw [← hlent]; simp [hr,hnp],⟨g,hg⟩,hB,rfl⟩
  exact ⟨(hroc _).2 (.inr hlb),hkpc2 _ (hLBpb _ hlb)⟩
 have hout:∀ n,regs.length≤n→Γc.μ n=none:=by
  intro n hn
  show (passed[n]?).bind Γ.μ=none
  rw [List.getElem?_eq_none (by rw [hreg2.length]; exact hn)]; rfl
 refine ((hcon f T hT).sound args' regs _ h Γc w vs hwc hGc hargsc hout).mono ?_
 rintro e w2 ⟨o,v,Γ2,hR,rfl,hext,hres,hw2,hwd⟩
 clear h
 -- what comes back
 split at hR
 case h_2=>exact hR.elim
 rename_i res ups hmres hups
 simp only [Option.bind_eq_some_iff] at hups
 obtain ⟨rg,hmrg,hups⟩:=hups
 split at hR
 case isFalse=>exact hR.elim
 rename_i htot
 generalize hback:backTo passed nm o.rg.length=back at *
 refine ⟨_,v,hR,rfl,?_⟩
 have hplen:passed.length=regs.length:=hreg2.length
 have hfresh:∀ n∈passed,¬ (nm≤n∧n<nm+q):=by
  intro n hn hh
  obtain ⟨g,hg⟩:=hplive n hn
  obtain ⟨B,hB,-⟩:=hw.live n g hg
  rw [hnm n hh.1 hh.2] at hB; cases hB
 have hbspec:∀ {j n:Nat},back j=some n→(j<passed.length∧passed[j]? = some n)∨(passed.length≤j∧j<o.rg.length∧n=nm+(j - passed.length)):=by
  intro j n hj
  rw [← hback] at hj
  unfold backTo at hj
  split at hj
  ·exact .inl ⟨by assumption,hj⟩
  ·split at hj
   ·simp only [Option.some.injEq] at hj; exact .inr ⟨by omega,by assumption,hj.symm⟩
   ·cases hj
 have hpblk:∀ {j n:Nat} {B:Blk},passed[j]? = some n→Γ.μ n=some B→Γ2.μ j=some B:=by
  intro j n B hj hB
  exact hext.le.μ j B (by show (passed[j]?).bind Γ.μ=_; rw [hj]; exact hB)
 let F:Prop:=(o.res.anyL||rgAnyL o.rg)=true
 obtain ⟨kp',hkp1,hkp2⟩:∃ kp:Nat→Option Obj,(∀ b,F∧Γ2.ro b=true→kp b=Γ2.kp b)∧(∀ b,¬ (F∧Γ2.ro b=true)→kp b=Γ.kp b):=by
  classical
  exact ⟨fun b=>if F∧Γ2.ro b=true then Γ2.kp b else Γ.kp b,fun b hb=>if_pos hb,fun b hb=>if_neg hb⟩
 obtain ⟨ro',hro'⟩:∃ ro:Nat→Bool,∀ b,ro b=true↔(Γ.ro b=true∨(F∧Γ2.ro b=true)):=by
  classical
  exact ⟨fun b=>decide (Γ.ro b=true∨(F∧Γ2.ro b=true)),fun b=>by simp⟩
 let Γ' : Env:={μ:=fun n=>if nm≤n∧n<nm+(o.rg.length - passed.length) then Γ2.μ (passed.length+(n - nm)) else Γ.μ n,kp:=kp',ro:=ro',er:=Γ.er}
 have hμold:∀ n,¬ (nm≤n∧n<nm+(o.rg.length - passed.length))→Γ'.μ n=Γ.μ n:=fun n hn=>if_neg hn
 have hμnew:∀ n,(nm≤n∧n<nm+(o.rg.length - passed.length))→Γ'.μ n=Γ2.μ (passed.length+(n - nm)):=fun n hn=>if_pos hn
 have hk2:∀ b o',Γ.kp b=some o'→Γ2.kp b=some o':=fun b o' hb=>hext.le.kp b o' (hkpold b o' hb).2
 have hle:Γ.le Γ':=by
  refine ⟨fun n B hB=>?_,fun b o' hb=>?_,fun b hb=>(hro' b).2 (.inl hb),rfl⟩
  ·have hn:¬ (nm≤n∧n<nm+(o.rg.length - passed.length)):=fun hh=>by rw [hnm n hh.1 (by omega)] at hB; cases hB
   rw [hμold n hn]; exact hB
  ·show kp' b=_
   by_cases hf:F∧Γ2.ro b=true
   ·rw [hkp1 b hf]; exact hk2 b o' hb
   ·rw [hkp2 b hf]; exact hb
 have hΓcpt:∀ {j:Nat} {B:Blk},Γc.pt j=some B→∃ n,passed[j]? = some n∧Γ.pt n=some B:=by
  intro j B hB
  obtain ⟨h1,h2⟩:=Env.pt_iff.1 hB
  have h3:(passed[j]?).bind Γ.μ=some B:=h1
  simp only [Option.bind_eq_some_iff] at h3
  obtain ⟨n,h4,h5⟩:=h3
  exact ⟨n,h4,Env.pt_iff.2 ⟨h5,h2⟩⟩
 have hΓ2blk:∀ j B,Γ2.pt j=some B→w.heap.size≤B.blk∨∃ n B',Γ.pt n=some B'∧B'.blk=B.blk:=by
  intro j B hB
  rcases hext.nw j B hB with h1 | ⟨n',B',h1,h2⟩
  ·exact .inl h1
  ·obtain ⟨n,-,h4⟩:=hΓcpt h1
   exact .inr ⟨n,B',h4,h2⟩
 have hΓ'pt:∀ {n:Nat} {B:Blk},Γ'.pt n=some B→(nm≤n∧n<nm+(o.rg.length - passed.length))→Γ2.pt (passed.length+(n - nm))=some B:=by
  intro n B hB hn
  obtain ⟨h1,h2⟩:=Env.pt_iff.1 hB
  rw [hμnew n hn] at h1
  exact Env.pt_iff.2 ⟨h1,h2⟩
 have hΓ'old:∀ {n:Nat} {B:Blk},Γ'.pt n=some B→¬ (nm≤n∧n<nm+(o.rg.length - passed.length))→Γ.pt n=some B:=by
  intro n B hB hn
  obtain ⟨h1,h2⟩:=Env.pt_iff.1 hB
  rw [hμold n hn] at h1
  exact Env.pt_iff.2 ⟨h1,h2⟩
 have hExt:Ext Γ w Γ':=by
  refine ⟨hle,fun b hb=>?_,fun n B hB=>?_⟩
  ·rcases (hro' b).1 hb with h1 | ⟨-,h1⟩
   ·exact .inl h1
   ·rcases hext.ro b h1 with h2 | h2 | ⟨n,B,h2,h3⟩
    ·rcases (hroc b).1 h2 with h3 | ⟨n,B,-,-,h4,h5⟩
     ·exact .inl h3
     ·exact .inr (.inr ⟨n,B,h4,h5⟩)
    ·exact .inr (.inl h2)
    ·obtain ⟨n',-,h5⟩:=hΓcpt h2
     exact .inr (.inr ⟨n',B,h5,h3⟩)
  ·by_cases hn:nm≤n∧n<nm+(o.rg.length - passed.length)
   ·exact hΓ2blk _ B (hΓ'pt hB hn)
   ·exact .inr ⟨n,B,hΓ'old hB hn,rfl⟩
 have hren' : Ren back Γ2 Γ':=by
  refine ⟨fun j n B hj hB=>?_,?_⟩
  ·rcases hbspec hj with ⟨h1,h2⟩ | ⟨h1,h2,rfl⟩
   ·have hmem:=List.mem_of_getElem? h2
    rw [hμold n (fun hh=>hfresh n hmem (by omega))]
    obtain ⟨g,hg⟩:=hplive n hmem
    obtain ⟨B0,hB0,-⟩:=hw.live n g hg
    rw [hpblk h2 hB0] at hB
    cases hB; exact hB0
   ·rw [hμnew _ (by omega)]
    have e:passed.length+(nm+(j - passed.length) - nm)=j:=by omega
    rw [e]; exact hB
  ·show Γ.er=Γ2.er
   rw [hext.le.er]
 have hroF:F→RoOk Γ2 Γ':=fun hf b o' h1 h2=>⟨(hro' b).2 (.inr ⟨hf,h1⟩),by show kp' b=_; rw [hkp1 b ⟨hf,h1⟩]; exact h2⟩
 -- regions that stay aside
 have hptOf2:∀ {n:Nat} {B:Blk},Γ2.μ n=some B→B.gh=false→Γ2.pt n=some B:=fun h h'=>Env.pt_iff.2 ⟨h,h'⟩
 have hptOf:∀ {n:Nat} {B:Blk},Γ.μ n=some B→B.gh=false→Γ.pt n=some B:=fun h h'=>Env.pt_iff.2 ⟨h,h'⟩
 have haside:∀ {n:Nat} {g:Reg} {B:Blk},n ∉ passed→s.rg[n]? = some (some g)→Γ.pt n=some B→¬ PB B.blk∧Γ2.kp B.blk=w.heap[B.blk]?∧w2.heap[B.blk]? = w.heap[B.blk]?:=by
  intro n g B hn hg hB
  have hnp:¬ PB B.blk:=by
   rintro ⟨n',B',hn',hB',he⟩
   exact hw.inj n' n B' B (fun e=>hn (e ▸ hn')) (hplive n' hn') ⟨g,hg⟩ hB' hB he
  obtain ⟨ob,hcs⟩:=hw.obj hB hg
  have h1:Γ2.kp B.blk=some ob:=hext.le.kp _ _ (by show kpc _=_; rw [hkpc2 _ hnp]; exact hcs)
  exact ⟨hnp,by rw [h1,hcs],by rw [hw2.kp _ _ h1,hcs]⟩
 obtain ⟨hmlen,hmget⟩:=mapRg_get hmrg
 obtain ⟨hu1,hu2⟩:=upsOf_mem hups
 simp only [Nat.zero_add] at hu1 hu2
 -- what a region is behind the call
 have hcase:∀ {n:Nat} {g:Reg},(s.ups (ups++(if o.res.anyL||rgAnyL o.rg then lent.map fun n=>(n,none) else []))).rg[n]? = some (some g)→
   (F→n ∉ lent)∧((∃ j,back j=some n∧rg[j]? = some (some g))∨(n ∉ passed∧s.rg[n]? = some (some g)∧¬ (nm≤n∧n<nm+(o.rg.length - passed.length)))):=by
  intro n g hg
  rw [ups_append] at hg
  have hg2:(F→n ∉ lent)∧(s.ups ups).rg[n]? = some (some g):=by
   by_cases hf:F
   ·rw [if_pos hf] at hg
    obtain ⟨h1,h2⟩:=ups_kill hg
    exact ⟨fun _=>h2,h1⟩
   ·rw [if_neg hf] at hg
    exact ⟨fun h=>(hf h).elim,hg⟩
  refine ⟨hg2.1,?_⟩
  rcases ups_get hg2.2 with h1 | ⟨h1,h2⟩
  ·obtain ⟨i,h3,h4⟩:=hu1 _ _ h1
   exact .inl ⟨i,h3,h4⟩
  ·refine .inr ⟨fun hn=>?_,h1,fun hh=>?_⟩
   ·obtain ⟨j,hj⟩:=List.getElem?_of_mem hn
    have hjl:j<rg.length:=by rw [hmlen]; have:=(List.getElem?_eq_some_iff.1 hj).1; omega
    obtain ⟨m,h3,h4⟩:=hu2 j _ (List.getElem?_eq_getElem hjl)
    have:back j=some n:=by rw [← hback]; unfold backTo; rw [if_pos (List.getElem?_eq_some_iff.1 hj).1]; exact hj
    rw [this] at h3; cases h3
    exact h2 _ h4
   ·obtain ⟨B,hB,-⟩:=hw.live n g h1
    rw [hnm n hh.1 (by omega)] at hB; cases hB
 have hLany:∀ (j:Nat) (g:Reg),o.rg[j]? = some (some g)→g.anyL=true→F:=by
  intro j g hj hg
  show (_||_)=true
  rw [Bool.or_eq_true]
  right
  unfold rgAnyL
  rw [List.any_eq_true]
  refine ⟨some g,List.mem_of_getElem? hj,?_⟩
  unfold Reg.anyL at hg
  obtain ⟨st,e,body⟩:=g
  cases body <;> simp at hg ⊢
  ·exact hg
  ·exact hg
 have hback2:∀ {j n:Nat} {g:Reg},back j=some n→rg[j]? = some (some g)→∃ B,Γ'.μ n=some B∧Γ2.μ j=some B∧RegRel Γ' g B w2∧live o.rg j∧(B.gh=false→Γ2.kp B.blk=none):=by
  intro j n g hj hg
  obtain ⟨g0,hg0,hmg⟩:=hmget j g hg
  obtain ⟨B,hB,hr⟩:=hw2.live j g0 hg0
  exact ⟨B,hren'.μ _ _ _ hj hB,hB,mapReg_rel hren' (fun e=>hroF (hLany j g0 hg0 e)) hr hmg,⟨g0,hg0⟩,fun h0=>hw2.apart j B ⟨g0,hg0⟩ (Env.pt_iff.2 ⟨hB,h0⟩)⟩
 refine ⟨Γ',hExt,mapNS_rel hren' (fun e=>hroF (by show (_||_)=true; rw [e]; rfl)) hres hmres,?_,hwd,fun n h1 h2=>?_⟩
 rotate_left
 ·by_cases hn:nm≤n∧n<nm+(o.rg.length - passed.length)
  ·exfalso
   refine h2 ⟨hn.1,by omega,?_⟩
   have hjl:passed.length+(n - nm)<rg.length:=by rw [hmlen]; omega
   obtain ⟨m,h3,h4⟩:=hu2 _ _ (List.getElem?_eq_getElem hjl)
   have:m=n:=by
    rcases hbspec h3 with ⟨h5,-⟩ | ⟨-,-,h5⟩
    ·omega
    ·omega
   subst this
   exact ups_len (List.mem_append_left _ h4)
  ·rw [hμold n hn]; exact h1
 refine ⟨fun n g hn=>?_,fun a b Ba Bb hne la lb ha hb=>?_,fun b o' hb=>?_,fun n B ln hB=>?_,fun b hb=>?_⟩
 ·obtain ⟨-,⟨j,h1,h2⟩ | ⟨h1,h2,h3⟩⟩:=hcase hn
  ·obtain ⟨B,h3,-,h4,-⟩:=hback2 h1 h2
   exact ⟨B,h3,h4⟩
  ·obtain ⟨B,hB,hr⟩:=hw.live n g h2
   exact ⟨B,hle.μ _ _ hB,(hr.heap fun h0=>(haside h1 h2 (hptOf hB h0)).2.2).mono hle⟩
 ·obtain ⟨ga,hga⟩:=la
  obtain ⟨gb,hgb⟩:=lb
  obtain ⟨hma,hga0⟩:=Env.pt_iff.1 ha
  obtain ⟨hmb,hgb0⟩:=Env.pt_iff.1 hb
  obtain ⟨-,⟨ja,a1,a2⟩ | ⟨a1,a2,a3⟩⟩:=hcase hga <;> obtain ⟨-,⟨jb,b1,b2⟩ | ⟨b1,b2,b3⟩⟩:=hcase hgb
  ·obtain ⟨B1,e1,e2,-,e3,-⟩:=hback2 a1 a2
   obtain ⟨B2,f1,f2,-,f3,-⟩:=hback2 b1 b2
   rw [hma] at e1; cases e1
   rw [hmb] at f1; cases f1
   exact hw2.inj ja jb _ _ (fun e=>by subst e; rw [a1] at b1; cases b1; exact hne rfl) e3 f3 (hptOf2 e2 hga0) (hptOf2 f2 hgb0)
  ·obtain ⟨B1,e1,e2,-,e3,e4⟩:=hback2 a1 a2
   rw [hma] at e1; cases e1
   have e4:=e4 hga0
   have hb:=hΓ'old hb b3
   obtain ⟨-,h5,-⟩:=haside b1 b2 hb
   intro e
   rw [← e,e4] at h5
   obtain ⟨ob,hcs⟩:=hw.obj hb b2
   rw [← e] at hcs
   rw [hcs] at h5; cases h5
  ·obtain ⟨B1,e1,e2,-,e3,e4⟩:=hback2 b1 b2
   rw [hmb] at e1; cases e1
   have e4:=e4 hgb0
   have ha:=hΓ'old ha a3
   obtain ⟨-,h5,-⟩:=haside a1 a2 ha
   intro e
   rw [e,e4] at h5
   obtain ⟨ob,hcs⟩:=hw.obj ha a2
   rw [e] at hcs
   rw [hcs] at h5; cases h5
  ·exact hw.inj a b Ba Bb hne ⟨ga,a2⟩ ⟨gb,b2⟩ (hΓ'old ha a3) (hΓ'old hb b3)
 ·have hb' : kp' b=some o':=hb
  by_cases hf:F∧Γ2.ro b=true
  ·rw [hkp1 b hf] at hb'; exact hw2.kp b o' hb'
  ·rw [hkp2 b hf] at hb'; exact hw2.kp b o' (hk2 b o' hb')
 ·obtain ⟨g,hg⟩:=ln
  show kp' B.blk=none
  obtain ⟨hnl,⟨j,h1,h2⟩ | ⟨h1,h2,h3⟩⟩:=hcase hg
  ·obtain ⟨B1,e1,e2,-,e3,e4⟩:=hback2 h1 h2
   obtain ⟨hmB,hg0⟩:=Env.pt_iff.1 hB
   rw [hmB] at e1; cases e1
   have e4:=e4 hg0
   by_cases hf:F∧Γ2.ro B.blk=true
   ·rw [hkp1 _ hf]; exact e4
   ·rw [hkp2 _ hf]
    cases e:Γ.kp B.blk with
    | none=>rfl
    | some o'=>rw [hk2 _ _ e] at e4; cases e4
  ·have hB:=hΓ'old hB h3
   have hap:=hw.apart n B ⟨g,h2⟩ hB
   by_cases hf:F∧Γ2.ro B.blk=true
   ·exfalso
    obtain ⟨hnp,-,-⟩:=haside h1 h2 hB
    rcases hext.ro _ hf.2 with h4 | h4 | ⟨j,B',h4,h5⟩
    ·rcases (hroc _).1 h4 with h5 | ⟨r,B',hr,lr,hB',he⟩
     ·obtain ⟨o',ho⟩:=hw.ro _ h5
      rw [hap] at ho; cases ho
     ·have:r=n:=by
       by_cases e:r=n
       ·exact e
       ·exact (hw.inj r n B' B e lr ⟨g,h2⟩ hB' hB he).elim
      subst this
      exact hnl hf.1 hr
    ·obtain ⟨ob,hcs⟩:=hw.obj hB h2
     have:=hlt hcs
     omega
    ·obtain ⟨n',h7,h8⟩:=hΓcpt h4
     exact hnp ⟨n',B',List.mem_of_getElem? h7,h8,h5⟩
   ·rw [hkp2 _ hf]; exact hap
 ·show ∃ o',kp' b=some o'
  by_cases hf:F∧Γ2.ro b=true
  ·rw [hkp1 b hf]; exact hw2.ro b hf.2
  ·rw [hkp2 b hf]
   rcases (hro' b).1 hb with h1 | h1
   ·exact hw.ro b h1
   ·exact (hf h1).elim
theorem names_some {Γ:Env} {x:NC} {v:Value} (h:CRel Γ x v):∀ n∈names x,∃ B,Γ.μ n=some B:=by
 intro n hn
 cases x <;> simp only [names,List.mem_singleton,List.not_mem_nil] at hn
 case p=>subst hn; obtain ⟨B,h1,-⟩:=h; exact ⟨B,Env.pt_μ h1⟩
 case q=>subst hn; obtain ⟨B,h1,-⟩:=h; exact ⟨B,Env.pt_μ h1⟩
 case m=>subst hn; obtain ⟨B,h1,-⟩:=h; exact ⟨B,Env.pt_μ h1⟩
 case hq=>subst hn; obtain ⟨B,a,cap,h1,-⟩:=h; exact ⟨B,Env.pt_μ h1⟩
 case h=>subst hn; obtain ⟨B,a,cap,h1,-⟩:=h; exact ⟨B,Env.wh_μ h1⟩
 case hz=>
  subst hn
  rcases h with ⟨-,-,h⟩ | ⟨B,a,cap,h1,-⟩
  ·exact h
  ·exact ⟨B,Env.wh_μ h1⟩
 case cl f cap=>
  obtain ⟨caps,-,h2⟩:=h
  rw [List.mem_map] at hn
  obtain ⟨y,hy,rfl⟩:=hn
  obtain ⟨j,hj⟩:=List.getElem?_of_mem hy
  obtain ⟨u,-,B,h3,-⟩:=h2.get hj
  exact ⟨B,Env.pt_μ h3⟩
theorem mapM_but {nm:Nat}:∀ {l:List (Nat × Nat × Nat)},(∀ x∈l,x.1≠nm)→(l.mapM fun x=>(but nm x.1).map fun r=>(r,x.2))=some l
 | [],_=>rfl
 | x::l,h=>by
   rw [List.mapM_cons]
   have h1:but nm x.1=some x.1:=if_neg (h x (by simp))
   rw [h1,mapM_but fun y hy=>h y (by simp [hy])]
   rfl
theorem mapNC_but {nm:Nat} {x:NC} (h:nm ∉ names x):mapNC (but nm) x=some x:=by
 have hb:∀ {r:Nat},r≠nm→but nm r=some r:=fun h=>if_neg h
 cases x <;> simp only [names,List.mem_singleton] at h <;> simp only [mapNC]
 case p=>rw [hb (Ne.symm h)]; rfl
 case h=>rw [hb (Ne.symm h)]; rfl
 case q=>rw [hb (Ne.symm h)]; rfl
 case hq=>rw [hb (Ne.symm h)]; rfl
 case hz=>rw [hb (Ne.symm h)]; rfl
 case m=>rw [hb (Ne.symm h)]; rfl
 case cl f cap=>
  rw [mapM_but fun x hx e=>h (by rw [List.mem_map]; exact ⟨x,hx,e⟩)]
  rfl
theorem mapM_same {nm:Nat}:∀ {l m:List (Nat × Nat × Nat)},(l.mapM fun x=>(but nm x.1).map fun r=>(r,x.2))=some m→m=l
 | [],m,h=>by simp at h; exact h.symm ▸ rfl
 | x::l,m,h=>by
   rw [List.mapM_cons] at h
   unfold but at h
   split at h
   ·cases h
   ·cases hl:(l.mapM fun x=>(but nm x.1).map fun r=>(r,x.2)) with
    | none=>
      have:(l.mapM fun x=>(if x.1=nm then none else some x.1).map fun r=>(r,x.2))=none:=hl
      rw [this] at h; cases h
    | some k=>
      have:(l.mapM fun x=>(if x.1=nm then none else some x.1).map fun r=>(r,x.2))=some k:=hl
      rw [this] at h
      cases h
      rw [mapM_same hl]
theorem mapNC_same {nm:Nat} {x y:NC} (h:mapNC (but nm) x=some y):y=x:=by
 have hb:∀ {r m:Nat},but nm r=some m→m=r:=fun {r m} h=>by
  unfold but at h
  split at h
  ·cases h
  ·cases h; rfl
 cases x <;> simp only [mapNC,Option.map_eq_some_iff,Option.some.injEq] at h
 case p=>obtain ⟨a,h1,rfl⟩:=h; rw [hb h1]
 case h=>obtain ⟨a,h1,rfl⟩:=h; rw [hb h1]
 case q=>obtain ⟨a,h1,rfl⟩:=h; rw [hb h1]
 case hq=>obtain ⟨a,h1,rfl⟩:=h; rw [hb h1]
 case hz=>obtain ⟨a,h1,rfl⟩:=h; rw [hb h1]
 case m=>obtain ⟨a,h1,rfl⟩:=h; rw [hb h1]
 case cl f cap=>obtain ⟨a,h1,rfl⟩:=h; rw [mapM_same h1]
 all_goals exact h.symm
theorem mapL_same {α:Type} {f:α→Option α} (hf:∀ x y,f x=some y→y=x):∀ {l m:List α},mapL f l=some m→m=l
 | [],m,h=>by simp [mapL] at h; exact h
 | x::l,m,h=>by
   simp only [mapL] at h
   split at h
   ·rename_i a r ha hr
    cases h
    rw [hf _ _ ha,mapL_same hf hr]
   ·cases h
theorem mapL_all {α:Type} {f:α→Option α}:∀ {l:List α},(∀ x∈l,f x=some x)→mapL f l=some l
 | [],_=>rfl
 | x::l,h=>by
   simp only [mapL]
   rw [h x (by simp),mapL_all fun y hy=>h y (by simp [hy])]
theorem mapSeg_same {nm:Nat} {s t:Seg} (h:mapSeg (mapNC (but nm)) s=some t):t=s:=by
 cases s with
 | cells xs=>
   simp only [mapSeg,Option.map_eq_some_iff] at h
   obtain ⟨z,hz,rfl⟩:=h
   rw [mapL_same (fun _ _=>mapNC_same) hz]
 | ints k n xs=>cases h; rfl
 | recs ks n xs=>cases h; rfl
theorem mapReg_same {nm:Nat} {g g' : Reg} (h:mapReg (mapNC (but nm)) g=some g'):g'=g:=by
 unfold mapReg at h
 split at h
 ·rename_i xs hb
  simp only [Option.map_eq_some_iff] at h
  obtain ⟨z,hz,rfl⟩:=h
  rw [mapL_same (fun _ _=>mapNC_same) hz,← hb]
 ·rename_i l hb
  simp only [Option.map_eq_some_iff] at h
  obtain ⟨z,hz,rfl⟩:=h
  rw [mapL_same (fun _ _=>mapSeg_same) hz,← hb]
 ·cases h; rfl
theorem mapReg_but {Γ:Env} {g:Reg} {B:Blk} {w:World} {nm:Nat} (h:RegRel Γ g B w) (hn:Γ.μ nm=none):mapReg (mapNC (but nm)) g=some g:=by
 have one:∀ {x:NC} {v:Value},CR Γ x v→mapNC (but nm) x=some x:=fun {x v} r=>mapNC_but fun hm=>by
  obtain ⟨B,hB⟩:=names_some r.1 nm hm
  rw [hn] at hB; cases hB
 have cells:∀ {xs:List NC} {l:List Value},R2 (CR Γ) xs l→mapL (mapNC (but nm)) xs=some xs:=fun {xs l} r=>mapL_all fun x hx=>by
  obtain ⟨j,hj⟩:=List.getElem?_of_mem hx
  obtain ⟨u,-,hu⟩:=r.get hj
  exact one hu
 have segs:∀ {l:List Seg} {vs:List Value},R2 (CR Γ) (segFlat l) vs→SegOk l→mapL (mapSeg (mapNC (but nm))) l=some l:=by
  intro l
  induction l with
  | nil=>intro vs _ _; rfl
  | cons s l ih=>
    intro vs r hok
    have hs:R2 (CR Γ) s.flat (vs.take s.flat.length)∧R2 (CR Γ) (segFlat l) (vs.drop s.flat.length):=by
     have:segFlat (s::l)=s.flat++segFlat l:=by
      cases l with
      | nil=>simp [segFlat]
      | cons t l=>rfl
     rw [this] at r
     exact r.split
    have h1:mapSeg (mapNC (but nm)) s=some s:=by
     cases s with
     | cells xs=>
       simp only [mapSeg]
       rw [cells (xs:=xs) hs.1]
       rfl
     | ints k n xs=>rfl
     | recs ks n xs=>rfl
    simp only [mapL,h1,ih hs.2 fun t ht=>hok t (by simp [ht])]
 rcases h with ⟨-,⟨k,hb⟩ | ⟨ks,hb⟩ | ⟨sch,hb,-⟩⟩ | ⟨-,c,hA⟩ | ⟨-,hm⟩
 ·unfold mapReg; rw [hb]
 ·unfold mapReg; rw [hb]
 ·unfold mapReg; rw [hb]
 rotate_left
 ·obtain ⟨ks,sch,xs,es,ck,hb,-⟩:=hm.mp
  unfold mapReg; rw [hb]
 ·have hbody:=hA.body
  unfold mapReg
  split
  ·rename_i xs hb
   rw [hb] at hbody
   obtain ⟨l1,l2,-,hr⟩:=hbody
   rw [cells hr,Option.map_some,← hb]
  ·rename_i l hb
   rw [hb] at hbody
   obtain ⟨l1,l2,-,hr,hok⟩:=hbody
   rw [segs hr hok,Option.map_some,← hb]
  ·rfl
theorem mapRg_mem {f:NC→Option NC}:∀ {l m:List (Option Reg)},mapRg f l=some m→∀ g,some g∈l→∃ g',mapReg f g=some g'
 | [],_,_,g,h=>by simp at h
 | none::l,m,h,g,hg=>by
   simp only [mapRg,Option.map_eq_some_iff] at h
   obtain ⟨z,hz,-⟩:=h
   simp only [List.mem_cons,reduceCtorEq,false_or] at hg
   exact mapRg_mem hz g hg
 | some a::l,m,h,g,hg=>by
   simp only [mapRg] at h
   split at h
   ·rename_i b r hb hr
    simp only [List.mem_cons,Option.some.injEq] at hg
    rcases hg with rfl | hg
    ·exact ⟨b,hb⟩
    ·exact mapRg_mem hr g hg
   ·cases h
theorem upOf_get {n:Nat} {h:Reg}:∀ {l:List (Nat × Option Reg)} {s:St},upOf n l=some h→(∀ x,(n,x)∈l→x.isSome=true)→(s.ups l).rg[n]? = some (some h)
 | [],s,hu,_=>by cases hu
 | (m,g)::l,s,hu,hs=>by
   simp only [upOf] at hu
   split at hu
   ·rename_i h' hh
    cases hu
    exact upOf_get (s:=s.setReg m g) hh fun x hx=>hs x (by simp [hx])
   ·rename_i hnone
    split at hu
    ·rename_i e
     subst e
     subst hu
     have hno:∀ x,(m,x) ∉ l:=fun x hx=>by
      have key:∀ {l:List (Nat × Option Reg)},upOf m l=none→(∀ x,(m,x)∈l→x.isSome=true)→∀ x,(m,x) ∉ l:=by
       intro l
       induction l with
       | nil=>intro _ _ x hx; simp at hx
       | cons y l ih=>
         obtain ⟨k,z⟩:=y
         intro h1 h2 x hx
         simp only [upOf] at h1
         split at h1
         ·cases h1
         ·rename_i h3
          rcases List.mem_cons.1 hx with e | hx
          ·cases e
           rw [if_pos rfl] at h1
           have:=h2 z (by simp)
           rw [h1] at this; cases this
          ·exact ih h3 (fun x hx=>h2 x (by simp [hx])) x hx
      exact key hnone (fun x hx=>hs x (by simp [hx])) x hx
     have keep:∀ {l:List (Nat × Option Reg)} {s:St},(∀ x,(m,x) ∉ l)→s.rg[m]? = some (some h)→(s.ups l).rg[m]? = some (some h):=by
      intro l
      induction l with
      | nil=>intro s _ h; exact h
      | cons y l ih=>
        obtain ⟨k,z⟩:=y
        intro s h1 h2
        refine ih (s:=s.setReg k z) (fun x hx=>h1 x (by simp [hx])) ?_
        exact (putAt_get _ _ _ _ _).2 (.inr ⟨fun e=>h1 z (by simp [e]),h2⟩)
     exact keep (s:=s.setReg m (some h)) hno ((putAt_get _ _ _ _ _).2 (.inl ⟨rfl,rfl⟩))
    ·cases hu
theorem ups_agree {p:Nat→Bool} {n:Nat} (hp:p n=true):∀ (l:List (Nat × Option Reg)) {s s' : St},(∀ g,s.rg[n]? = some (some g)↔s'.rg[n]? = some (some g))→∀ g,(s.ups (l.filter fun u=>p u.1)).rg[n]? = some (some g)↔(s'.ups l).rg[n]? = some (some g)
 | [],s,s',h,g=>h g
 | (m,x)::l,s,s',h,g=>by
   cases hm:p m with
   | true=>
     have e:((m,x)::l).filter (fun u=>p u.1)=(m,x)::l.filter fun u=>p u.1:=by simp [hm]
     rw [e]
     refine ups_agree hp l (s:=s.setReg m x) (s':=s'.setReg m x) (fun g=>?_) g
     show (putAt s.rg m x)[n]? = _↔(putAt s'.rg m x)[n]? = _
     rw [putAt_get,putAt_get,h]
   | false=>
     have e:((m,x)::l).filter (fun u=>p u.1)=l.filter fun u=>p u.1:=by simp [hm]
     rw [e]
     refine ups_agree hp l (s:=s) (s':=s'.setReg m x) (fun g=>?_) g
     show _↔(putAt s'.rg m x)[n]? = _
     rw [putAt_get,h]
     have:n≠m:=fun e=>by rw [e,hm] at hp; cases hp
     simp [this]
theorem ups_kept {n:Nat} {p:Nat→Bool} (hp:p n=false):∀ (l:List (Nat × Option Reg)) {s:St} {g:Reg},(s.ups (l.filter fun u=>p u.1)).rg[n]? = some (some g)→s.rg[n]? = some (some g)
 | l,s,g,h=>by
   rcases ups_get h with h1 | ⟨h1,-⟩
   ·have:=(List.mem_filter.1 h1).2
    simp only at this
    rw [hp] at this; cases this
   ·exact h1
theorem ups_long {n:Nat}:∀ (l:List (Nat × Option Reg)) {s:St},n<(s.ups l).rg.length→n<s.rg.length∨∃ u∈l,n≤u.1
 | [],s,h=>.inl h
 | (m,x)::l,s,h=>by
   rcases ups_long l (s:=s.setReg m x) h with h1 | ⟨u,h1,h2⟩
   ·have:n<(putAt s.rg m x).length:=h1
    unfold putAt at this
    split at this
    ·rw [List.length_set] at this; exact .inl this
    ·simp at this
     by_cases e:n<s.rg.length
     ·exact .inl e
     ·exact .inr ⟨(m,x),by simp,by simp only; omega⟩
   ·exact .inr ⟨u,by simp [h1],h2⟩
theorem partOf_spec {P:Program} {Γ:Env} {g h:Reg} {o:Nat} {te:TypeId} {L:List Value} (hp:partOf P g o te=some h) (hb:BodyRel Γ g.st g.body L) :
  ∃ n m,h.body.len=some n∧g.body.len=some m∧o+n≤m∧m≤L.length∧BodyRel Γ h.st h.body (L.drop o)∧n=sizeT P te∧h.st=n:=by
 unfold partOf at hp
 split at hp
 ·rename_i xs hxb
  split at hp
  case isFalse=>cases hp
  rename_i hc
  cases hp
  rw [hxb] at hb ⊢
  obtain ⟨l1,l2,hl,hr⟩:=hb
  have hlen:=hr.length
  have e1:((xs.drop o).take (sizeT P te)).length=sizeT P te:=by rw [List.length_take,List.length_drop]; omega
  refine ⟨sizeT P te,xs.length,congrArg some e1,rfl,hc.1,by rw [hl,List.length_append]; omega,⟨(l1.drop o).take (sizeT P te),(l1.drop o).drop (sizeT P te)++l2,?_,(hr.drop o).take _⟩,rfl,rfl⟩
  rw [← List.append_assoc,List.take_append_drop,hl,List.drop_append_of_le_length (by omega)]
 ·rename_i l hxb
  split at hp
  case isFalse=>cases hp
  rename_i hc
  split at hp
  case h_2=>cases hp
  rename_i r hsub
  rw [hxb] at hb ⊢
  have hok:=hb.segOk
  obtain ⟨l1,l2,hl,hr,-⟩:=hb
  have hlen:=hr.length
  have hfl:=segFlat_length hok
  obtain ⟨s1,s2,-⟩:=segSub_spec hok hsub
  have hrf:R2 (CR Γ) (segFlat r) ((l1.drop o).take (sizeT P te)):=s2 ▸ (hr.drop o).take _
  have hrl:(segFlat r).length=sizeT P te:=by rw [s2,List.length_take,List.length_drop]; omega
  have hcut:L.drop o=(l1.drop o).take (sizeT P te)++((l1.drop o).drop (sizeT P te)++l2):=by
   rw [← List.append_assoc,List.take_append_drop,hl,List.drop_append_of_le_length (by omega)]
  split at hp
  ·cases hp
   exact ⟨sizeT P te,segSize l,congrArg some (by rw [← segFlat_length s1]; exact hrl),rfl,hc.1,by rw [hl,List.length_append]; omega,⟨_,_,hcut,hrf,s1⟩,rfl,rfl⟩
  ·cases hp
   exact ⟨sizeT P te,segSize l,congrArg some hrl,rfl,hc.1,by rw [hl,List.length_append]; omega,⟨_,_,hcut,hrf⟩,rfl,rfl⟩
 ·cases hp
theorem backOf_spec {Γ:Env} {g h g' : Reg} {o n m:Nat} {L M:List Value} (hb:backOf g h o=some g') (hn:h.body.len=some n) (hm:g.body.len=some m) (ho:o+n≤m)
  (hg:BodyRel Γ g.st g.body L) (hh:BodyRel Γ h.st h.body M) (hM:M.length=n) :
  g'.body.len=some m∧g'.e=g.e∧g'.st=g.st∧BodyRel Γ g'.st g'.body (splice L o M):=by
 unfold backOf at hb
 have hcells:∀ {ys:List NC},h.body=.cells ys→R2 (CR Γ) ys M:=by
  intro ys hy
  rw [hy] at hh hn
  obtain ⟨l1,l2,hl,hr⟩:=hh
  have:l2=[]:=by
   have h1:=congrArg List.length hl
   rw [List.length_append,← hr.length,hM] at h1
   have h2:ys.length=n:=Option.some.inj hn
   exact List.eq_nil_of_length_eq_zero (by omega)
  rw [hl,this,List.append_nil]
  exact hr
 split at hb
 ·rename_i xs ys hxb hyb
  cases hb
  have hr2:=hcells hyb
  rw [hxb] at hg hm
  obtain ⟨l1,l2,hl,hr⟩:=hg
  have hlen:=hr.length
  have hm' : xs.length=m:=Option.some.inj hm
  have hyl:=hr2.length
  refine ⟨congrArg some (by rw [splice_len _ _ _ (by omega)]; exact hm'),rfl,rfl,splice l1 o M,l2,?_,hr.splice _ hr2⟩
  rw [hl,splice_append _ _ _ _ (by omega)]
 ·rename_i l ys hxb hyb
  split at hb
  case h_2=>cases hb
  rename_i l' hput
  cases hb
  have hr2:=hcells hyb
  rw [hxb] at hg hm
  have hok:=hg.segOk
  obtain ⟨l1,l2,hl,hr,-⟩:=hg
  have hlen:=hr.length
  have hfl:=segFlat_length hok
  have hm' : segSize l=m:=Option.some.inj hm
  have hyl:=hr2.length
  obtain ⟨h1,h2⟩:=segPut_spec hok (v:=[.cells ys]) (by intro s hs; rw [List.mem_singleton] at hs; subst hs; trivial) (by simp [segFlat,Seg.flat]) (by omega) hput
  have hsf:segFlat [Seg.cells ys]=ys:=rfl
  rw [hsf] at h2
  have hl':=segFlat_length h1
  have hlv:=congrArg List.length h2
  rw [splice_len _ _ _ (by omega)] at hlv
  refine ⟨congrArg some (by omega),rfl,rfl,splice l1 o M,l2,?_,?_,h1⟩
  ·rw [hl,splice_append _ _ _ _ (by omega)]
  ·rw [h2]; exact hr.splice _ hr2
 ·rename_i l r hxb hyb
  split at hb
  case h_2=>cases hb
  rename_i l' hput
  cases hb
  rw [hyb] at hh hn
  have hokr:=hh.segOk
  obtain ⟨k1,k2,hk,hkr,-⟩:=hh
  have hflr:=segFlat_length hokr
  have hn' : segSize r=n:=Option.some.inj hn
  have hk2:k2=[]:=by
   have h1:=congrArg List.length hk
   rw [List.length_append,← hkr.length,hM] at h1
   exact List.eq_nil_of_length_eq_zero (by omega)
  rw [hk2,List.append_nil] at hk
  subst hk
  rw [hxb] at hg hm
  have hok:=hg.segOk
  obtain ⟨l1,l2,hl,hr,-⟩:=hg
  have hlen:=hr.length
  have hfl:=segFlat_length hok
  have hm' : segSize l=m:=Option.some.inj hm
  obtain ⟨h1,h2⟩:=segPut_spec hok hokr hflr (by omega) hput
  have hl':=segFlat_length h1
  have hlv:=congrArg List.length h2
  rw [splice_len _ _ _ (by omega)] at hlv
  refine ⟨congrArg some (by omega),rfl,rfl,splice l1 o M,l2,?_,?_,h1⟩
  ·rw [hl,splice_append _ _ _ _ (by omega)]
  ·rw [h2]; exact hr.splice _ hkr
 ·cases hb
theorem WRel.part {Γ:Env} {rg:List (Option Reg)} {w:World} (hw:WRel Γ rg w) {nm:Nat} {h:Reg} {Bf:Blk} (hnm:Γ.μ nm=none) (hgh:Bf.gh=false) (hr:RegRel (Γ.add nm Bf) h Bf w)
  (hd:∀ m B,Nx.live rg m→Γ.pt m=some B→B.blk≠Bf.blk) (hk:Γ.kp Bf.blk=none):WRel (Γ.add nm Bf) (putAt rg nm (some h)) w:=by
 have hle:=Γ.le_add nm Bf hnm
 have hnew:(Γ.add nm Bf).pt nm=some Bf:=Env.add_pt hgh
 have hl:∀ m,m≠nm→Nx.live (putAt rg nm (some h)) m→Nx.live rg m:=fun m e hm=>by
  rcases (putAt_live _ _ _ _).1 hm with ⟨h1,-⟩ | ⟨-,h1⟩
  ·exact (e h1).elim
  ·exact h1
 refine ⟨fun m g hm=>?_,fun a b B B' hne la lb ea eb=>?_,hw.kp,fun m B hm eB=>?_,hw.ro⟩
 ·rcases (putAt_get _ _ _ _ _).1 hm with ⟨rfl,e⟩ | ⟨hne,e⟩
  ·cases e
   exact ⟨Bf,Env.add_self _ _ _,hr⟩
  ·obtain ⟨B,h1,h2⟩:=hw.live m g e
   exact ⟨B,hle.μ _ _ h1,h2.mono hle⟩
 ·by_cases e1:a=nm
  ·subst e1
   have hb':=hl b (Ne.symm hne) lb
   rw [hnew] at ea; cases ea
   rw [Env.add_other (Ne.symm hne)] at eb
   exact Ne.symm (hd b B' hb' eb)
  ·by_cases e2:b=nm
   ·subst e2
    have ha':=hl a hne la
    rw [hnew] at eb; cases eb
    rw [Env.add_other hne] at ea
    exact hd a B ha' ea
   ·rw [Env.add_other e1] at ea
    rw [Env.add_other e2] at eb
    exact hw.inj a b B B' hne (hl a e1 la) (hl b e2 lb) ea eb
 ·by_cases e1:m=nm
  ·subst e1
   rw [hnew] at eB; cases eB
   exact hk
  ·rw [Env.add_other e1] at eB
   exact hw.apart m B (hl m e1 hm) eB
def Env.drop (Γ:Env) (nm:Nat):Env:={Γ with μ:=fun n=>if n=nm then none else Γ.μ n}
theorem Env.drop_μ {Γ:Env} {nm n:Nat} (h:n≠nm):(Γ.drop nm).μ n=Γ.μ n:=if_neg h
theorem Env.drop_pt {Γ:Env} {nm n:Nat} {B:Blk} (h:(Γ.drop nm).pt n=some B):n≠nm∧Γ.pt n=some B:=by
 obtain ⟨h1,h2⟩:=Env.pt_iff.1 h
 by_cases e:n=nm
 ·subst e
  have:(Γ.drop n).μ n=none:=if_pos rfl
  rw [this] at h1; cases h1
 ·rw [Env.drop_μ e] at h1
  exact ⟨e,Env.pt_iff.2 ⟨h1,h2⟩⟩
theorem ren_drop (Γ:Env) (nm:Nat):Ren (but nm) Γ (Γ.drop nm):=by
 refine ⟨fun n j B h1 h2=>?_,rfl⟩
 unfold but at h1
 split at h1
 ·cases h1
 ·rename_i e
  cases h1
  rw [Env.drop_μ e]; exact h2
theorem ncallF_sound {X:Cx} (hcon:∀ f T,X.con f=some T→Known X.P X.glob f T) {f:FuncId} {t:Option TypeId} {x:NV} {r:Nat} {g h:Reg} {o:Nat} {rest:List NV} {nm:Nat} {s:St} {Γ:Env} {w:World} {vs:List Value} {R:Eff→Prop}
  (hf:focusAt X.P s t x=some (r,g,o,h))
  (hw:WRel Γ s.rg w) (hG:GlobOk X.glob Γ) (hargs:R2 (VRel Γ) (x::rest) vs) (hnm:∀ k,nm≤k→k<nm+16→Γ.μ k=none) (hrun:(ncallF X f r g o h rest nm s).run R) :
  Calls X.P f vs.toArray w fun e w'=>∃ x v,R x∧e=.returned v∧EffOk Γ s w nm x v w':=by
 have hnm0:=hnm nm (Nat.le_refl _) (by omega)
 cases hargs with
 | @cons _ v0 _ vs' hx hrest=>
 have key:∃ te B,Γ.pt r=some B∧partOf X.P g o te=some h∧s.reg r=some g∧v0=.pointer (some ⟨B.blk,B.o+o,none⟩):=by
  unfold focusAt at hf
  split at hf
  case h_3=>cases hf
  ·rename_i t r0 i c
   split at hf
   case h_2=>cases hf
   rename_i te g0 htu hg0
   split at hf
   case h_2=>cases hf
   rename_i h0 hpart
   cases hf
   obtain ⟨⟨B,hB,rfl⟩,-⟩:=hx
   exact ⟨te,B,hB,hpart,hg0,by rw [hw.st hB ((reg_eq s r g).1 hg0)]⟩
  ·rename_i t r0 a w' i c
   split at hf
   case h_2=>cases hf
   rename_i te g0 htu hg0
   split at hf
   case h_2=>cases hf
   rename_i h0 hpart
   cases hf
   obtain ⟨⟨B,hB,rfl⟩,-⟩:=hx
   exact ⟨te,B,hB,hpart,hg0,rfl⟩
 obtain ⟨te,B,hB,hpart,hg0,rfl⟩:=key
 have hgl:=(reg_eq s r g).1 hg0
 obtain ⟨cs,hA⟩:=hw.at hB hgl (by cases hb:g.body <;> first | rfl | (unfold partOf at hpart; rw [hb] at hpart; cases hpart))
 obtain ⟨n,m,hn,hm,ho,hmL,hbh,hnt,hst⟩:=partOf_spec hpart hA.body
 have hleB:=hA.part.le
 rw [List.length_drop] at hmL
 have hlB:cs.toList.length=B.sz:=by simpa using hA.sz
 -- where the part lies
 generalize hBf:(⟨B.blk,h.st,B.sz,B.e,false,cs.toList.take (B.o+o),some (cs.toList.drop (B.o+o+n))⟩:Blk)=Bf
 have hBgh:Bf.gh=false:=by rw [← hBf]
 have hBblk:Bf.blk=B.blk:=by rw [← hBf]
 have hBo:Bf.o=B.o+o:=by rw [← hBf]; unfold Blk.o; simp only [List.length_take]; unfold Blk.o at hmL hleB; omega
 have hBpre:Bf.pre=cs.toList.take (B.o+o):=by rw [← hBf]
 have hBpost:Bf.post=some (cs.toList.drop (B.o+o+n)):=by rw [← hBf]
 have hBe:Bf.e=B.e:=by rw [← hBf]
 have hBst:Bf.st=h.st:=by rw [← hBf]
 have hBsz:Bf.sz=B.sz:=by rw [← hBf]
 clear hBf
 have hrg:mapReg (mapNC (but nm)) g=some g:=mapReg_but (.inr (.inl ⟨(Env.pt_iff.1 hB).2,cs,hA⟩)) hnm0
 have hrn:r≠nm:=fun e=>by rw [e] at hB; have:=(Env.pt_iff.1 hB).1; rw [hnm0] at this; cases this
 have hlef:=Γ.le_add nm Bf hnm0
 have hregf:RegRel (Γ.add nm Bf) h Bf w:=by
  refine .inr (.inl ⟨hBgh,cs,by rw [hBblk,hBe]; exact hA.heap,hBst,hA.sz.trans hBsz.symm,?_,?_,?_⟩)
  ·rw [hBo,← List.drop_drop]
   exact hbh.mono hlef
  ·rw [hBo,hBpre]
  ·rw [hBpost]
   exact ⟨n,hn,by rw [hBo],by rw [hBo]; omega⟩
 have hkill:=hw.kill r
 have hwf:WRel (Γ.add nm Bf) (putAt (putAt s.rg r none) nm (some h)) w:=by
  refine hkill.part hnm0 hBgh hregf (fun m' B' hl hB'=>?_) (by rw [hBblk]; exact hw.apart r B ⟨g,hgl⟩ hB)
  rcases (putAt_live _ _ _ _).1 hl with ⟨-,e⟩ | ⟨e,hl⟩
  ·cases e
  ·rw [hBblk]
   exact hw.inj m' r B' B e hl ⟨g,hgl⟩ hB' hB
 unfold ncallF at hrun
 simp only at hrun
 rw [Tr.run_bind] at hrun
 generalize hs' : ({s with rg:=putAt (putAt s.rg r none) nm (some h)}:St)=s' at hrun
 have hwf' : WRel (Γ.add nm Bf) s'.rg w:=by rw [← hs']; exact hwf
 have hargs' : R2 (VRel (Γ.add nm Bf)) (.c (.p nm 0 0)::rest) (.pointer (some ⟨B.blk,B.o+o,none⟩)::vs'):=by
  refine .cons ⟨⟨Bf,Env.add_pt hBgh,?_⟩,rfl⟩ (hrest.imp fun a b hr=>hr.mono hlef)
  rw [hBblk,hBo]
  simp
 refine (ncallP_sound hcon (q:=15) (reach_nodup s' _ _ _ (by simp)) hwf' (hG.mono hlef) hargs' (fun k h1 h2=>?_) hrun).mono ?_
 ·have:(Γ.add nm Bf).μ k=Γ.μ k:=by simp [Env.add,show k≠nm by omega]
  rw [this]
  exact hnm k (by omega) (by omega)
 rintro e w' ⟨x,v,hR,rfl,Γ2,hext,hsr,hw2,hwd,hfree⟩
 split at hR
 case h_2=>exact hR.elim
 rename_i h' v' zz hup hmv hmr
 split at hR
 case h_2=>exact hR.elim
 rename_i g' hback
 split at hR
 case isFalse=>exact hR.elim
 rename_i hlen
 obtain ⟨hlen,hall⟩:=hlen
 refine ⟨_,v,hR,rfl,?_⟩
 clear hrun hR
 have hall' : ∀ y,(nm,y)∈x.up→y.isSome=true:=fun y hy=>by
  have:=List.all_eq_true.1 hall _ hy
  simpa using this
 have hup2:=upOf_get (s:=s') hup hall'
 -- what is left of the part
 obtain ⟨B2,hB2,hr2⟩:=hw2.live nm h' hup2
 have hΓ2nm:Γ2.μ nm=some Bf:=hext.le.μ _ _ (Env.add_self _ _ _)
 rw [hΓ2nm] at hB2
 cases hB2
 have hpt2:Γ2.pt nm=some Bf:=Env.pt_iff.2 ⟨hΓ2nm,hBgh⟩
 obtain ⟨c',hA'⟩:=hw2.at hpt2 hup2 (by cases hb:h'.body <;> first | rfl | (unfold backOf at hback; rw [hb] at hback; cases hgb:g.body <;> rw [hgb] at hback <;> cases hback))
 have hn' : h'.body.len=some n:=by rw [hlen]; exact hn
 have hpart':=hA'.part
 obtain ⟨hp1,hp2⟩:=hpart'
 rw [hBpost] at hp2
 obtain ⟨n2,hp3,hp4,hp5⟩:=hp2
 rw [hn'] at hp3
 cases hp3
 rw [hBo] at hp1 hp4 hp5
 rw [hBpre] at hp1
 have hlc:c'.toList.length=cs.toList.length:=by
  have h1:c'.size=B.sz:=hA'.sz.trans hBsz
  have:c'.toList.length=B.sz:=by simpa using h1
  rw [this,hlB]
 -- the region with its part
 have hle2:Γ.le Γ2:=hlef.trans hext.le
 have hle3:Γ.le (Γ2.drop nm):=⟨fun n B hn=>by
  have hne:n≠nm:=fun e=>by rw [e,hnm0] at hn; cases hn
  rw [Env.drop_μ hne]; exact hle2.μ _ _ hn,hle2.kp,hle2.ro,hle2.er⟩
 have hren:=ren_drop Γ2 nm
 have hro:RoOk Γ2 (Γ2.drop nm):=fun b o h1 h2=>⟨h1,h2⟩
 have hmem:∀ {y:Reg},(∃ k,(k,some y)∈x.up)→mapReg (mapNC (but nm)) y=some y:=by
  rintro y ⟨k,hk⟩
  obtain ⟨y',hy'⟩:=mapRg_mem hmr y (List.mem_map.2 ⟨(k,some y),hk,rfl⟩)
  have:=mapReg_same hy'
  rw [this] at hy'; exact hy'
 have hh' : mapReg (mapNC (but nm)) h'=some h':=by
  rcases ups_get hup2 with h1 | ⟨h1,h2⟩
  ·exact hmem ⟨nm,h1⟩
  ·exfalso
   have key:∀ {l:List (Nat × Option Reg)},upOf nm l=some h'→∃ y,(nm,y)∈l:=by
    intro l
    induction l with
    | nil=>intro h; cases h
    | cons y l ih=>
      obtain ⟨k,z⟩:=y
      intro h
      simp only [upOf] at h
      split at h
      ·rename_i h3 hh
       cases h
       obtain ⟨y,hy⟩:=ih hh
       exact ⟨y,by simp [hy]⟩
      ·split at h
       ·rename_i e; exact ⟨z,by simp [e]⟩
       ·cases h
   obtain ⟨y,hy⟩:=key hup
   exact h2 y hy
 have hbm:BodyRel (Γ2.drop nm) h'.st h'.body (c'.toList.drop (B.o+o)):=by
  have h1:=mapReg_rel hren (fun _=>hro) hr2 hh'
  rcases h1 with ⟨h1,-⟩ | ⟨-,c2,hA2⟩ | ⟨-,hm3⟩
  ·rw [hBgh] at h1; cases h1
  rotate_left
  ·obtain ⟨ks,sch,xs,es,ck,-,h3,-⟩:=hm3.mp
   rw [hA'.heap] at h3
   cases h3
  ·have:c2=c':=by
    have h3:=hA2.heap
    rw [hA'.heap] at h3
    simp only [Option.some.injEq,Obj.cells.injEq] at h3
    exact h3.1.symm
   rw [this] at hA2
   have:=hA2.body
   rw [hBo] at this
   exact this
 have hbt:BodyRel (Γ2.drop nm) h'.st h'.body ((c'.toList.drop (B.o+o)).take n):=by
  revert hbm hn'
  cases h'.body with
  | cells ys=>
    rintro hk ⟨l1,l2,hl,hr⟩
    have hk:ys.length=n:=Option.some.inj hk
    have:=hr.length
    refine ⟨l1,[],?_,hr⟩
    rw [hl,List.append_nil,List.take_append_of_le_length (by omega),List.take_of_length_le (by omega)]
  | sg l=>
    rintro hk ⟨l1,l2,hl,hr,hok⟩
    have hk:segSize l=n:=Option.some.inj hk
    have h1:=hr.length
    have h2:=segFlat_length hok
    refine ⟨l1,[],?_,hr,hok⟩
    rw [hl,List.append_nil,List.take_append_of_le_length (by omega),List.take_of_length_le (by omega)]
  | ints k xs=>intro hk; cases hk
  | recs ks xs=>intro hk; cases hk
  | tab sch xs=>intro hk; cases hk
  | mp ks sch xs=>rintro - h; exact h.elim
 have hMlen:((c'.toList.drop (B.o+o)).take n).length=n:=by rw [List.length_take,List.length_drop]; omega
 have hbg:BodyRel (Γ2.drop nm) g.st g.body (cs.toList.drop B.o):=hA.body.mono hle3
 obtain ⟨k1,k2,k3,k4⟩:=backOf_spec hback hn' hm ho hbg hbt hMlen
 have hc'eq:c'.toList.drop B.o=splice (cs.toList.drop B.o) o ((c'.toList.drop (B.o+o)).take n):=by
  unfold splice
  rw [hMlen]
  have e1:(cs.toList.drop B.o).take o=(c'.toList.drop B.o).take o:=by
   have:=congrArg (List.drop B.o) hp1
   rw [List.drop_take,List.drop_take,Nat.add_sub_cancel_left] at this
   exact this.symm
  have e2:(cs.toList.drop B.o).drop (o+n)=(c'.toList.drop B.o).drop (o+n):=by
   rw [List.drop_drop,List.drop_drop,← Nat.add_assoc]
   exact hp4.symm
  have e3:(c'.toList.drop (B.o+o)).take n=((c'.toList.drop B.o).drop o).take n:=by rw [List.drop_drop]
  rw [e1,e2,e3,← List.drop_drop,List.append_assoc,List.take_append_drop,List.take_append_drop]
 have hreg3:RegRel (Γ2.drop nm) g' B w':=by
  refine .inr (.inl ⟨(Env.pt_iff.1 hB).2,c',?_,hA.st.trans k3.symm,hA'.sz.trans hBsz,?_,?_,?_⟩)
  ·have:=hA'.heap
   rw [hBblk,hBe] at this; exact this
  ·rw [hc'eq]; exact k4
  ·have:=congrArg (List.take B.o) hp1
   rw [List.take_take,List.take_take,Nat.min_eq_left (by omega)] at this
   rw [this]; exact hA.part.1
  ·have h2:=hA.part.2
   cases hp:B.post with
   | none=>
     rw [hp] at h2
     exact ⟨h2.1,h2.2.trans k2.symm⟩
   | some post=>
     rw [hp] at h2
     obtain ⟨m2,h3,h4,h5⟩:=h2
     rw [hm] at h3
     cases h3
     refine ⟨m,k1,?_,by omega⟩
     have:=congrArg (List.drop (m - (o+n))) hp4
     rw [List.drop_drop,List.drop_drop,show B.o+o+n+(m - (o+n))=B.o+m by omega] at this
     rw [this]; exact h4
 -- the regions behind it
 have hsr0:∀ k,k≠nm→k≠r→∀ y,s.rg[k]? = some (some y)↔s'.rg[k]? = some (some y):=by
  intro k h1 h2 y
  rw [← hs']
  show _↔(putAt (putAt s.rg r none) nm (some h))[k]? = _
  rw [putAt_get,putAt_get]
  simp [h1,h2]
 have hfin:∀ {k:Nat} {y:Reg},(s.ups ((x.up.filter fun u=>u.1 !=nm&&u.1 !=r)++[(r,some g')])).rg[k]? = some (some y)→
   k≠nm∧((k=r∧y=g')∨(k≠r∧(s'.ups x.up).rg[k]? = some (some y))):=by
  intro k y hk
  rw [ups_append] at hk
  have hk' : (putAt (s.ups (x.up.filter fun u=>u.1 !=nm&&u.1 !=r)).rg r (some g'))[k]? = some (some y):=hk
  rcases (putAt_get _ _ _ _ _).1 hk' with ⟨h1,h2⟩ | ⟨h1,h2⟩
  ·exact ⟨fun e=>hrn (h1 ▸ e),.inl ⟨h1,by cases h2; rfl⟩⟩
  ·have hne:k≠nm:=by
    rintro rfl
    have h3:=ups_kept (p:=fun j=>j !=k&&j !=r) (by simp) x.up h2
    obtain ⟨B3,hB3,-⟩:=hw.live k y h3
    rw [hnm0] at hB3; cases hB3
   exact ⟨hne,.inr ⟨h1,(ups_agree (p:=fun j=>j !=nm&&j !=r) (by simp [hne,h1]) x.up (hsr0 k hne h1) y).1 h2⟩⟩
 have hb3:∀ {k:Nat} {y:Reg},k≠nm→k≠r→(s'.ups x.up).rg[k]? = some (some y)→mapReg (mapNC (but nm)) y=some y:=by
  intro k y h1 h2 hk
  rcases ups_get hk with h3 | ⟨h3,-⟩
  ·exact hmem ⟨k,h3⟩
  ·obtain ⟨B3,hB3,hr3⟩:=hw.live k y ((hsr0 k h1 h2 y).2 h3)
   exact mapReg_but hr3 hnm0
 have hr3:(Γ2.drop nm).pt r=some B:=hle3.pt hB
 have hdB:∀ {k:Nat} {y:Reg} {B3:Blk},k≠nm→(s'.ups x.up).rg[k]? = some (some y)→Γ2.pt k=some B3→B3.blk≠B.blk:=by
  intro k y B3 h1 h2 h3
  rw [← hBblk]
  exact hw2.inj k nm B3 Bf h1 ⟨y,h2⟩ ⟨h',hup2⟩ h3 hpt2
 refine ⟨Γ2.drop nm,⟨hle3,fun b hb=>?_,fun k B3 hk=>?_⟩,?_,⟨fun k y hk=>?_,fun a b Ba Bb hne la lb ea eb=>?_,hw2.kp,fun k B3 lk hk=>?_,hw2.ro⟩,hwd,fun k h1 h2=>?_⟩
 ·rcases hext.ro b hb with h1 | h1 | ⟨k,B3,h1,h2⟩
  ·exact .inl h1
  ·exact .inr (.inl h1)
  ·by_cases e:k=nm
   ·subst e
    rw [Env.add_pt hBgh] at h1; cases h1
    exact .inr (.inr ⟨r,B,hB,by rw [← hBblk]; exact h2⟩)
   ·rw [Env.add_other e] at h1
    exact .inr (.inr ⟨k,B3,h1,h2⟩)
 ·obtain ⟨-,hk⟩:=Env.drop_pt hk
  rcases hext.nw k B3 hk with h1 | ⟨k',B4,h1,h2⟩
  ·exact .inl h1
  ·by_cases e:k'=nm
   ·subst e
    rw [Env.add_pt hBgh] at h1; cases h1
    exact .inr ⟨r,B,hB,by rw [← hBblk]; exact h2⟩
   ·rw [Env.add_other e] at h1
    exact .inr ⟨k',B4,h1,h2⟩
 ·exact mapNS_rel hren (fun _=>hro) hsr hmv
 ·obtain ⟨h1,⟨rfl,rfl⟩ | ⟨h2,h3⟩⟩:=hfin hk
  ·exact ⟨B,Env.pt_μ hr3,hreg3⟩
  ·obtain ⟨B3,hB3,hr4⟩:=hw2.live k y h3
   exact ⟨B3,by rw [Env.drop_μ h1]; exact hB3,mapReg_rel hren (fun _=>hro) hr4 (hb3 h1 h2 h3)⟩
 ·obtain ⟨ga,hga⟩:=la
  obtain ⟨gb,hgb⟩:=lb
  obtain ⟨a1,⟨rfl,-⟩ | ⟨a2,a3⟩⟩:=hfin hga <;> obtain ⟨b1,⟨rfl,-⟩ | ⟨b2,b3⟩⟩:=hfin hgb
  ·exact (hne rfl).elim
  ·rw [hr3] at ea; cases ea
   exact Ne.symm (hdB b1 b3 (Env.drop_pt eb).2)
  ·rw [hr3] at eb; cases eb
   exact hdB a1 a3 (Env.drop_pt ea).2
  ·exact hw2.inj a b Ba Bb hne ⟨ga,a3⟩ ⟨gb,b3⟩ (Env.drop_pt ea).2 (Env.drop_pt eb).2
 ·obtain ⟨gk,hgk⟩:=lk
  obtain ⟨h1,⟨rfl,-⟩ | ⟨h2,h3⟩⟩:=hfin hgk
  ·rw [hr3] at hk; cases hk
   have:=hw2.apart nm Bf ⟨h',hup2⟩ hpt2
   rw [hBblk] at this; exact this
  ·exact hw2.apart k B3 ⟨gk,h3⟩ (Env.drop_pt hk).2
 ·by_cases e:k=nm
  ·subst e; exact if_pos rfl
  ·rw [Env.drop_μ e]
   refine hfree k (by simp [Env.add,e]; exact h1) fun ⟨q1,q2,q3⟩=>h2 ⟨by omega,by omega,?_⟩
   have hlive:r<s.rg.length:=(List.getElem?_eq_some_iff.1 hgl).1
   by_cases hks:k<s.rg.length
   ·exact Nat.lt_of_lt_of_le hks (ups_le s _)
   ·rcases ups_long x.up q3 with h3 | ⟨u,h3,h4⟩
    ·exfalso
     have hl3:s'.rg.length≤max s.rg.length (nm+1):=by
      rw [← hs']
      show (putAt (putAt s.rg r none) nm (some h)).length≤_
      have h5:(putAt s.rg r none).length=s.rg.length:=by unfold putAt; rw [if_pos hlive,List.length_set]
      unfold putAt at h5 ⊢
      rw [if_pos hlive] at h5 ⊢
      split
      ·rw [List.length_set]; omega
      ·simp; omega
     omega
    ·obtain ⟨u1,u2⟩:=u
     have:(u1,u2)∈(x.up.filter fun u=>u.1 !=nm&&u.1 !=r)++[(r,some g')]:=by
      refine List.mem_append_left _ (List.mem_filter.2 ⟨h3,?_⟩)
      simp only [Bool.and_eq_true,bne_iff_ne,ne_eq]
      simp only at h4
      exact ⟨by omega,by omega⟩
     exact Nat.lt_of_le_of_lt h4 (ups_len this)
theorem ncall_sound {X:Cx} (hcon:∀ f T,X.con f=some T→Known X.P X.glob f T) {f:FuncId} {args:List NV} {nm:Nat} {s:St} {Γ:Env} {w:World} {vs:List Value} {R:Eff→Prop}
  (hw:WRel Γ s.rg w) (hG:GlobOk X.glob Γ) (hargs:R2 (VRel Γ) args vs) (hnm:∀ k,nm≤k→k<nm+16→Γ.μ k=none) (h:(ncall X f args nm s).run R) :
  Calls X.P f vs.toArray w fun e w'=>∃ x v,R x∧e=.returned v∧EffOk Γ s w nm x v w':=by
 unfold ncall at h
 split at h
 ·split at h
  ·rename_i hf
   rcases orTr_run h with h | h
   ·exact ncallF_sound hcon hf hw hG hargs hnm h
   ·exact ncallP_sound hcon (reach_nodup s _ _ _ (by simp)) hw hG hargs hnm h
  ·exact ncallP_sound hcon (reach_nodup s _ _ _ (by simp)) hw hG hargs hnm h
 ·exact ncallP_sound hcon (reach_nodup s _ _ _ (by simp)) hw hG hargs hnm h
def flatP:Part→Bool
 | .i _=>true
 | .b=>true
 | _=>false
def partVal:Part→FC→Value
 | .i k,a=>.int k a.n
 | _,a=>.bool a.t
def flatVals:List Part→List FC→Nat→List Value
 | [],_,_=>[]
 | p::ks,row,j=>partVal p (row.getD j (.i 0))::flatVals ks row (j+1)
theorem flatVals_get:∀ {ks:List Part} {row:List FC} {j i:Nat} {p:Part},ks[i]? = some p→(flatVals ks row j)[i]? = some (partVal p (row.getD (j+i) (.i 0)))
 | [],_,_,_,_,h=>by simp at h
 | p::ks,row,j,0,q,h=>by simp at h; subst h; simp [flatVals]
 | p::ks,row,j,i+1,q,h=>by
   simp at h
   rw [flatVals,List.getElem?_cons_succ,flatVals_get h]
   congr 3; omega
theorem flat_vals {Γ:Env}:∀ {ks:List Part} {row:List FC} {j:Nat} {vs:List Value},(∀ p∈ks,flatP p=true)→R2 (FR Γ) (segFlat (rowSegs ks row j)) vs→vs=flatVals ks row j
 | [],row,j,vs,_,h=>by cases h; rfl
 | p::ks,row,j,vs,hf,h=>by
   have hp:=hf p (by simp)
   cases p <;> simp only [flatP,Bool.false_eq_true] at hp
   ·rw [rowSegs,Part.put,segFlat_consC] at h
    cases h with
    | cons h1 h2=>
      rw [flat_vals (fun q hq=>hf q (by simp [hq])) h2]
      have:_=Value.int _ _:=h1.1
      rw [this]; rfl
   ·rw [rowSegs,Part.put,segFlat_consC] at h
    cases h with
    | cons h1 h2=>
      rw [flat_vals (fun q hq=>hf q (by simp [hq])) h2]
      have:_=Value.bool _:=h1.1
      rw [this]; rfl
theorem flatFs_flat {P:Program}:∀ {fs:List Field} {ks:List Part} {j:Nat},flatFs P fs ks j=true→∀ p∈ks,flatP p=true
 | [],[],_,_=>by simp
 | [],_::_,_,h=>by simp [flatFs] at h
 | _::_,[],_,h=>by simp [flatFs] at h
 | f::fs,p::ks,j,h=>by
   cases p <;> simp only [flatFs,Bool.and_eq_true,Bool.false_eq_true] at h
   ·intro q hq
    rcases List.mem_cons.1 hq with rfl | hq
    ·rfl
    ·exact flatFs_flat h.2 q hq
   ·intro q hq
    rcases List.mem_cons.1 hq with rfl | hq
    ·rfl
    ·exact flatFs_flat h.2 q hq
theorem keyEq_vals:∀ {ks:List Part} {a b:List FC} {j:Nat},keyEq ks a b j=true→flatVals ks a j=flatVals ks b j
 | [],_,_,_,_=>rfl
 | p::ks,a,b,j,h=>by
   cases p <;> simp only [keyEq,Bool.and_eq_true,beq_iff_eq,Bool.false_eq_true] at h
   ·simp only [flatVals,partVal,h.1,keyEq_vals h.2]
   ·simp only [flatVals,partVal,h.1,keyEq_vals h.2]
section
variable {P:Program} (w:World)
theorem run_part_one {t:TypeId} {d:TypeDesc} {xs:Array Value} {o:Nat} {v:Value} (hu:P.underlying t=some d) (ha:isAggT P t=false) (hx:xs[o]? = some v):(part t xs o).run P w=.ok v w:=by
 simp [part,run_isAgg hu,ha,hx]
theorem run_eqFields_flat (d:Nat) {xs ys:Array Value} {a b:List FC}:∀ {fs:List Field} {ks:List Part} {j:Nat},flatFs P fs ks j=true→
  (∀ i p,ks[i]? = some p→xs[j+i]? = some (partVal p (a.getD (j+i) (.i 0)))∧ys[j+i]? = some (partVal p (b.getD (j+i) (.i 0))))→
  (Op.eqFields (d+1) xs ys fs).run P w=.ok (keyEq ks a b j) w
 | [],[],_,_,_=>rfl
 | [],_::_,_,h,_=>by simp [flatFs] at h
 | _::_,[],_,h,_=>by simp [flatFs] at h
 | f::fs,p::ks,j,h,hc=>by
   have h0:=hc 0 p (by simp)
   simp only [Nat.add_zero] at h0
   have hn:∀ i q,ks[i]? = some q→xs[(j+1)+i]? = some (partVal q (a.getD ((j+1)+i) (.i 0)))∧ys[(j+1)+i]? = some (partVal q (b.getD ((j+1)+i) (.i 0))):=fun i q hq=>by
    have:=hc (i+1) q (by simpa using hq)
    rw [show j+(i+1)=(j+1)+i by omega] at this
    exact this
   cases p <;> simp only [flatFs,Bool.and_eq_true,Bool.false_eq_true,bne_iff_ne,ne_eq,beq_iff_eq] at h
   ·obtain ⟨⟨⟨h1,h2⟩,h3⟩,h4⟩:=h
    split at h3
    case h_2=>cases h3
    rename_i k k' hu
    have ih:=run_eqFields_flat d h4 hn
    have hag:isAggT P f.type=false:=by simp [isAggT,hu]
    simp only [Op.eqFields]
    rw [if_pos h1]
    simp only [Sem.run_bind,h2,run_part_one w hu hag h0.1,run_part_one w hu hag h0.2,Result.andThen_ok,partVal]
    rw [run_equalIn_int w d f.type _ _ _ _ hu]
    simp only [Result.andThen_ok,keyEq]
    cases e:(a.getD j (.i 0)).n==(b.getD j (.i 0)).n
    ·simp
    ·simpa using ih
   ·obtain ⟨⟨⟨h1,h2⟩,h3⟩,h4⟩:=h
    split at h3
    case h_2=>cases h3
    rename_i hu
    have ih:=run_eqFields_flat d h4 hn
    have hag:isAggT P f.type=false:=by simp [isAggT,hu]
    simp only [Op.eqFields]
    rw [if_pos h1]
    simp only [Sem.run_bind,h2,run_part_one w hu hag h0.1,run_part_one w hu hag h0.2,Result.andThen_ok,partVal]
    rw [run_equalIn_bool' w d f.type _ _ hu]
    simp only [Result.andThen_ok,keyEq]
    cases e:(a.getD j (.i 0)).t==(b.getD j (.i 0)).t
    ·simp
    ·simpa using ih
theorem flatKey_spec {t:TypeId} {ks:List Part} (h:flatKey P t ks=true):∃ fs,P.underlying t=some (.struct fs)∧flatFs P fs.toList ks 0=true∧P.stoodInHeld t=false∧P.eqGuardType P.depth t=false:=by
 unfold flatKey at h
 split at h
 ·rename_i fs hu
  simp only [Bool.and_eq_true,Bool.not_eq_eq_eq_not,Bool.not_true] at h
  exact ⟨fs,hu,h.1.1,h.1.2,h.2⟩
 ·cases h
theorem run_equalIn_flat {t:TypeId} {ks:List Part} {Γ:Env} {a b:List FC} {x y:Value} (h:flatKey P t ks=true) (hx:RowV Γ ks a x) (hy:RowV Γ ks b y):(Op.equalIn 10000 t x y).run P w=.ok (keyEq ks a b 0) w:=by
 obtain ⟨fs,hu,hf,hs,-⟩:=flatKey_spec h
 obtain ⟨vs,rfl,h1,-⟩:=hx
 obtain ⟨ws,rfl,h2,-⟩:=hy
 have e1:=flat_vals (flatFs_flat hf) h1
 have e2:=flat_vals (flatFs_flat hf) h2
 have hfo:P.fieldsOf t=fs:=by simp [Program.fieldsOf,hu]
 rw [show (10000:Nat)=(9998+1)+1 from rfl,run_equalIn_struct w _ t _ _ (by rw [hfo]; exact hu) hs,hfo]
 refine run_eqFields_flat w 9998 hf fun i p hp=>?_
 rw [Nat.zero_add,e1,e2]
 have g1:=flatVals_get (row:=a) (j:=0) hp
 have g2:=flatVals_get (row:=b) (j:=0) hp
 rw [Nat.zero_add] at g1 g2
 exact ⟨by simpa using g1,by simpa using g2⟩
theorem run_checkKey_flat (em:Bool) (n:Nat) {t:TypeId} {ks:List Part} {Γ:Env} {a:List FC} {x:Value} (h:flatKey P t ks=true) (hx:RowV Γ ks a x):(Instr.checkKey em (n+2) t x).run P w=.ok () w:=by
 obtain ⟨fs,hu,hf,-,-⟩:=flatKey_spec h
 obtain ⟨vs,rfl,h1,-⟩:=hx
 have e1:=flat_vals (flatFs_flat hf) h1
 subst e1
 rw [show n+2=(n+1)+1 from rfl,Instr.checkKey]
 simp only [Sem.run_bind,run_underlying hu,Result.andThen_ok]
 rw [← Array.forIn_toList]
 have key:∀ (fs:List Field) (ks' : List Part) (j:Nat),flatFs P fs ks' j=true→(∀ i p,ks'[i]? = some p→(flatVals ks a 0).toArray[j+i]? = some (partVal p (a.getD (j+i) (.i 0))))→
   (forIn fs PUnit.unit fun (f:Field) (_:PUnit)=>(if f.name≠"_" then do
      let __do_lift ← part f.type (flatVals ks a 0).toArray f.offset
      Instr.checkKey em (n+1) f.type __do_lift
      pure (ForInStep.yield PUnit.unit)
     else pure (ForInStep.yield PUnit.unit):Sem (ForInStep PUnit))).run P w=.ok PUnit.unit w:=by
  intro fs
  induction fs with
  | nil=>intro ks' j _ _; simp
  | cons f fs ih=>
    intro ks' j hfl hc
    cases ks' with
    | nil=>simp [flatFs] at hfl
    | cons p ks'=>
      have h0:=hc 0 p (by simp)
      simp only [Nat.add_zero] at h0
      have hn:∀ i q,ks'[i]? = some q→(flatVals ks a 0).toArray[(j+1)+i]? = some (partVal q (a.getD ((j+1)+i) (.i 0))):=fun i q hq=>by
       have:=hc (i+1) q (by simpa using hq)
       rw [show j+(i+1)=(j+1)+i by omega] at this
       exact this
      cases p <;> simp only [flatFs,Bool.and_eq_true,Bool.false_eq_true,bne_iff_ne,ne_eq,beq_iff_eq] at hfl
      ·obtain ⟨⟨⟨g1,g2⟩,g3⟩,g4⟩:=hfl
       split at g3
       case h_2=>cases g3
       rename_i k k' hfu
       have hag:isAggT P f.type=false:=by simp [isAggT,hfu]
       simp only [List.forIn_cons,Sem.run_bind]
       rw [if_pos g1]
       simp only [Sem.run_bind,g2,run_part_one w hfu hag h0,Result.andThen_ok,partVal]
       simp only [Instr.checkKey,Sem.run_bind,run_underlying hfu,Result.andThen_ok,Sem.run_pure]
       exact ih ks' (j+1) g4 hn
      ·obtain ⟨⟨⟨g1,g2⟩,g3⟩,g4⟩:=hfl
       split at g3
       case h_2=>cases g3
       rename_i hfu
       have hag:isAggT P f.type=false:=by simp [isAggT,hfu]
       simp only [List.forIn_cons,Sem.run_bind]
       rw [if_pos g1]
       simp only [Sem.run_bind,g2,run_part_one w hfu hag h0,Result.andThen_ok,partVal]
       simp only [Instr.checkKey,Sem.run_bind,run_underlying hfu,Result.andThen_ok,Sem.run_pure]
       exact ih ks' (j+1) g4 hn
 have:=key fs.toList ks 0 hf fun i p hp=>by
  rw [Nat.zero_add]
  have g1:=flatVals_get (row:=a) (j:=0) hp
  rw [Nat.zero_add] at g1
  simpa using g1
 rw [this]
 rfl
theorem sameBits_flat (n:Nat):∀ (ks:List Part) (a:List FC) (j:Nat),((flatVals ks a j).zip (flatVals ks a j)).all (fun (x,y)=>Instr.sameBits n x y)=true
 | [],_,_=>rfl
 | p::ks,a,j=>by
   simp only [flatVals,List.zip_cons_cons,List.all_cons,sameBits_flat n ks a (j+1),Bool.and_true]
   cases p <;> simp [partVal,Instr.sameBits]
end
def MpE (Γ:Env) (ks sch:List Part) (x:List FC × List FC) (e:MapEntry):Prop:=RowV Γ ks x.1 e.key∧RowV Γ sch x.2 e.val
inductive Found (Γ:Env) (ks sch:List Part) (key:List FC) (xs:List (List FC × List FC)) (es:List MapEntry) (i:Nat):Option (Nat × Value)→Prop
 | no:(∀ x∈xs,keyEq ks key x.1 0=false)→Found Γ ks sch key xs es i none
 | yes (pre:List (List FC × List FC)) (x:List FC × List FC) (post:List (List FC × List FC)) (epre:List MapEntry) (e:MapEntry) (epost:List MapEntry) :
   xs=pre++x::post→es=epre++e::epost→R2 (MpE Γ ks sch) pre epre→MpE Γ ks sch x e→R2 (MpE Γ ks sch) post epost→(∀ y∈pre,keyEq ks key y.1 0=false)→keyEq ks key x.1 0=true→
   Found Γ ks sch key xs es i (some (i+epre.length,e.val))
section
variable {P:Program} (w:World) {Γ:Env} {ks sch:List Part} {key:List FC}
theorem run_find_flat {t:TypeId} {x:Value} (h:flatKey P t ks=true) (hx:RowV Γ ks key x):∀ {xs:List (List FC × List FC)} {es:List MapEntry} (i:Nat),R2 (MpE Γ ks sch) xs es→
  ∃ r,(Instr.findAsking t x es i).run P w=.ok r w∧Found Γ ks sch key xs es i r
 | [],_,i,.nil=>⟨none,by simp [Instr.findAsking],.no fun _ h=>by cases h⟩
 | y::xs,e::es,i,.cons h1 h2=>by
   have he:(Op.equal t x e.key).run P w=.ok (keyEq ks key y.1 0) w:=run_equalIn_flat w h hx h1.1
   cases hk:keyEq ks key y.1 0 with
   | true=>
     refine ⟨some (i,e.val),by simp [Instr.findAsking,he,hk],?_⟩
     have:=Found.yes (Γ:=Γ) (ks:=ks) (sch:=sch) (key:=key) (i:=i) [] y xs [] e es rfl rfl .nil h1 h2 (fun _ h=>by cases h) hk
     simpa using this
   | false=>
     obtain ⟨r,hr,hf⟩:=run_find_flat h hx (i+1) h2
     refine ⟨r,by simp only [Instr.findAsking,Sem.run_bind,he,Result.andThen_ok,hk,Bool.false_eq_true,if_false]; exact hr,?_⟩
     cases hf with
     | no hn=>
       exact .no fun z hz=>by
        rcases List.mem_cons.1 hz with rfl | hz
        ·exact hk
        ·exact hn z hz
     | yes pre z post epre e' epost a1 a2 a3 a4 a5 a6 a7=>
       have:=Found.yes (Γ:=Γ) (ks:=ks) (sch:=sch) (key:=key) (xs:=y::xs) (es:=e::es) (i:=i) (y::pre) z post (e::epre) e' epost (by rw [a1]; rfl) (by rw [a2]; rfl) (.cons h1 a3) a4 a5 (fun q hq=>by
        rcases List.mem_cons.1 hq with rfl | hq
        ·exact hk
        ·exact a6 q hq) a7
       rw [List.length_cons,show i+(epre.length+1)=(i+1)+epre.length by omega] at this
       exact this
theorem mp_no {xs:List (List FC × List FC)} (h:∀ x∈xs,keyEq ks key x.1 0=false):mpHas ks key xs=false∧(∀ v,mpSet ks key v xs=xs++[(key,v)])∧mpDel ks key xs=xs:=by
 induction xs with
 | nil=>exact ⟨rfl,fun _=>rfl,rfl⟩
 | cons x xs ih=>
   obtain ⟨h1,h2,h3⟩:=ih fun y hy=>h y (by simp [hy])
   have hx:=h x (by simp)
   refine ⟨?_,fun v=>?_,?_⟩
   ·unfold mpHas at h1 ⊢
    rw [List.any_cons,hx,h1]; rfl
   ·rw [mpSet,hx,h2]; rfl
   ·rw [mpDel,hx,h3]
theorem mp_yes {pre post:List (List FC × List FC)} {x:List FC × List FC} (h:∀ y∈pre,keyEq ks key y.1 0=false) (hx:keyEq ks key x.1 0=true) :
  mpHas ks key (pre++x::post)=true∧mpGet ks key (pre++x::post)=x.2∧(∀ v,mpSet ks key v (pre++x::post)=pre++(key,v)::post)∧mpDel ks key (pre++x::post)=pre++post:=by
 induction pre with
 | nil=>
   refine ⟨?_,?_,fun v=>?_,?_⟩
   ·simp [mpHas,hx]
   ·simp [mpGet,hx]
   ·rw [List.nil_append,mpSet,hx]; rfl
   ·rw [List.nil_append,mpDel,hx]; rfl
 | cons y pre ih=>
   obtain ⟨h1,h2,h3,h4⟩:=ih fun z hz=>h z (by simp [hz])
   have hy:=h y (by simp)
   refine ⟨?_,?_,fun v=>?_,?_⟩
   ·unfold mpHas at h1 ⊢
    rw [List.cons_append,List.any_cons,h1,Bool.or_true]
   ·unfold mpGet at h2 ⊢
    rw [List.cons_append,List.find?_cons,hy]
    exact h2
   ·rw [List.cons_append,mpSet,hy,h3]; rfl
   ·rw [List.cons_append,mpDel,hy,h4]; rfl
end
theorem modify_mid {α:Type} (a b:List α) (x:α) (f:α→α):(a++x::b).modify a.length f=a++f x::b:=by
 rw [List.modify_eq_take_cons_drop (by simp)]
 simp
theorem erase_mid {α:Type} (a b:List α) (x:α):(a++x::b).eraseIdx a.length=a++b:=by
 rw [List.eraseIdx_append_of_length_le (Nat.le_refl _)]
 simp
theorem zeroNV_sound {P:Program} {t:TypeId} {z:NV} {w:World} {Γ:Env} (h:zeroNV P t=some z):∃ v,(zeroValue t).run P w=.ok v w∧VRel Γ z v:=by
 have agg:zeroAgg P t=true→∀ {i:TypeInfo} {v:Value},P.info? t=some i→i.zero=some v→∃ cs,v=.agg cs:=by
  intro h i v hi hv
  unfold zeroAgg at h
  rw [hi] at h
  simp only [hv] at h
  split at h
  ·rename_i e; cases e; exact ⟨_,rfl⟩
  ·cases h
 unfold zeroNV at h
 split at h
 ·rename_i ha hb
  split at h
  case h_2=>cases h
  rename_i l hl
  cases h
  obtain ⟨i,v,hi,hv,hzo,hz⟩:=zeroSegs_spec hl
  obtain ⟨cs,rfl⟩:=agg ha hi hv
  exact ⟨_,run_zeroValue hi hv w,cs.toList,by simp,hz Γ,hzo⟩
 ·rename_i ha hb
  split at h
  case h_2=>cases h
  rename_i l hl
  cases h
  obtain ⟨i,v,hi,hv,hsz,hs⟩:=zeroCells_spec hl
  obtain ⟨cs,rfl⟩:=agg ha hi hv
  exact ⟨_,run_zeroValue hi hv w,cs.toList,by simp,scals_rel hs⟩
 ·cases h
structure MapSt (P:Program) (s:St) (Γ:Env) (w:World) (t:TypeId) (vm vk:Value) (r:Nat) (g:Reg) (ks sch:List Part) (xs:List (List FC × List FC)) (row:List FC) (et:TypeId) (B:Blk) (es:Array MapEntry) (ck:Nat) (kt:TypeId):Prop where
 hu:P.underlying t=some (.map kt et)
 hf:flatKey P kt ks=true
 hm:vm=.map (some B.blk)
 hk:RowV Γ ks row vk
 hg:s.rg[r]? = some (some g)
 hb:g.body=.mp ks sch xs
 hB:Γ.pt r=some B
 hh:w.heap[B.blk]? = some (.map es ck)
 he:R2 (MpE Γ ks sch) xs es.toList
 hp:B.post=some []
 hst:B.st=g.st
theorem nmapAt_sound {P:Program} {s:St} {Γ:Env} {w:World} {a:Act} {t:TypeId} {m k:Operand} {r:Nat} {g:Reg} {ks sch:List Part} {xs:List (List FC × List FC)} {row:List FC} {et:TypeId} (hw:WRel Γ s.rg w) (hfr:FrRel Γ s.fr a.tmps)
  (h:nmapAt P s t m k=some (r,g,ks,sch,xs,row,et)):∃ B es ck kt,MapSt P s Γ w t (a.eval m) (a.eval k) r g ks sch xs row et B es ck kt:=by
 unfold nmapAt at h
 split at h
 case h_2=>cases h
 rename_i kt et' r' key hu hm hk
 split at h
 case h_2=>cases h
 rename_i g' hg
 split at h
 case h_2=>cases h
 rename_i ks' sch' xs' hb
 split at h
 case h_2=>cases h
 rename_i row' hrow hf
 cases h
 obtain ⟨⟨B,hB,hv⟩,-⟩:=nc_rel (ev_rel hfr m) hm
 have hkr:=nvRow_sound hrow (nv_rel (ev_rel hfr k) hk)
 have hgl:=(reg_eq s r g).1 hg
 rcases hw.at_or hB hgl with ⟨c,hA⟩ | hM
 ·have:=hA.body
  rw [hb] at this
  exact this.elim
 ·obtain ⟨⟨ks2,sch2,xs2,es,ck,h1,h2,h3⟩,h4,h5⟩:=hM
  rw [hb] at h1
  cases h1
  exact ⟨B,es,ck,kt,hu,hf,hv,hkr,hgl,hb,hB,h2,h3,h4,h5⟩
section
variable {P:Program} {s:St} {Γ:Env} {w:World} {t:TypeId} {vm vk:Value} {r:Nat} {g:Reg} {ks sch:List Part} {xs:List (List FC × List FC)} {row:List FC} {et:TypeId} {B:Blk} {es:Array MapEntry} {ck:Nat} {kt:TypeId}
theorem MapSt.get (M:MapSt P s Γ w t vm vk r g ks sch xs row et B es ck kt):(getObj B.blk).run P w=.ok (.map es ck) w:=by simp [getObj,Sem.run,M.hh]
theorem MapSt.put (M:MapSt P s Γ w t vm vk r g ks sch xs row et B es ck kt) (o:Obj):(setObj B.blk o).run P w=.ok () (w.putObj B.blk o):=by simp [setObj,Sem.run,M.hh,World.putObj]
theorem MapSt.find (M:MapSt P s Γ w t vm vk r g ks sch xs row et B es ck kt):∃ q,(Instr.findKey kt vk es.toList).run P w=.ok q w∧Found Γ ks sch row xs es.toList 0 q:=by
 obtain ⟨q,h1,h2⟩:=run_find_flat w M.hf M.hk 0 M.he
 obtain ⟨fs,hu,-⟩:=flatKey_spec M.hf
 exact ⟨q,by rw [run_findKey_eq w (by rw [hu]) vk es.toList]; exact h1,h2⟩
theorem MapSt.check (M:MapSt P s Γ w t vm vk r g ks sch xs row et B es ck kt) (em:Bool):(Instr.checkKey em 10000 kt vk).run P w=.ok () w:=run_checkKey_flat w em 9998 M.hf M.hk
theorem MapSt.lookup (M:MapSt P s Γ w t vm vk r g ks sch xs row et B es ck kt) {z:NV} (hz:zeroNV P et=some z) (ok:Bool) :
  ∃ v,(Instr.lookup t vm vk ok).run P w=.ok (if ok then .tuple #[v,.bool (mpHas ks row xs)] else v) w∧(mpHas ks row xs=true∧RowV Γ sch (mpGet ks row xs) v∨mpHas ks row xs=false∧VRel Γ z v):=by
 obtain ⟨q,h1,h2⟩:=M.find
 have hc:=M.check es.isEmpty
 cases h2 with
 | no hn=>
   obtain ⟨hh,-,-⟩:=mp_no hn
   obtain ⟨v,hv,hr⟩:=zeroNV_sound (w:=w) (Γ:=Γ) hz
   refine ⟨v,?_,.inr ⟨hh,hr⟩⟩
   rw [hh]
   simp [Instr.lookup,run_underlying M.hu,M.hm,M.get,hc,h1,hv]
 | yes pre x post epre e epost a1 a2 a3 a4 a5 a6 a7=>
   subst a1
   obtain ⟨hh,hg,-,-⟩:=mp_yes (post:=post) a6 a7
   refine ⟨e.val,?_,.inl ⟨hh,by rw [hg]; exact a4.2⟩⟩
   rw [hh]
   simp [Instr.lookup,run_underlying M.hu,M.hm,M.get,hc,h1]
theorem MapSt.turn (M:MapSt P s Γ w t vm vk r g ks sch xs row et B es ck kt) (hw:WRel Γ s.rg w) {ys:List (List FC × List FC)} {es' : Array MapEntry} {ck' : Nat} (h:R2 (MpE Γ ks sch) ys es'.toList) {nm:Nat} {v:NS} {u:Value} (hv:SRel Γ v u) :
  EffOk Γ s w nm {up:=[(r,some {g with body:=.mp ks sch ys})],v:=v} u (w.putObj B.blk (.map es' ck')):=by
 have hlt:=heap_lt M.hh
 refine ⟨Γ,Ext.refl Γ w,hv,?_,⟨rfl,rfl,rfl,by rw [World.putObj_size]; exact Nat.le_refl _⟩,fun _ h _=>h⟩
 refine hw.change ⟨g,M.hg⟩ M.hB (fun b hb=>World.putObj_heap_other hb) (.inr (.inr ⟨(Env.pt_iff.1 M.hB).2,⟨ks,sch,ys,es',ck',rfl,?_,h⟩,M.hp,M.hst⟩))
 exact World.putObj_heap_same hlt
theorem R2.mid {α β:Type} {R:α→β→Prop} {a:List α} {b:List β} {x:α} {y:β} {c:List α} {d:List β} (h1:R2 R a b) (h2:R x y) (h3:R2 R c d):R2 R (a++x::c) (b++y::d):=h1.append (.cons h2 h3)
theorem MapSt.set (M:MapSt P s Γ w t vm vk r g ks sch xs row et B es ck kt) (hw:WRel Γ s.rg w) {vr:List FC} {v:Value} (hv:RowV Γ sch vr v) (nm:Nat) :
  ∃ w',(Instr.mapUpdate t vm vk v).run P w=.ok () w'∧EffOk Γ s w nm {up:=[(r,some {g with body:=.mp ks sch (mpSet ks row vr xs)})],v:=.dead} undef w':=by
 obtain ⟨q,h1,h2⟩:=M.find
 have hc:=M.check false
 cases h2 with
 | no hn=>
   obtain ⟨-,hs,-⟩:=mp_no hn
   refine ⟨w.putObj B.blk (.map (es.push {key:=vk,val:=v,born:=ck}) (ck+1)),?_,M.turn hw (by rw [hs,Array.toList_push]; exact M.he.append (.cons ⟨M.hk,hv⟩ .nil)) trivial⟩
   simp [Instr.mapUpdate,run_underlying M.hu,M.hm,M.get,M.put,hc,h1]
 | yes pre x post epre e epost a1 a2 a3 a4 a5 a6 a7=>
   subst a1
   obtain ⟨-,-,hs,-⟩:=mp_yes (post:=post) a6 a7
   have hmid:es[epre.length]? = some e:=by
    rw [← Array.getElem?_toList,a2]; simp
   have hkey:e.key=vk:=by
    obtain ⟨fs,-,hf,-⟩:=flatKey_spec M.hf
    obtain ⟨vs,b1,b2,-⟩:=M.hk
    obtain ⟨ws,c1,c2,-⟩:=a4.1
    rw [b1,c1,flat_vals (flatFs_flat hf) b2,flat_vals (flatFs_flat hf) c2,keyEq_vals a7]
   have hsame:Instr.sameBits 10000 vk vk=true:=by
    obtain ⟨fs,-,hf,-⟩:=flatKey_spec M.hf
    obtain ⟨vs,b1,b2,-⟩:=M.hk
    rw [b1,flat_vals (flatFs_flat hf) b2]
    simp only [Instr.sameBits,beq_self_eq_true,Bool.true_and]
    exact sameBits_flat _ _ _ _
   refine ⟨w.putObj B.blk (.map (es.modify epre.length fun e=>{e with key:=vk,val:=v}) ck),?_,M.turn hw (by rw [hs,Array.toList_modify,a2,modify_mid]; exact a3.mid ⟨M.hk,hv⟩ a5) trivial⟩
   simp [Instr.mapUpdate,run_underlying M.hu,M.hm,M.get,M.put,hc,h1,hmid,hkey,Instr.keyThatStays,hsame]
theorem MapSt.del (M:MapSt P s Γ w t vm vk r g ks sch xs row et B es ck kt) (hw:WRel Γ s.rg w) (nm:Nat) (ty:TypeId) (ts:Array TypeId) (ht:ts[0]? = some t) :
  ∃ w',(Builtin.delete_ ts ty #[vm,vk]).run P w=.ok (.tuple #[]) w'∧EffOk Γ s w nm {up:=[(r,some {g with body:=.mp ks sch (mpDel ks row xs)})],v:=.tu []} (.tuple #[]) w':=by
 obtain ⟨q,h1,h2⟩:=M.find
 have hc:=M.check es.isEmpty
 have htu:SRel Γ (.tu []) (.tuple #[]):=⟨[],rfl,.nil⟩
 cases h2 with
 | no hn=>
   obtain ⟨-,-,hs⟩:=mp_no hn
   refine ⟨w.putObj B.blk (.map es ck),?_,M.turn hw (by rw [hs]; exact M.he) htu⟩
   simp [Builtin.delete_,ht,run_underlying M.hu,M.hm,M.get,M.put,hc,h1]
 | yes pre x post epre e epost a1 a2 a3 a4 a5 a6 a7=>
   subst a1
   obtain ⟨-,-,-,hs⟩:=mp_yes (post:=post) a6 a7
   refine ⟨w.putObj B.blk (.map (es.eraseIdxIfInBounds epre.length) ck),?_,M.turn hw (by rw [hs,Array.toList_eraseIdxIfInBounds,a2,erase_mid]; exact a3.append a5) htu⟩
   simp [Builtin.delete_,ht,run_underlying M.hu,M.hm,M.get,M.put,hc,h1]
end
theorem nstructEq_sound {P:Program} {s:St} {Γ:Env} {w:World} {a:Act} {op:BinOp} {t:TypeId} {x y:Operand} {b:Bool} (hfr:FrRel Γ s.fr a.tmps) (h:nstructEq P s op t x y=some b) :
  (do eqGuard op t x y (a.eval x) (a.eval y); binOp op t (a.eval x) (a.eval y):Sem Value).run P w=.ok (.bool b) w:=by
 unfold nstructEq at h
 split at h
 case h_2=>cases h
 rename_i xs ys ks hx hy hk
 have key:∀ {ra rb:List FC},fcRow ks xs []=some ra→fcRow ks ys []=some rb→flatKey P t ks=true→∃ c d,a.eval x=.agg c∧a.eval y=.agg d∧(Op.equalIn 10000 t (.agg c) (.agg d)).run P w=.ok (keyEq ks ra rb 0) w∧(eqGuard op t x y (.agg c) (.agg d)).run P w=.ok () w:=by
  intro ra rb h1 h2 h3
  have r1:RowV Γ ks ra (a.eval x):=nvRow_sound (y:=.ag xs) h1 (nv_rel (ev_rel hfr x) hx)
  have r2:RowV Γ ks rb (a.eval y):=nvRow_sound (y:=.ag ys) h2 (nv_rel (ev_rel hfr y) hy)
  have he:=run_equalIn_flat w h3 r1 r2
  obtain ⟨fs,-,-,-,hg⟩:=flatKey_spec h3
  obtain ⟨vs,e1,-⟩:=r1
  obtain ⟨ws,e2,-⟩:=r2
  rw [e1,e2] at he
  exact ⟨_,_,e1,e2,he,run_eqGuard_agg w op t x y _ _ hg⟩
 split at h
 ·rename_i ra rb h1 h2 h3
  cases h
  obtain ⟨c,d,e1,e2,e3,e4⟩:=key h1 h2 h3
  rw [e1,e2]
  simp only [Sem.run_bind,e4,Result.andThen_ok,run_eql_struct,e3]
 ·rename_i ra rb h1 h2 h3
  cases h
  obtain ⟨c,d,e1,e2,e3,e4⟩:=key h1 h2 h3
  rw [e1,e2]
  simp only [Sem.run_bind,e4,Result.andThen_ok,run_neq_struct,e3]
 ·cases h
theorem tels_sound {s:St} {Γ:Env} {w:World} {x:NC} {v:Value} {c:List Bool} {sch:List Part} {ys:List (List FC)} (hw:WRel Γ s.rg w) (hx:CR Γ x v) (h:tels s x=some (c,sch,ys)) (hc:allT c) :
  ∃ a cap,v=.slice a ys.length cap∧ys.length≤cap∧TabOk sch ys∧(ys.length=0∨∃ blk off vals,a=some ⟨blk,off,none⟩∧R2 (FR Γ) (tabNC sch ys) vals∧∀ j u,vals[j]? = some u→w.cell? ⟨blk,off+j,none⟩=some u):=by
 unfold tels at h
 split at h
 ·rename_i r off len
  obtain ⟨⟨B,o,cap,hB,rfl,hlc,hcm,hcap⟩,-⟩:=hx
  split at h
  case h_2=>cases h
  rename_i g hg
  split at h
  case h_2=>cases h
  rename_i sch0 xs0 hb
  cases h
  have hgl:=(reg_eq s r g).1 hg
  obtain ⟨cs,hcs,hst,hsz,hbody⟩:=hw.atW hB hgl
  rw [hb] at hbody
  obtain ⟨hs1,hs0,l1,l2,hl,hr,hk⟩:=hbody
  have hlen:off+len≤xs0.length:=by simpa [allT] using hc
  have e1:((xs0.drop off).take len).length=len:=by simp; omega
  rw [e1]
  refine ⟨_,cap,rfl,hlc,(hk.drop off).take len,?_⟩
  rcases hcap with ⟨rfl,-⟩ | h0
  ·right
   refine ⟨B.blk,off * B.st,(l1.drop (off * schSize sch)).take (len * schSize sch),rfl,?_,fun j u hj=>heap_cell hcs ?_⟩
   ·rw [← tabNC_take (hk.drop off),← tabNC_drop hk]
    exact (hr.drop _).take _
   ·rw [hl,hst,hs1]
    exact prefix_get (drop_take_get hj)
  ·left; omega
 ·rename_i r len
  obtain ⟨hx0,-⟩:=hx
  split at h
  case h_2=>cases h
  rename_i g hg
  split at h
  case h_2=>cases h
  rename_i sch0 xs0 hb
  cases h
  have hgl:=(reg_eq s r g).1 hg
  have hlen:len≤xs0.length:=by simpa [allT] using hc
  have e1:(xs0.take len).length=len:=by simp; omega
  rw [e1]
  rcases hx0 with ⟨rfl,rfl,-⟩ | ⟨B,o,cap,hB,rfl,hlc,hcm,hcap⟩
  ·exact ⟨none,0,rfl,Nat.le_refl _,fun x hx=>by simp at hx,.inl rfl⟩
  obtain ⟨cs,hcs,hst,hsz,hbody⟩:=hw.atW hB hgl
  rw [hb] at hbody
  obtain ⟨hs1,hs0,l1,l2,hl,hr,hk⟩:=hbody
  refine ⟨_,cap,rfl,hlc,hk.take len,?_⟩
  rcases hcap with ⟨rfl,-⟩ | h0
  ·right
   refine ⟨B.blk,0 * B.st,l1.take (len * schSize sch),rfl,?_,fun j u hj=>heap_cell hcs ?_⟩
   ·rw [← tabNC_take hk]
    exact hr.take _
   ·rw [List.getElem?_take] at hj
    split at hj
    case isFalse=>cases hj
    rw [hl,Nat.zero_mul,Nat.zero_add]
    exact prefix_get hj
  ·left; omega
 ·rename_i sch xs
  cases h
  obtain ⟨⟨a,cap,rfl,hlc,h0,hk,hro⟩,-⟩:=hx
  refine ⟨a,cap,rfl,hlc,hk,?_⟩
  rcases hro with rfl | ⟨blk,off,vs,rfl,hro,hr⟩
  ·left; rfl
  ·right; exact ⟨blk,off,vs,rfl,hr,fun j u hj=>hro.cell hw hj⟩
 ·cases h
theorem tabFits_spec {P:Program} {e:TypeId} {sch:List Part} (h:tabFits P e sch=true):∃ i z,P.info? e=some i∧i.zero=some z∧z.cells.size=i.size∧i.size=schSize sch∧0<schSize sch∧i.bytes=bytesT P e∧isAggT P e=true:=by
 unfold tabFits at h
 simp only [Bool.and_eq_true,decide_eq_true_eq] at h
 obtain ⟨⟨⟨-,h0⟩,ha⟩,h⟩:=h
 split at h
 ·rename_i i hi
  split at h
  ·rename_i z hz
   simp only [Bool.and_eq_true,beq_iff_eq] at h
   exact ⟨i,z,hi,hz,h.1,h.2,h0,by simp [bytesT,hi],ha⟩
  ·cases h
 ·cases h
theorem tab_len {Γ:Env} {sch:List Part} {ys:List (List FC)} {vals:List Value} (hk:TabOk sch ys) (hr:R2 (FR Γ) (tabNC sch ys) vals):vals.length=ys.length * schSize sch:=by
 rw [← hr.length,tabNC_length hk]
theorem tabReg_rel {Γ:Env} {e:TypeId} {sch:List Part} {ys:List (List FC)} {vals:List Value} (h0:0<schSize sch) (hk:TabOk sch ys) (hr:R2 (FR Γ) (tabNC sch ys) vals) (l2:List Value):BodyRel Γ (tabReg e sch ys).st (tabReg e sch ys).body (vals++l2):=
 ⟨rfl,h0,vals,l2,rfl,hr,hk⟩
theorem one_of {Γ:Env} {xs:List NC} {l:List Value} (r:R2 (FR Γ) xs l):∀ u∈l,u.oneCell'=true:=(R2.c r).oneCell
theorem nappendT_row {P:Program} {s:St} {Γ:Env} {w:World} {t ty e:TypeId} {r len:Nat} {y:NC} {vx vy:Value} {nm:Nat} {c d:List Bool} {sch:List Part} {xs ys:List (List FC)} {g:Reg} (hw:WRel Γ s.rg w) (hnm:Γ.μ nm=none)
  (hx:CR Γ (.h r 0 len) vx) (hy:CR Γ y vy) (ht:P.underlying t=some (.slice e)) (hys:tels s y=some (c,sch,ys)) (hfit:tabFits P e sch=true) (hxs:tels s (.h r 0 len)=some (d,sch,xs)) (hg:s.reg r=some g) (hge:g.e=e)
  (hc:allT c) (hd:allT d) (hc2:allT (appConds P e (len+ys.length))) :
  ∃ u w',(Builtin.append_ #[t,t] ty #[vx,vy]).run P w=.ok u w'∧EffOk Γ s w nm {up:=[(r,none),(nm,some (tabReg e sch (xs++ys)))],v:=.v (.c (.h nm 0 (len+ys.length)))} u w':=by
 obtain ⟨a,cap2,rfl,hlc2,hky,hcells⟩:=tels_sound hw hy hys hc
 obtain ⟨hc3,hc4⟩:=allT_two hc2
 obtain ⟨i,z,hi,hz,hzs,hsz,h0,hby,-⟩:=tabFits_spec hfit
 have hgl:=(reg_eq s r g).1 hg
 obtain ⟨⟨B,o,cap,hB,rfl,hlc,hcm,hcap⟩,-⟩:=hx
 obtain ⟨cs,hcs,hst,hszB,hbody⟩:=hw.atW hB hgl
 have hxl:xs.length=len∧schSize sch=g.st∧TabOk sch xs∧∃ olds l2,cs.toList=olds++l2∧R2 (FR Γ) (tabNC sch xs) olds:=by
  unfold tels at hxs
  simp only [hg] at hxs
  split at hxs
  case h_2=>cases hxs
  rename_i sch0 xs0 hb
  cases hxs
  rw [hb] at hbody
  obtain ⟨hs1,hs0,l1,l2,hl,hr,hk⟩:=hbody
  have hlen:0+len≤xs0.length:=by simpa [allT] using hd
  refine ⟨by simp; omega,hs1.symm,(hk.drop 0).take len,l1.take (len * schSize sch),l1.drop (len * schSize sch)++l2,?_,?_⟩
  ·rw [hl,← List.append_assoc,List.take_append_drop]
  ·rw [List.drop_zero,← tabNC_take hk]
   exact hr.take _
 obtain ⟨hxl,hxw,hkx,olds,l2,hcl,hro⟩:=hxl
 have hxv:olds.length=len * i.size:=by rw [tab_len hkx hro,hxl,hsz]
 have hgheap:w.heap[B.blk]? = some (.cells cs e (0,0)):=by rw [hcs,hge]
 have hsz2:g.st=i.size:=by rw [← hxw,hsz]
 have hblk:((some r).bind fun r=>(Γ.pt r).map (·.blk))=some B.blk:=by simp [Env.wh_pt hB]
 have hoks:∀ q,some r=some q→∃ B,Γ.pt q=some B∧live s.rg q:=fun q hq=>by cases hq; exact ⟨B,Env.wh_pt hB,g,hgl⟩
 have fin:∀ {v:Value} {w' : World} {vv:Value} {news:List Value},R2 (FR Γ) (tabNC sch ys) news→(Builtin.append_ #[t,t] ty #[vv,.slice a ys.length cap2]).run P w=.ok v w'→Appd w (some B.blk) e i.size (len+ys.length) (olds++news) v w'→
   ∃ u w',(Builtin.append_ #[t,t] ty #[vv,.slice a ys.length cap2]).run P w=.ok u w'∧EffOk Γ s w nm {up:=[(r,none),(nm,some (tabReg e sch (xs++ys)))],v:=.v (.c (.h nm 0 (len+ys.length)))} u w':=by
  intro v w' vv news hrn hrun ha
  rw [← hblk] at ha
  have hr2:R2 (FR Γ) (tabNC sch (xs++ys)) (olds++news):=by rw [tabNC_append]; exact hro.append hrn
  have:=EffOk.appdG (s:=s) (nm:=nm) (gz:=tabReg e sch (xs++ys)) (old:=some r) (kl:=some r) hw hnm (fun _ h=>h) hoks (tabReg_rel h0 (hkx.append hky) hr2) rfl hsz.symm ha
  exact ⟨v,w',hrun,this⟩
 by_cases hy0:ys.length=0
 ·have hrun:=run_append_zero (w:=w) (ty:=ty) ht hi (some ⟨B.blk,o,none⟩) a len cap cap2 hlc
  have hyn:ys=[]:=List.eq_nil_of_length_eq_zero hy0
  have happ:Appd w (some B.blk) e i.size (len+ys.length) (olds++[]) (.slice (some ⟨B.blk,o,none⟩) len cap) w:=by
   rw [hy0,Nat.add_zero,List.append_nil]
   exact ⟨⟨B.blk,o,cap,cs,rfl,hgheap,hlc,hcm,hcap.imp (fun h=>⟨by rw [h.1,Nat.zero_mul],by rw [hszB,← h.2,Nat.zero_add,hst,hsz2]⟩) id,⟨l2,hcl⟩,.inl rfl⟩,fun _ _ _=>rfl,Wd.refl w⟩
  exact fin (news:=[]) (by rw [hyn]; exact .nil) (by rw [hy0]; exact hrun) happ
 ·rcases hcells with hcells | ⟨blk,off,news,rfl,hrn,hcells⟩
  ·exact (hy0 hcells).elim
  have hyv:news.length=ys.length * i.size:=by rw [tab_len hky hrn,hsz]
  rcases hcap with ⟨rfl,hcz⟩ | hcz
  ·simp only [Nat.zero_mul,Nat.zero_add] at hcz ⊢
   obtain ⟨v,w',hrun,ha⟩:=app_old (w:=w) (ty:=ty) ht hi hz hzs hgheap hcl hxv (cap:=cap) (by rw [hszB,← hcz,hst,hsz2]) hcm (a:=⟨blk,off,none⟩) (m:=ys.length) (c:=cap2) (news:=news) hyv
    (fun j u hj=>by rw [Addr.add_lit]; exact hcells j u hj) (one_of hrn) (by rw [hby]; exact hc3) hc4
   exact fin hrn hrun ha
  ·have hl0:len=0:=by omega
   subst hl0
   subst hcz
   have hxn:olds=[]:=List.eq_nil_of_length_eq_zero (by rw [hxv]; simp)
   obtain ⟨v,w',hrun,ha⟩:=app_empty (w:=w) (ty:=ty) ht hi hz hzs ⟨B.blk,o,none⟩ (a:=⟨blk,off,none⟩) (m:=ys.length) (c:=cap2) (news:=news) hyv
    (fun j u hj=>by rw [Addr.add_lit]; exact hcells j u hj) (by omega) (by rw [hby]; simpa using hc3) (by simpa using hc4) (some B.blk)
   exact fin hrn hrun (by rw [hxn]; simpa using ha)
theorem nappendT_sound {P:Program} {s:St} {Γ:Env} {w:World} {t ty:TypeId} {x y:NC} {vx vy:Value} {nm:Nat} {R:Eff→Prop} {tr:Tr Eff} (hw:WRel Γ s.rg w) (hnm:Γ.μ nm=none)
  (hx:CR Γ x vx) (hy:CR Γ y vy) (ht:nappendT P s t x y nm=some tr) (h:tr.run R) :
  ∃ ef u w',R ef∧(Builtin.append_ #[t,t] ty #[vx,vy]).run P w=.ok u w'∧EffOk Γ s w nm ef u w':=by
 unfold nappendT at ht
 split at ht
 case h_2=>cases ht
 rename_i e hu
 split at ht
 case h_2=>cases ht
 rename_i c sch ys hys
 split at ht
 case isFalse=>cases ht
 rename_i hfit
 obtain ⟨i,z,hi,hz,hzs,hsz,h0,hby,-⟩:=tabFits_spec hfit
 split at ht
 ·cases ht
  obtain ⟨rfl,-⟩:=hx
  obtain ⟨hc,h⟩:=(chkT_run _ _ _).1 h
  obtain ⟨a,cap,rfl,hlc,hky,hcells⟩:=tels_sound hw hy hys hc
  simp only [Tr.run] at h
  rcases sel_iff.1 h with ⟨h1,h⟩ | ⟨h1,h⟩
  ·have hl0:ys.length=0:=by simpa using h1
   rw [hl0]
   exact ⟨_,_,_,h,run_append_zero hu hi none a 0 0 cap (Nat.le_refl _),EffOk.plain hw ⟨rfl,rfl⟩⟩
  ·have hl0:ys.length≠0:=by simpa using h1
   obtain ⟨hc2,h⟩:=(chkT_run _ _ _).1 h
   obtain ⟨hc3,hc4⟩:=allT_two hc2
   rcases hcells with hcells | ⟨blk,off,news,rfl,hrn,hcells⟩
   ·exact (hl0 hcells).elim
   obtain ⟨v,w',hrun,ha⟩:=app_new (w:=w) (ty:=ty) hu hi hz hzs (a:=⟨blk,off,none⟩) (m:=ys.length) (c:=cap) (news:=news) (by rw [tab_len hky hrn,hsz])
    (fun j u hj=>by rw [Addr.add_lit]; exact hcells j u hj) (by omega) (by rw [hby]; exact hc3) hc4
   exact ⟨_,v,w',h,hrun,EffOk.appdG (gz:=tabReg e sch ys) (old:=none) (kl:=none) hw hnm (fun _ h=>by cases h) (fun _ h=>by cases h) (tabReg_rel h0 hky hrn) rfl hsz.symm ha⟩
 ·rename_i r len
  split at ht
  case h_2=>cases ht
  rename_i d sch' xs g hxs hg
  split at ht
  case isFalse=>cases ht
  rename_i hge
  obtain ⟨rfl,hge⟩:=hge
  cases ht
  obtain ⟨hc,h⟩:=(chkT_run _ _ _).1 h
  obtain ⟨hd,h⟩:=(chkT_run _ _ _).1 h
  obtain ⟨hc2,h⟩:=(chkT_run _ _ _).1 h
  obtain ⟨u,w',h1,h2⟩:=nappendT_row (ty:=ty) hw hnm hx hy hu hys hfit hxs hg hge hc hd hc2
  exact ⟨_,u,w',h,h1,h2⟩
 ·rename_i r len
  split at ht
  case h_2=>cases ht
  rename_i d sch' xs g hxs hg
  split at ht
  case isFalse=>cases ht
  rename_i hge
  obtain ⟨rfl,hge⟩:=hge
  cases ht
  obtain ⟨hc,h⟩:=(chkT_run _ _ _).1 h
  obtain ⟨hd,h⟩:=(chkT_run _ _ _).1 h
  obtain ⟨hc2,h⟩:=(chkT_run _ _ _).1 h
  obtain ⟨hx1,hx2⟩:=hx
  have hrow:∃ d',tels s (.h r 0 len)=some (d',sch',xs)∧allT d':=by
   unfold tels at hxs ⊢
   simp only [hg] at hxs ⊢
   split at hxs
   case h_2=>cases hxs
   rename_i sch0 xs0 hb
   cases hxs
   have:len≤xs0.length:=by simpa [allT] using hd
   exact ⟨[decide (0+len≤xs0.length)],rfl,fun b hb=>by rw [List.mem_singleton] at hb; subst hb; exact decide_eq_true (by omega)⟩
  rcases hx1 with ⟨rfl,rfl,-⟩ | hx1
  ·obtain ⟨hc3,hc4⟩:=allT_two hc2
   obtain ⟨a,cap,rfl,hlc,hky,hcells⟩:=tels_sound hw hy hys hc
   have hx0:xs=[]:=by
    unfold tels at hxs
    simp only [hg] at hxs
    split at hxs
    case h_2=>cases hxs
    cases hxs
    simp
   subst hx0
   by_cases hl0:ys.length=0
   ·have hyn:ys=[]:=List.eq_nil_of_length_eq_zero hl0
    subst hyn
    exact ⟨_,_,_,h,run_append_zero hu hi none a 0 0 cap (Nat.le_refl _),EffOk.ghost hw hnm (.inr (.inr ⟨_,rfl,h0⟩))⟩
   ·rcases hcells with hcells | ⟨blk,off,news,rfl,hrn,hcells⟩
    ·exact (hl0 hcells).elim
    rw [Nat.zero_add] at hc3 hc4
    obtain ⟨v,w',hrun,ha⟩:=app_new (w:=w) (ty:=ty) hu hi hz hzs (a:=⟨blk,off,none⟩) (m:=ys.length) (c:=cap) (news:=news) (by rw [tab_len hky hrn,hsz])
     (fun j u hj=>by rw [Addr.add_lit]; exact hcells j u hj) (by omega) (by rw [hby]; exact hc3) hc4
    have hE:=EffOk.appdG (s:=s) (nm:=nm) (gz:=tabReg e sch' ys) (old:=none) (kl:=some r) hw hnm (fun _ h=>by cases h) (fun _ h=>by cases h) (tabReg_rel h0 hky hrn) rfl hsz.symm ha
    refine ⟨_,v,w',h,hrun,?_⟩
    rw [Nat.zero_add,List.nil_append]
    exact hE.told fun Γ' hr=>⟨.inr hr.1,hr.2⟩
  ·obtain ⟨d',hd1,hd2⟩:=hrow
   obtain ⟨u,w',h1,h2⟩:=nappendT_row (ty:=ty) hw hnm ⟨hx1,hx2⟩ hy hu hys hfit hd1 hg hge hc hd2 hc2
   exact ⟨_,u,w',h,h1,h2.told fun Γ' hr=>⟨.inr hr.1,hr.2⟩⟩
 ·cases ht
theorem nvRows_spec {Γ:Env} {s:St} {a:Act} {sch:List Part} (hfr:FrRel Γ s.fr a.tmps):∀ {parts:List (Nat × Operand)} {j:Nat} {rows:List (List FC)},nvRows sch s j parts=some rows→
  parts=parts.mapIdx (fun i p=>(j+i,p.2))∧R2 (fun row (p:Nat × Operand)=>RowV Γ sch row (a.eval p.2)) rows parts
 | [],j,rows,h=>by cases h; exact ⟨rfl,.nil⟩
 | (i,x)::l,j,rows,h=>by
   simp only [nvRows] at h
   split at h
   case isFalse=>cases h
   rename_i hij
   subst hij
   split at h
   case h_2=>cases h
   rename_i v hv
   split at h
   case h_2=>cases h
   rename_i r rs h1 h2
   cases h
   obtain ⟨h3,h4⟩:=nvRows_spec hfr h2
   refine ⟨?_,.cons (nvRow_sound h1 (nv_rel (ev_rel hfr x) hv)) h4⟩
   rw [List.mapIdx_cons]
   simp only [Nat.add_zero]
   congr 1
   conv=>lhs; rw [h3]
   congr 1
   funext k p
   congr 1
   omega
theorem fill_rows {Γ:Env} {sch:List Part} {n:Nat} (hn:n=schSize sch):∀ {rows:List (List FC)} {l:List (Nat × Value)} {j:Nat} {cells:Array Value} {pre:List Value},
  R2 (fun row (p:Nat × Value)=>RowV Γ sch row p.2) rows l→(∀ i p,l[i]? = some p→p.1=j+i)→cells.size=(j+rows.length) * n→cells.toList.take (j * n)=pre→pre.length=j * n→
  ∃ cs vals,Instr.fill (fun i=>some (i * n,n)) cells l=some cs∧R2 (FR Γ) (tabNC sch rows) vals∧cs.toList=pre++vals:=by
 intro rows l
 induction l generalizing rows with
 | nil=>
   intro j cells pre hr hl hs hp hpl
   cases hr
   refine ⟨cells,[],rfl,.nil,?_⟩
   rw [List.append_nil,← hp,List.take_of_length_le]
   simp at hs
   simp [hs]
 | cons p l ih=>
   intro j cells pre hr hl hs hp hpl
   cases hr with
   | @cons row _ rs _ h1 h2=>
     obtain ⟨i,u⟩:=p
     have hi:i=j:=by simpa using hl 0 (i,u) (by simp)
     subst hi
     obtain ⟨vs,rfl,hv,hok⟩:=h1
     have hvl:vs.length=n:=by rw [← hv.length,rowSegs_len hok,hn]
     have hsz:cells.size=i * n+n+rs.length * n:=by rw [hs,List.length_cons,Nat.add_mul,Nat.add_mul,Nat.one_mul]; omega
     have key:=foldl_splice (i * n) vs 0 cells (by rw [hvl,hsz]; omega)
     rw [Nat.add_zero] at key
     have harr:(vs.toArray.zipIdx.foldl (fun (cs:Array Value) (x:Value × Nat)=>cs.setIfInBounds (i * n+x.2) x.1) cells).toList=splice cells.toList (i * n) vs:=by
      rw [← key,← Array.foldl_toList]
      simp
     have hs2:(vs.toArray.zipIdx.foldl (fun (cs:Array Value) (x:Value × Nat)=>cs.setIfInBounds (i * n+x.2) x.1) cells).size=((i+1)+rs.length) * n:=by
      have:=congrArg List.length harr
      rw [splice_length _ _ _ (by rw [hvl,Array.length_toList,hsz]; omega)] at this
      rw [Array.length_toList,Array.length_toList] at this
      rw [this,hs,List.length_cons]
      congr 1; omega
     have hp2:(vs.toArray.zipIdx.foldl (fun (cs:Array Value) (x:Value × Nat)=>cs.setIfInBounds (i * n+x.2) x.1) cells).toList.take ((i+1) * n)=pre++vs:=by
      rw [harr]
      unfold splice
      have hl1:(cells.toList.take (i * n)).length=i * n:=by rw [hp,hpl]
      rw [Nat.succ_mul,List.take_append_of_le_length (by rw [List.length_append,hl1,hvl]; omega),List.take_of_length_le (by rw [List.length_append,hl1,hvl]; omega),hp]
     obtain ⟨cs,vals,i1,i2,i3⟩:=ih (rows:=rs) (j:=i+1) h2 (fun q p hq=>by
      have:=hl (q+1) p (by simpa using hq)
      omega) hs2 hp2 (by rw [List.length_append,hpl,hvl,Nat.succ_mul])
     refine ⟨cs,vs++vals,?_,?_,?_⟩
     ·have c1:((Value.agg vs.toArray).cells.size !=n||decide (i * n+(Value.agg vs.toArray).cells.size > cells.size))=false:=by
       simp [Value.cells,hvl,hsz]
      simp only [Instr.fill]
      rw [if_neg (by simpa using c1)]
      exact i1
     ·rw [tabNC_cons]; exact hv.append i2
     ·rw [i3,List.append_assoc]
theorem nbuildT_sound {P:Program} {s:St} {Γ:Env} {w:World} {a:Act} {t:TypeId} {len:Nat} {parts:Array (Nat × Operand)} {g:Reg} {nm:Nat} (hw:WRel Γ s.rg w) (hnm:Γ.μ nm=none) (hfr:FrRel Γ s.fr a.tmps) (h:nbuildT P s t len parts.toList=some g) :
  ∃ u w',(Instr.buildSlice t len (parts.map fun p=>(p.1,a.eval p.2))).run P w=.ok u w'∧EffOk Γ s w nm {up:=[(nm,some g)],v:=.v (.c (.h nm 0 len))} u w':=by
 unfold nbuildT at h
 split at h
 case h_2=>cases h
 rename_i e hu
 split at h
 case h_2=>cases h
 rename_i sch hks hsch
 split at h
 case isFalse=>cases h
 rename_i hcond
 obtain ⟨hfit,hlen,hmax,hl24⟩:=hcond
 split at h
 case h_2=>cases h
 rename_i rows hrows
 cases h
 obtain ⟨i,z,hi,hz,hzs,hsz,h0,hby,-⟩:=tabFits_spec hfit
 obtain ⟨hp,hr⟩:=nvRows_spec hfr hrows
 have hrl:rows.length=len:=by rw [hr.length,hlen]
 have hse:sizeT P e=schSize sch:=by simp [sizeT,hi,hsz]
 have hr2:R2 (fun row (p:Nat × Value)=>RowV Γ sch row p.2) rows (parts.map fun p=>(p.1,a.eval p.2)).toList:=by
  rw [Array.toList_map]
  clear hp hlen hrows hrl
  generalize parts.toList=l at hr
  induction hr with
  | nil=>exact .nil
  | cons x _ ih=>exact .cons x ih
 obtain ⟨cs,vals,h1,h2,h3⟩:=fill_rows (n:=sizeT P e) hse (j:=0) (cells:=(Array.range (len * sizeT P e)).map (fun x=>z.cells[x % sizeT P e]!)) (pre:=[]) hr2 (fun q p hq=>by
  rw [Array.toList_map,List.getElem?_map] at hq
  rw [hp,List.getElem?_mapIdx] at hq
  cases hx:parts.toList[q]? with
  | none=>rw [hx] at hq; simp at hq
  | some y=>
    rw [hx] at hq
    simp at hq
    rw [← hq]
    simp) (by simp [hrl]) (by simp) (by simp)
 have hrun:=run_buildSlice (w:=w) (v:=z) hu hi hz (by rw [hzs,hsz,hse]) (by rw [hse]; exact hmax) h1
 refine ⟨_,_,hrun,?_⟩
 have hkr:TabOk sch rows:=by
  intro row hrow
  obtain ⟨q,hq⟩:=List.getElem?_of_mem hrow
  obtain ⟨p,-,vs,-,-,hok⟩:=hr2.get hq
  exact hok
 rw [List.nil_append] at h3
 have hcsz:cs.size=len * schSize sch:=by
  rw [← Array.length_toList,h3,tab_len hkr h2,hrl]
 have hb:BodyRel Γ (tabReg e sch rows).st (tabReg e sch rows).body cs.toList:=by
  have:=tabReg_rel (e:=e) h0 hkr h2 []
  rwa [List.append_nil,← h3] at this
 refine ⟨_,Ext.add hnm (fun _=>.inl (Nat.le_refl _)),⟨⟨_,0,len,Env.add_wh (B:=Blk.all w.heap.size (schSize sch) cs.size e) rfl rfl rfl,rfl,Nat.le_refl _,by simp only [maxLen]; omega,.inl ⟨by simp,by rw [Nat.zero_add,hcsz]; rfl⟩⟩,rfl⟩,hw.new (g:=tabReg e sch rows) hnm hb,Wd.alloc _ _ _,env_new_spec (ups_len (g:=some (tabReg e sch rows)) (by simp))⟩
end Go.Nx
