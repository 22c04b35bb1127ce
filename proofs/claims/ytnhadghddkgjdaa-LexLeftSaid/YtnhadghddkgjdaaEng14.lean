/-
  The engine, part 14: one operation; the operations of a region one behind the other.
-/
import Derived.Test.YtnhadghddkgjdaaEng13
namespace Go.Nx
open Go

/-- The marks among an activation's deferred calls: blocks of its own (from N on) that hold no call. -/
def Df (N : Nat) (Γ : Env) (ds : List Deferred) : Prop :=
  ∃ l : List Nat, ds = l.map (fun D => { target := .collected D, args := #[] }) ∧ l.Nodup ∧ ∀ D ∈ l, N ≤ D ∧ Γ.kp D = some (.deferred (some []))
theorem Df.mono {N : Nat} {Γ Γ' : Env} {ds : List Deferred} (h : Df N Γ ds) (hle : Γ.le Γ') : Df N Γ' ds := by
  obtain ⟨l, h1, h2, h3⟩ := h
  exact ⟨l, h1, h2, fun D hD => ⟨(h3 D hD).1, hle.kp _ _ (h3 D hD).2⟩⟩
theorem Df.nil (N : Nat) (Γ : Env) : Df N Γ [] := ⟨[], rfl, .nil, fun D h => by cases h⟩
/-- What holds of an activation: the slots, the memory, the listed variables, the names that are free. -/
structure Inv (gl : List Nat) (N : Nat) (Γ : Env) (s : St) (a : Act) (w : World) : Prop where
  wr : WRel Γ s.rg w
  fr : FrRel Γ s.fr a.tmps
  gl : GlobOk gl Γ
  nw : ∀ n, s.rg.length ≤ n → Γ.μ n = none
  df : Df N Γ a.defers

theorem FrRel.put {Γ : Env} {s : St} {a : Act} (h : FrRel Γ s.fr a.tmps) (dst : Option Tmp) {x : NS} {v : Value} (r : SRel Γ x v) : FrRel Γ (s.put dst x).fr (a.put dst v).tmps := by
  cases dst with
  | none => exact h
  | some d =>
    show R2 (SRel Γ) (s.fr.set d x) (a.tmps.setIfInBounds d v).toList
    rw [Array.toList_setIfInBounds]
    exact R2.set h d r
theorem put_rg (s : St) (dst : Option Tmp) (x : NS) : (s.put dst x).rg = s.rg := by cases dst <;> rfl
theorem put_defers (a : Act) (dst : Option Tmp) (v : Value) : (a.put dst v).defers = a.defers := by cases dst <;> rfl
theorem ups_put (s : St) (u : List (Nat × Option Reg)) (dst : Option Tmp) (x : NS) : ((s.put dst x).ups u).rg = (s.ups u).rg := by
  cases dst with
  | none => rfl
  | some d =>
    induction u generalizing s with
    | nil => rfl
    | cons p u ih => obtain ⟨n, g⟩ := p; exact ih (s.setReg n g)

theorem allNV_rel {Γ : Env} : ∀ {l : List NS} {xs : List NV} {vs : List Value}, allNV l = some xs → R2 (SRel Γ) l vs → R2 (VRel Γ) xs vs
  | [], xs, vs, h, r => by simp [allNV] at h; subst h; cases r; exact .nil
  | x :: l, xs, vs, h, r => by
    simp only [allNV] at h
    split at h
    · rename_i a b h1 h2
      cases h
      cases r with
      | cons r1 r2 => exact .cons (nv_rel r1 h1) (allNV_rel h2 r2)
    · cases h

theorem R1.eff_sound {Γ : Env} {s : St} {w : World} {P : Program} {o : Oper} {a : Act} {r : R1} {nm : Nat} {R : Eff → Prop} (hw : WRel Γ s.rg w) (hnm : Γ.μ nm = none) (ho : ROk Γ s w ((execOp a.eval o).run P w) r) (h : (r.eff nm).run R) {K : Act → World → Prop} {Q : Exit → Act → World → Prop}
    (hK : ∀ x u w', R x → EffOk Γ s w nm x u w' → K (a.put o.dst u) w') : o.wp P a w K Q := by
  cases r with
  | no => exact h.elim
  | val c v =>
    obtain ⟨hc, hR⟩ := (chkT_run _ _ _).1 h
    obtain ⟨u, h1, h2⟩ := ho hc
    unfold Oper.wp
    rw [h1, Oper.upon_value]
    exact hK _ u w hR (EffOk.plain hw h2)
  | new c g v =>
    obtain ⟨hc, hR⟩ := (chkT_run _ _ _).1 h
    obtain ⟨u, cs, h1, h2, h3⟩ := ho hc
    unfold Oper.wp
    rw [h1, Oper.upon_value]
    exact hK _ u _ hR ⟨_, Ext.add hnm (.inl (Nat.le_refl _)), h3 nm hnm, hw.new hnm h2, Wd.alloc _ _ _, env_new_spec (ups_len (g := some g) (by simp))⟩
  | upd c n g =>
    obtain ⟨hc, hR⟩ := (chkT_run _ _ _).1 h
    obtain ⟨w', h1, h2, h3⟩ := ho hc
    unfold Oper.wp
    rw [h1, Oper.upon_skip]
    exact hK _ undef _ hR ⟨Γ, Ext.refl Γ w, trivial, h2, h3, fun _ h _ => h⟩

/-- A row of the call's own that stays as it is from here on. -/
theorem EffOk.freeze {Γ : Env} {s : St} {w : World} {nm r : Nat} {g : Reg} {B : Blk} {k : IntKind} {xs : List Int} {cs : Array Value} (hw : WRel Γ s.rg w) (hg : s.rg[r]? = some (some g)) (hB : Γ.μ r = some B) (hcs : w.heap[B.blk]? = some (.cells cs g.e (0, 0)))
    (hv : ∀ (j : Nat) (u : Value), (xs.map (Value.int k))[j]? = some u → cs[j]? = some u) : EffOk Γ s w nm { up := [(r, none)], v := .v (.c (.l k xs)) } (.slice (some ⟨B.blk, 0, none⟩) xs.length xs.length) w := by
  have hlive : live s.rg r := ⟨g, hg⟩
  have hk0 : Γ.kp B.blk = none := hw.apart r B hlive hB
  have hrg : ∀ m g', (s.ups [(r, none)]).rg[m]? = some (some g') → m ≠ r ∧ s.rg[m]? = some (some g') := by
    intro m g' hm
    simp only [St.ups, St.setReg] at hm
    rcases (putAt_get _ _ _ _ _).1 hm with ⟨_, h2⟩ | ⟨h1, h2⟩
    · cases h2
    · exact ⟨h1, h2⟩
  have hoth : ∀ m Bm, m ≠ r → live s.rg m → Γ.μ m = some Bm → Bm.blk ≠ B.blk := fun m Bm hne hl hm => hw.inj m r Bm B hne hl hlive hm hB
  let Γ' : Env := { Γ with kp := fun b => if b = B.blk then some (.cells cs g.e (0, 0)) else Γ.kp b, ro := fun b => if b = B.blk then true else Γ.ro b }
  have hle : Γ.le Γ' := ⟨fun _ _ h => h, fun b o h => by
      show (if b = B.blk then _ else Γ.kp b) = some o
      by_cases hb : b = B.blk
      · rw [hb, hk0] at h; cases h
      · rw [if_neg hb]; exact h, fun b h => by
      show (if b = B.blk then true else Γ.ro b) = true
      by_cases hb : b = B.blk
      · rw [if_pos hb]
      · rw [if_neg hb]; exact h, rfl⟩
  refine ⟨Γ', ⟨hle, fun b h => ?_, fun n B h => .inr ⟨n, B, h, rfl⟩⟩, ⟨⟨some ⟨B.blk, 0, none⟩, xs.length, rfl, Nat.le_refl _, .inr ⟨B.blk, 0, rfl, ?_, cs, g.e, (0, 0), ?_, fun j u hj => by rw [Nat.zero_add]; exact hv j u hj⟩⟩, rfl⟩, ⟨fun m g' hm => ?_, fun a b Ba Bb hne la lb ea eb => ?_, fun b o h => ?_, fun m Bm hm eB => ?_, fun b h => ?_⟩, Wd.refl w, fun n h _ => h⟩
  · have h : (if b = B.blk then true else Γ.ro b) = true := h
    by_cases hb : b = B.blk
    · exact .inr (.inr ⟨r, B, hB, hb.symm⟩)
    · rw [if_neg hb] at h; exact .inl h
  · show (if B.blk = B.blk then true else Γ.ro B.blk) = true
    rw [if_pos rfl]
  · show (if B.blk = B.blk then some _ else Γ.kp B.blk) = _
    rw [if_pos rfl]
  · obtain ⟨hne, hm⟩ := hrg m g' hm
    obtain ⟨Bm, hBm, hr⟩ := hw.live m g' hm
    exact ⟨Bm, hBm, hr.mono hle⟩
  · obtain ⟨ga, hga⟩ := la
    obtain ⟨gb, hgb⟩ := lb
    exact hw.inj a b Ba Bb hne ⟨ga, (hrg a ga hga).2⟩ ⟨gb, (hrg b gb hgb).2⟩ ea eb
  · have h : (if b = B.blk then some (Obj.cells cs g.e (0, 0)) else Γ.kp b) = some o := h
    by_cases hb : b = B.blk
    · rw [if_pos hb] at h
      cases h
      rw [hb]; exact hcs
    · rw [if_neg hb] at h; exact hw.kp b o h
  · obtain ⟨g', hm⟩ := hm
    obtain ⟨hne, hm⟩ := hrg m g' hm
    show (if Bm.blk = B.blk then some _ else Γ.kp Bm.blk) = none
    rw [if_neg (hoth m Bm hne ⟨g', hm⟩ eB)]
    exact hw.apart m Bm ⟨g', hm⟩ eB
  · have h : (if b = B.blk then true else Γ.ro b) = true := h
    show ∃ o, (if b = B.blk then some (Obj.cells cs g.e (0, 0)) else Γ.kp b) = some o
    by_cases hb : b = B.blk
    · exact ⟨_, by rw [if_pos hb]⟩
    · rw [if_neg hb] at h ⊢; exact hw.ro b h
theorem nilUnk_sound {P : Program} {s : St} {Γ : Env} {a : Act} {op : BinOp} {t : TypeId} {x y : Operand} {e d : Bool} (hfr : FrRel Γ s.fr a.tmps) (h : nilUnk P s op t x y = some (e, d)) :
    ∃ A n c st, a.eval x = .slice A n c ∧ a.eval y = .slice none 0 0 ∧ P.underlying t = some (.slice st) ∧ (op = .eql ∧ d = false ∨ op = .neq ∧ d = true) ∧ (e = false → A.isSome = true) := by
  unfold nilUnk at h
  split at h
  case h_3 => cases h
  all_goals
    rename_i kk xs st hx hy hu
    have rx := nc_rel (ev_rel hfr x) hx
    have ry := nc_rel (ev_rel hfr y) hy
    obtain ⟨ry, -⟩ := ry
  · obtain ⟨⟨A, cap, h1, -, h2⟩, -⟩ := rx
    have hA : xs.isEmpty = false → A.isSome = true := by
      intro he
      rcases h2 with rfl | ⟨blk, off, rfl, -⟩
      · cases he
      · rfl
    split at h
    · cases h; exact ⟨A, _, cap, st, h1, ry, hu, .inl ⟨rfl, rfl⟩, hA⟩
    · cases h; exact ⟨A, _, cap, st, h1, ry, hu, .inr ⟨rfl, rfl⟩, hA⟩
    · cases h
  · obtain ⟨⟨A, cap, h1, -, -, h2⟩, -⟩ := rx
    have hA : xs.isEmpty = false → A.isSome = true := by
      intro he
      rcases h2 with rfl | ⟨blk, off, rfl, -⟩
      · cases he
      · rfl
    split at h
    · cases h; exact ⟨A, _, cap, st, h1, ry, hu, .inl ⟨rfl, rfl⟩, hA⟩
    · cases h; exact ⟨A, _, cap, st, h1, ry, hu, .inr ⟨rfl, rfl⟩, hA⟩
    · cases h
theorem deff_sound {X : Cx} (hcon : ∀ f T, X.con f = some T → Known X.P X.glob f T) {o : Oper} {nm : Nat} {s : St} {Γ : Env} {w : World} {a : Act} {R : Eff → Prop}
    (hw : WRel Γ s.rg w) (hG : GlobOk X.glob Γ) (hfr : FrRel Γ s.fr a.tmps) (hnm : ∀ k, nm ≤ k → k < nm + 8 → Γ.μ k = none) (h : (deff X o.op nm s).run R) {K : Act → World → Prop} {Q : Exit → Act → World → Prop}
    (hK : ∀ x u w', R x → EffOk Γ s w nm x u w' → K (a.put o.dst u) w') : o.wp X.P a w K Q := by
  have hnm0 : Γ.μ nm = none := hnm nm (Nat.le_refl _) (by omega)
  have hlight : ((light X.P X.glob s o.op).eff nm).run R → o.wp X.P a w K Q := fun h => R1.eff_sound hw hnm0 (light_sound hw hG hfr o) h hK
  have hargs : ∀ (l : List Operand), R2 (SRel Γ) (l.map s.ev) (l.map a.eval) := fun l => R2.self_map _ _ l fun x => ev_rel hfr x
  generalize hop : o.op = op at h hlight
  unfold deff at h
  split at h
  · rename_i bop t x y yt
    split at h
    · rename_i e d hn
      obtain ⟨A, n, c, st, h1, h2, h3, h4, h5⟩ := nilUnk_sound hfr hn
      have key : ∀ b : Bool, (bop = .eql ∧ b = A.isNone ∨ bop = .neq ∧ b = !A.isNone) → R { up := [], v := .v (.c (.b b)) } → o.wp X.P a w K Q := by
        intro b hb hR
        unfold Oper.wp
        have hrun : (do eqGuard bop t x y (a.eval x) (a.eval y); binOp bop t (a.eval x) (a.eval y) : Sem Value).run X.P w = .ok (.bool b) w := by
          rw [h1, h2, eqGuard_at_slice]
          simp only [pure_bind]
          rcases hb with ⟨rfl, rfl⟩ | ⟨rfl, rfl⟩
          · exact run_eql_slice_none w t st _ _ _ _ _ h3
          · exact run_neq_slice_nil_any w t st _ _ _ _ _ h3
        have : (execOp a.eval o).run X.P w = .ok (.value (.bool b)) w := by
          simp only [execOp, hop, Sem.run_bind (x := (do eqGuard bop t x y (a.eval x) (a.eval y); binOp bop t (a.eval x) (a.eval y) : Sem Value)), hrun, Result.andThen_ok, Sem.run_pure]
        rw [this, Oper.upon_value]
        exact hK _ _ w hR (EffOk.plain hw ⟨rfl, rfl⟩)
      simp only [Tr.run] at h
      rcases sel_iff.1 h with ⟨-, h⟩ | ⟨he, h⟩
      · rcases h4 with ⟨hb, -⟩ | ⟨hb, -⟩
        · exact key _ (.inl ⟨hb, rfl⟩) (h _ trivial)
        · exact key _ (.inr ⟨hb, rfl⟩) (h _ trivial)
      · have hA : A.isNone = false := by
          have := h5 he
          cases A <;> simp at this ⊢
        rcases h4 with ⟨hb, hd⟩ | ⟨hb, hd⟩
        · exact key _ (.inl ⟨hb, by rw [hA, hd]⟩) h
        · exact key _ (.inr ⟨hb, by rw [hA, hd]; rfl⟩) h
    · exact hlight h
  · rename_i c x y
    split at h
    · rename_i b hb
      have hc := ev_rel hfr c
      rw [hb] at hc
      obtain ⟨hcv, -⟩ := hc
      have hcv' : a.eval c = .bool b := hcv
      have key : ∀ (R' : SRel Γ (if b = true then s.ev x else s.ev y) (if b = true then a.eval x else a.eval y)), R { up := [], v := if b = true then s.ev x else s.ev y } → o.wp X.P a w K Q := by
        intro R' hR
        unfold Oper.wp
        have : (execOp a.eval o).run X.P w = .ok (.value (if b = true then a.eval x else a.eval y)) w := by simp [execOp, hop, hcv', asBool]
        rw [this, Oper.upon_value]
        exact hK _ _ w hR (EffOk.plain hw R')
      simp only [Tr.run] at h
      rcases sel_iff.1 h with ⟨rfl, h⟩ | ⟨rfl, h⟩
      · exact key (ev_rel hfr x) h
      · exact key (ev_rel hfr y) h
    · exact h.elim
  · rename_i c
    split at h
    · rename_i f hcal
      split at h
      case h_2 => exact h.elim
      rename_i g cap l hg hl
      have hf := ev_rel hfr f
      rw [hg] at hf
      obtain ⟨⟨caps, hfv, hcap⟩, -⟩ := hf
      have hfv' : a.eval f = .func (.func g) #[] caps.toArray := hfv
      have hall : R2 (VRel Γ) (l ++ cap.map fun x => NV.c (.p x.1 x.2.1 x.2.2)) (c.args.toList.map a.eval ++ caps) := by
        refine (allNV_rel hl (hargs _)).append (R2.map_left hcap ?_)
        rintro x u ⟨B, h1, h2⟩
        exact ⟨⟨B, h1, h2⟩, by rw [h2]; rfl⟩
      have hT : ∃ T, X.con g = some T := by
        unfold ncall ncallP at h
        split at h
        · exact ⟨_, by assumption⟩
        · exact h.elim
      obtain ⟨T, hT⟩ := hT
      unfold Oper.wp
      have : (execOp a.eval o).run X.P w = .ok (.enter g (c.args.toList.map a.eval ++ caps).toArray) w := by
        have e : (c.args.toList.map a.eval ++ caps).toArray = c.args.map a.eval ++ caps.toArray := by
          apply Array.ext'
          simp
        rw [e, ← (hcon g T hT).goes]
        simp [execOp, hop, resolve, hcal, hfv', Deferred.ofValue, invoke]
      rw [this, Oper.upon_enter]
      refine (ncall_sound hcon hw hG hall hnm h).mono ?_
      rintro e w' ⟨x, v, hR, rfl, hE⟩
      exact hK x v w' hR hE
    · rename_i hcal
      split at h
      case h_2 => exact h.elim
      rename_i x y t u hca hct
      split at h
      case isFalse =>
        split at h
        case h_2 => exact h.elim
        rename_i xa xb h1 h2
        obtain ⟨ef, u', w', hR, hrun, hE⟩ := nzeros_sound (ty := o.type) hw hnm0 (nc_rel (ev_rel hfr x) h1) (nc_rel (ev_rel hfr y) h2) h
        unfold Oper.wp
        have ea : c.args = #[x, y] := Array.ext' (by simpa using hca)
        have et : c.argTypes = #[t, u] := Array.ext' (by simpa using hct)
        have : (execOp a.eval o).run X.P w = .ok (.value u') w' := by
          simp [execOp, hop, resolve, hcal, invoke, builtin, ea, et, hrun]
        rw [this, Oper.upon_value]
        exact hK ef u' w' hR hE
      rename_i htu
      subst htu
      split at h
      case h_2 => exact h.elim
      rename_i xa xb h1 h2
      obtain ⟨ef, u, w', hR, hrun, hE⟩ := nappend_sound (ty := o.type) hw hnm0 (nc_rel (ev_rel hfr x) h1) (nc_rel (ev_rel hfr y) h2) h
      unfold Oper.wp
      have ea : c.args = #[x, y] := Array.ext' (by simpa using hca)
      have et : c.argTypes = #[t, t] := Array.ext' (by simpa using hct)
      have : (execOp a.eval o).run X.P w = .ok (.value u) w' := by
        simp [execOp, hop, resolve, hcal, invoke, builtin, ea, et, hrun]
      rw [this, Oper.upon_value]
      exact hK ef u w' hR hE
    · exact hlight h
  · rename_i src dst x
    split at h
    · rename_i c z hb
      unfold bytesOf at hb
      split at hb
      case h_3 => cases hb
      case h_2 hx =>
        split at hb
        case h_2 => cases hb
        rename_i e hs hd
        split at hb
        case h_2 => cases hb
        rename_i he
        cases hb
        have h2 := (chkT_run _ _ _).1 h
        have r0 := ev_rel hfr x
        rw [hx] at r0
        have r1 : a.eval x = .slice none 0 0 := r0.1
        have hconv := run_convert_bytes_nil (P := X.P) w src e hs he 0 0 dst hd
        have this : (execOp a.eval o).run X.P w = .ok (.value (.string ByteArray.empty)) w := by
          simp only [execOp, hop, r1, Sem.run_bind, hconv, Result.andThen_ok, Sem.run_pure]
        unfold Oper.wp
        rw [this, Oper.upon_value]
        exact hK _ _ w h2.2 (EffOk.plain hw ⟨rfl, rfl⟩)
      rename_i r off len hx
      split at hb
      case h_2 => cases hb
      rename_i e hs hd
      split at hb
      case h_2 => cases hb
      rename_i c' xs he hels
      cases hb
      have h2 := (chkT_run _ _ _).1 h
      have r0 := ev_rel hfr x
      rw [hx] at r0
      have r1 : CR Γ (.h r off len) (a.eval x) := r0
      obtain ⟨a1, cap1, hv1, hlc, hcells⟩ := els_sound hw r1 hels h2.1
      obtain ⟨⟨B, o', cap', hB, hv2, -⟩, -⟩ := r1
      have heq := hv2.symm.trans hv1
      simp only [Value.slice.injEq] at heq
      obtain ⟨ha1, hlen, hcap⟩ := heq
      have hl : xs.length = len := hlen.symm
      have hcell : ∀ i, i < len → w.cell? ⟨B.blk, o' + i, none⟩ = some (.int .u8 (xs.getD i 0)) := by
        intro i hi
        have hix : i < xs.length := by omega
        rcases hcells with h0 | ⟨blk, off', hae, hc⟩
        · have : xs.length = 0 := h0
          omega
        · rw [hae] at ha1
          simp only [Option.some.injEq, Addr.mk.injEq] at ha1
          obtain ⟨rfl, rfl, -⟩ := ha1
          refine hc i _ ?_
          show (xs.map (Value.int .u8))[i]? = _
          rw [List.getElem?_map, List.getElem?_eq_getElem hix, List.getD_eq_getElem?_getD, List.getElem?_eq_getElem hix]
          rfl
      have hconv := run_convert_bytes_arg (P := X.P) (w := w) src e hs he B.blk o' len cap' xs hl hcell dst hd
      have this : (execOp a.eval o).run X.P w = .ok (.value (.string (strOfNums xs))) w := by
        simp only [execOp, hop, hv2, Sem.run_bind, hconv, Result.andThen_ok, Sem.run_pure]
      unfold Oper.wp
      rw [this, Oper.upon_value]
      exact hK _ _ w h2.2 (EffOk.plain hw ⟨rfl, rfl⟩)
    · exact hlight h
  · rename_i t x
    split at h
    · rename_i r k xs hb
      unfold sliceArr at hb
      split at hb
      case h_2 => cases hb
      rename_i r' n e hx hu
      split at hb
      case h_2 => cases hb
      rename_i g hg
      split at hb
      case h_2 => cases hb
      rename_i k' xs' hbody
      split at hb
      case isFalse => cases hb
      rename_i hcond
      cases hb
      have r0 := ev_rel hfr x
      rw [hx] at r0
      obtain ⟨⟨B, hB, hv⟩, -⟩ := r0
      have hv : a.eval x = .pointer (some ⟨B.blk, 0, none⟩) := by rw [hv, Nat.zero_mul]
      obtain ⟨B', hB', cs, hcs, hst, hszB, hbd⟩ := hw.live r g ((reg_eq s r g).1 hg)
      rw [hB] at hB'; cases hB'
      rw [hbody] at hbd
      obtain ⟨hst1, l2, hl⟩ := hbd
      obtain ⟨ei, hei, -⟩ := info_of_size (P := X.P) (t := e) hcond.2.2
      have hrun : (Instr.sliceAt t (a.eval x) none none none).run X.P w = .ok (.slice (some ⟨B.blk, 0, none⟩) xs.length xs.length) w := by
        rw [hv, ← hcond.1]
        simp [Instr.sliceAt, run_underlying hu, Instr.sureAddr, Instr.sliceBounds, run_sizeOf hei, Addr.add_lit]
      have this : (execOp a.eval o).run X.P w = .ok (.value (.slice (some ⟨B.blk, 0, none⟩) xs.length xs.length)) w := by
        simp only [execOp, hop, Option.map_none, Sem.run_bind, hrun, Result.andThen_ok, Sem.run_pure]
      unfold Oper.wp
      rw [this, Oper.upon_value]
      refine hK _ _ w h (EffOk.freeze hw ((reg_eq s r g).1 hg) hB hcs fun j u hj => ?_)
      rw [← Array.getElem?_toList, hl]
      exact prefix_get hj
    · exact hlight h
  · exact hlight h

/-- The state behind an operation. -/
theorem Inv.app {gl : List Nat} {N : Nat} {Γ : Env} {s : St} {a : Act} {w w' : World} {x : Eff} {u : Value} {dst : Option Tmp} (h : Inv gl N Γ s a w) (hE : EffOk Γ s w s.rg.length x u w') : ∃ Γ', Ext Γ w Γ' ∧ Wd w w' ∧ Inv gl N Γ' (s.app x dst) (a.put dst u) w' := by
  obtain ⟨Γ', h1, h2, h3, h4, h5⟩ := hE
  refine ⟨Γ', h1, h4, by rw [St.app, put_rg]; exact h3, ?_, h.gl.mono h1.le, fun n hn => ?_, by rw [put_defers]; exact h.df.mono h1.le⟩
  · refine FrRel.put ?_ dst h2
    rw [ups_fr]; exact h.fr.mono h1.le
  · rw [St.app, put_rg] at hn
    exact h5 n (h.nw n (Nat.le_trans (ups_le s x.up) hn)) (by omega)
theorem Inv.put {gl : List Nat} {N : Nat} {Γ : Env} {s : St} {a : Act} {w : World} {x : NS} {u : Value} {dst : Option Tmp} (h : Inv gl N Γ s a w) (r : SRel Γ x u) : Inv gl N Γ (s.put dst x) (a.put dst u) w :=
  ⟨by rw [put_rg]; exact h.wr, h.fr.put dst r, h.gl, by rw [put_rg]; exact h.nw, by rw [put_defers]; exact h.df⟩

/-- A slot holds what is said of it already. -/
theorem Inv.lit {gl : List Nat} {N : Nat} {Γ : Env} {s : St} {a : Act} {w : World} {d : Tmp} {x : Bool} (h : Inv gl N Γ s a w) (hd : s.fr[d]? = some (.v (.c (.b x)))) : Inv gl N Γ (s.put (some d) (lit x)) a w := by
  have : s.put (some d) (Nx.lit x) = s := by
    show St.mk (s.fr.set d _) s.rg = s
    have : s.fr.set d (Nx.lit x) = s.fr := List.ext_getElem? fun j => by
      rw [List.getElem?_set]
      split
      · rename_i e; subst e
        split
        · rw [hd]; rfl
        · rename_i hl; rw [List.getElem?_eq_none (by omega)] at hd; cases hd
      · rfl
    rw [this]
  rw [this]; exact h

/-- The same, of a call that is handed all that its arguments name. -/
theorem deffW_sound {X : Cx} (hcon : ∀ f T, X.con f = some T → Known X.P X.glob f T) {o : Oper} {nm : Nat} {s : St} {Γ : Env} {w : World} {a : Act} {R : Eff → Prop}
    (hw : WRel Γ s.rg w) (hG : GlobOk X.glob Γ) (hfr : FrRel Γ s.fr a.tmps) (hnm : ∀ k, nm ≤ k → k < nm + 8 → Γ.μ k = none) (h : (deffW X o.op nm s).run R) {K : Act → World → Prop} {Q : Exit → Act → World → Prop}
    (hK : ∀ x u w', R x → EffOk Γ s w nm x u w' → K (a.put o.dst u) w') : o.wp X.P a w K Q := by
  unfold deffW at h
  split at h
  case h_2 => exact deff_sound hcon hw hG hfr hnm h hK
  generalize hop : o.op = op at h
  unfold wideCall at h
  split at h
  case h_2 => exact h.elim
  rename_i c
  split at h
  case h_2 => exact h.elim
  rename_i f hcal
  split at h
  case h_2 => exact h.elim
  rename_i g cap l hg hl
  have hargs : ∀ (l : List Operand), R2 (SRel Γ) (l.map s.ev) (l.map a.eval) := fun l => R2.self_map _ _ l fun x => ev_rel hfr x
  have hf := ev_rel hfr f
  rw [hg] at hf
  obtain ⟨⟨caps, hfv, hcap⟩, -⟩ := hf
  have hfv' : a.eval f = .func (.func g) #[] caps.toArray := hfv
  have hall : R2 (VRel Γ) (l ++ cap.map fun x => NV.c (.p x.1 x.2.1 x.2.2)) (c.args.toList.map a.eval ++ caps) := by
    refine (allNV_rel hl (hargs _)).append (R2.map_left hcap ?_)
    rintro x u ⟨B, h1, h2⟩
    exact ⟨⟨B, h1, h2⟩, by rw [h2]; rfl⟩
  have hT : ∃ T, X.con g = some T := by
    unfold ncallP at h
    split at h
    · exact ⟨_, by assumption⟩
    · exact h.elim
  obtain ⟨T, hT⟩ := hT
  unfold Oper.wp
  have : (execOp a.eval o).run X.P w = .ok (.enter g (c.args.toList.map a.eval ++ caps).toArray) w := by
    have e : (c.args.toList.map a.eval ++ caps).toArray = c.args.map a.eval ++ caps.toArray := by
      apply Array.ext'
      simp
    rw [e, ← (hcon g T hT).goes]
    simp [execOp, hop, resolve, hcal, hfv', Deferred.ofValue, invoke]
  rw [this, Oper.upon_enter]
  refine (ncallP_sound hcon (reach_nodup s _ _ _ (by simp)) hw hG hall hnm h).mono ?_
  rintro e w' ⟨x, v, hR, rfl, hE⟩
  exact hK x v w' hR hE

theorem nstep_sound {β : Type} {N : Nat} {X : Cx} (hcon : ∀ f T, X.con f = some T → Known X.P X.glob f T) {ops : Array Oper} {o : Oper} {s : St} {Γ : Env} {w : World} {a : Act} {K : St → Tr β} {R : β → Prop} {K' : Act → World → Prop} {Q : Exit → Act → World → Prop} (hI : Inv X.glob N Γ s a w)
    (h : (nstep ops o (deffW X o.op s.rg.length) s K).run R)
    (hK : ∀ s' a' w' Γ', (K s').run R → Ext Γ w Γ' → Wd w w' → Inv X.glob N Γ' s' a' w' → K' a' w') :
    if Region.wanted o (yielded ops a.tmps) then o.wp X.P a w K' Q ∨ (o.asks X.P a w ∧ LetsOut Q) else K' (a.put o.dst undef) w := by
  have run : ∀ (s1 : St), s1.rg.length = s.rg.length → Inv X.glob N Γ s1 a w → ((deffW X o.op s.rg.length s1).bind fun x => K (s1.app x o.dst)).run R → o.wp X.P a w K' Q := by
    intro s1 hl h1 h2
    rw [← hl, Tr.run_bind] at h2
    refine deffW_sound hcon h1.wr h1.gl h1.fr (fun k hk _ => h1.nw k hk) h2 fun x u w' hR hE => ?_
    obtain ⟨Γ', h3, h4, h5⟩ := h1.app hE
    exact hK _ _ _ Γ' hR h3 h4 h5
  unfold nstep at h
  split at h
  · rename_i hg
    have : Region.wanted o (yielded ops a.tmps) = true := by simp [Region.wanted, hg]
    rw [if_pos this]
    exact .inl (run s rfl hI h)
  · rename_i j want hg
    split at h
    case h_2 => exact h.elim
    rename_i d hd
    split at h
    case h_3 => exact h.elim
    case h_2 hx =>
      have hy : yielded ops a.tmps j = Option.none := by
        obtain ⟨v, h1, h2⟩ := R2.get hI.fr hx
        obtain ⟨vs, rfl, h2⟩ := h2
        cases h2
        have h3 : a.tmps[d]? = some (.tuple #[]) := by simpa using h1
        have h4 : (ops[j]?).bind (·.dst) = some d := hd
        unfold yielded
        rw [h4, Option.bind_some, h3]
      have hwant : Region.wanted o (yielded ops a.tmps) = false := by simp [Region.wanted, hg, hy]
      rw [hwant, if_neg (by decide)]
      exact hK _ _ _ Γ h (Ext.refl Γ w) (Wd.refl w) (hI.put ⟨[], rfl, .nil⟩)
    rename_i x hx
    have hy : yielded ops a.tmps j = some x := by
      obtain ⟨v, h1, h2⟩ := R2.get hI.fr hx
      obtain ⟨h2, -⟩ := h2
      have h2' : v = .bool x := h2
      subst h2'
      have h3 : a.tmps[d]? = some (.bool x) := by simpa using h1
      have h4 : (ops[j]?).bind (·.dst) = some d := hd
      unfold yielded
      rw [h4, Option.bind_some, h3]
    have hwant : Region.wanted o (yielded ops a.tmps) = (x == want) := by simp [Region.wanted, hg, hy]
    rw [hwant]
    have skip : ∀ (s1 : St), Inv X.glob N Γ s1 a w → (K (s1.put o.dst (.tu []))).run R → K' (a.put o.dst undef) w := fun s1 h1 h2 => hK _ _ _ Γ h2 (Ext.refl Γ w) (Wd.refl w) (h1.put ⟨[], rfl, .nil⟩)
    rcases sel_iff.1 h with ⟨rfl, h⟩ | ⟨rfl, h⟩
    · cases want with
      | true => exact .inl (run _ (by rw [put_rg]) (hI.lit hx) h)
      | false => exact skip _ (hI.lit hx) h
    · cases want with
      | false => exact .inl (run _ (by rw [put_rg]) (hI.lit hx) h)
      | true => exact skip _ (hI.lit hx) h

theorem nops_sound {β : Type} {N : Nat} {X : Cx} (hcon : ∀ f T, X.con f = some T → Known X.P X.glob f T) {ops : Array Oper} {Q : Exit → Act → World → Prop} : ∀ (l : List Oper) {s : St} {Γ : Env} {w : World} {a : Act} {K : St → Tr β} {R : β → Prop}, Inv X.glob N Γ s a w → (nops X ops l s K).run R →
    (∀ s' a' w' Γ', (K s').run R → Ext Γ w Γ' → Wd w w' → Inv X.glob N Γ' s' a' w' → Q .normal a' w') → wpList X.P ops Q l a w
  | [], s, Γ, w, a, K, R, hI, h, hK => hK s a w Γ h (Ext.refl Γ w) (Wd.refl w) hI
  | o :: rest, s, Γ, w, a, K, R, hI, h, hK => by
    unfold wpList
    exact nstep_sound hcon hI h fun s' a' w' Γ' h1 h2 h3 h4 => nops_sound hcon rest h4 h1 fun s2 a2 w2 Γ2 k1 k2 k3 k4 => hK s2 a2 w2 Γ2 k1 (h2.trans h3 k2) (h3.trans k3) k4

end Go.Nx
