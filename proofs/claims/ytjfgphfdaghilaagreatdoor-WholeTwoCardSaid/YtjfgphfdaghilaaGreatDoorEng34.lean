/-
  The engine, part 34: canonical shapes: slices in given cells and slots are rows that may be nil, of their own, at the end; what a call comes to and where a loop starts are brought to such a shape by a function.
-/
import Derived.Test.YtjfgphfdaghilaaGreatDoorEng33
set_option linter.unusedVariables false
namespace Go.Nx
open Go

/-- More is named, nothing else is reached. -/
structure More (Γ Γ' : Env) : Prop where
  le : Γ.le Γ'
  ro : Γ'.ro = Γ.ro
  pt : ∀ n B, Γ'.pt n = some B → ∃ n', Γ.pt n' = some B
theorem More.refl (Γ : Env) : More Γ Γ := ⟨Env.le.refl Γ, rfl, fun n B h => ⟨n, h⟩⟩
theorem More.trans {a b c : Env} (h : More a b) (k : More b c) : More a c := ⟨h.le.trans k.le, k.ro.trans h.ro, fun n B hB => by
  obtain ⟨n', h1⟩ := k.pt n B hB
  exact h.pt n' B h1⟩
theorem More.ext {Γ0 Γ Γ' : Env} {w0 : World} (hE : Ext Γ0 w0 Γ) (h : More Γ Γ') : Ext Γ0 w0 Γ' := ⟨hE.le.trans h.le, fun b hb => hE.ro b (by rw [← h.ro]; exact hb), fun n B hB => by
  obtain ⟨n', h1⟩ := h.pt n B hB
  exact hE.nw n' B h1⟩
theorem More.ghost {Γ : Env} (w : World) {nm : Nat} (h0 : Γ.μ nm = none) : More Γ (Γ.add nm (Blk.none w)) := by
  refine ⟨Γ.le_add nm _ h0, rfl, fun n B hB => ?_⟩
  by_cases e : n = nm
  · obtain ⟨h1, h2⟩ := Env.pt_iff.1 hB
    rw [e, Env.add_self] at h1
    cases h1
    cases h2
  · rw [Env.add_other e] at hB
    exact ⟨n, hB⟩
theorem More.move {Γ : Env} {nm k : Nat} {B : Blk} (h0 : Γ.μ nm = none) (hB : Γ.μ k = some B) : More Γ (Γ.add nm B) := by
  refine ⟨Γ.le_add nm _ h0, rfl, fun n B' hB' => ?_⟩
  by_cases e : n = nm
  · obtain ⟨h1, h2⟩ := Env.pt_iff.1 hB'
    rw [e, Env.add_self] at h1
    cases h1
    exact ⟨k, Env.pt_iff.2 ⟨hB, h2⟩⟩
  · rw [Env.add_other e] at hB'
    exact ⟨n, hB'⟩
theorem add_μ {Γ : Env} {nm n : Nat} {B : Blk} (h : n ≠ nm) : (Γ.add nm B).μ n = Γ.μ n := by simp [Env.add, h]

/-- What a slice of a row from its start is in the row's new place. -/
def rowOf : NC → Option (Nat × Nat)
  | .h k o n => (match o with
    | 0 => some (k, n)
    | _ => none)
  | .hz k n => some (k, n)
  | _ => none
theorem rowOf_hz {Γ : Env} {x : NC} {k n nm : Nat} {B : Blk} {v : Value} (h : rowOf x = some (k, n)) (h0 : Γ.μ nm = none) (hB : Γ.μ k = some B) (hv : CR Γ x v) : CR (Γ.add nm B) (.hz nm n) v := by
  have hle := Γ.le_add nm B h0
  have row : ∀ B', Γ.wh k = some B' → (Γ.add nm B).wh nm = some B' := fun B' h1 => by
    obtain ⟨k1, k2⟩ := Env.wh_iff.1 h1
    rw [hB] at k1
    cases k1
    exact Env.wh_iff.2 ⟨Env.add_self _ _ _, k2⟩
  have hg : (Γ.add nm B).μ nm = some B := Env.add_self _ _ _
  cases x <;> simp only [rowOf] at h
  case h r o len =>
    split at h
    · cases h
      obtain ⟨⟨B', o, cap, h1, h2⟩, h3⟩ := hv
      exact ⟨.inr ⟨B', o, cap, row B' h1, h2⟩, h3⟩
    · cases h
  case hz r len =>
    cases h
    obtain ⟨h1 | ⟨B', o, cap, h1, h2⟩, h3⟩ := hv
    · exact ⟨.inl ⟨h1.1, h1.2.1, B, hg⟩, h3⟩
    · exact ⟨.inr ⟨B', o, cap, row B' h1, h2⟩, h3⟩
  all_goals cases h

def isGh (g : Reg) : Bool := match g.body with
  | .ints _ xs => xs.isEmpty
  | .recs _ xs => xs.isEmpty
  | _ => false
theorem isGh_ok {g : Reg} (h : isGh g = true) : Ghost g := by
  unfold isGh at h
  split at h
  · rename_i k xs e
    have : xs = [] := by simpa using h
    subst this
    exact .inl ⟨k, e⟩
  · rename_i ks xs e
    have : xs = [] := by simpa using h
    subst this
    exact .inr (.inl ⟨ks, e⟩)
  · cases h
/-- The slice moved to the end of the regions: what it is then, the regions. -/
def toEnd (g : Reg) (x : NC) (rg : List (Option Reg)) : Option (NC × List (Option Reg)) :=
  match x with
  | .sn => (match isGh g with
    | true => some (.hz rg.length 0, putAt rg rg.length (some g))
    | false => none)
  | x => (match rowOf x with
    | some (k, n) => (match rg[k]? with
      | some (some gk) => some (.hz rg.length n, putAt (putAt rg k none) rg.length (some gk))
      | _ => none)
    | none => none)
/-- What holds behind such a step. -/
structure Stp (Γ : Env) (rg : List (Option Reg)) (w : World) (Γ' : Env) (rg' : List (Option Reg)) : Prop where
  ren : More Γ Γ'
  wr : WRel Γ' rg' w
  nw : ∀ n, rg'.length ≤ n → Γ'.μ n = none
theorem toEnd_ok {Γ : Env} {g : Reg} {x y : NC} {rg rg' : List (Option Reg)} {w : World} (hW : WRel Γ rg w) (hF : ∀ n, rg.length ≤ n → Γ.μ n = none) (h : toEnd g x rg = some (y, rg')) :
    ∃ Γ', Stp Γ rg w Γ' rg' ∧ (∀ v, CR Γ x v → CR Γ' y v) ∧ rg.length < rg'.length := by
  have h0 := hF rg.length (Nat.le_refl _)
  have main : ∀ k n, rowOf x = some (k, n) → (match rg[k]? with
      | some (some gk) => some ((.hz rg.length n : NC), putAt (putAt rg k none) rg.length (some gk))
      | _ => none) = some (y, rg') → ∃ Γ', Stp Γ rg w Γ' rg' ∧ (∀ v, CR Γ x v → CR Γ' y v) ∧ rg.length < rg'.length := fun k n hx h => by
    split at h
    case h_2 => cases h
    rename_i gk hk
    cases h
    obtain ⟨B, hB, -⟩ := hW.live k gk hk
    have hkl : k < rg.length := (List.getElem?_eq_some_iff.1 hk).1
    have l1 := putAt_length rg k none
    have l2 := putAt_length (putAt rg k none) rg.length (some gk)
    refine ⟨Γ.add rg.length B, ⟨More.move h0 hB, hW.move hk hB h0, fun m hm => ?_⟩, fun v hv => rowOf_hz hx h0 hB hv, by omega⟩
    rw [add_μ (by omega)]
    exact hF m (by omega)
  unfold toEnd at h
  split at h
  · split at h
    · rename_i hg
      cases h
      have l1 := putAt_length rg rg.length (some g)
      refine ⟨Γ.add rg.length (Blk.none w), ⟨More.ghost w h0, hW.ghost h0 (isGh_ok hg), fun n hn => ?_⟩, fun v hv => ⟨.inl ⟨rfl, hv.1, _, Env.add_self _ _ _⟩, hv.2⟩, by omega⟩
      rw [add_μ (by omega)]
      exact hF n (by omega)
    · cases h
  · split at h
    · rename_i k n hx
      exact main k n hx h
    · cases h

/-- The slice in a record's cell moved to the end. -/
def cellEnd (c : Nat × Nat × Reg) (rg : List (Option Reg)) : Option (List (Option Reg)) :=
  match rg[c.1]? with
  | some (some ⟨st, e, .cells xs⟩) => (match xs[c.2.1]? with
    | some x => (match toEnd c.2.2 x rg with
      | some (y, rg1) => (match rg1[c.1]? with
        | some (some ⟨st', e', .cells xs'⟩) => (match decide (rg.length = c.1) with
          | false => some (putAt rg1 c.1 (some ⟨st', e', .cells (xs'.set c.2.1 y)⟩))
          | true => none)
        | _ => none)
      | none => none)
    | none => none)
  | _ => none
theorem toEnd_get {g : Reg} {x y : NC} {rg rg1 : List (Option Reg)} {r : Nat} {z : Reg} (h : toEnd g x rg = some (y, rg1)) (hr : rg1[r]? = some (some z)) (hl : rg.length ≠ r) : rg[r]? = some (some z) := by
  have main : ∀ k n, (match rg[k]? with
      | some (some gk) => some ((.hz rg.length n : NC), putAt (putAt rg k none) rg.length (some gk))
      | _ => none) = some (y, rg1) → rg[r]? = some (some z) := fun k n h => by
    split at h
    case h_2 => cases h
    rename_i gk hk
    cases h
    rcases (putAt_get _ _ _ _ _).1 hr with ⟨e, -⟩ | ⟨-, h2⟩
    · exact (hl e.symm).elim
    rcases (putAt_get _ _ _ _ _).1 h2 with ⟨-, h3⟩ | ⟨-, h3⟩
    · cases h3
    · exact h3
  unfold toEnd at h
  split at h
  · split at h
    · cases h
      rcases (putAt_get _ _ _ _ _).1 hr with ⟨e, -⟩ | ⟨-, h2⟩
      · exact (hl e.symm).elim
      · exact h2
    · cases h
  · split at h
    · rename_i k n hx
      exact main k n h
    · cases h
theorem cellEnd_ok {Γ : Env} {c : Nat × Nat × Reg} {rg rg' : List (Option Reg)} {w : World} (hW : WRel Γ rg w) (hF : ∀ n, rg.length ≤ n → Γ.μ n = none) (h : cellEnd c rg = some rg') : ∃ Γ', Stp Γ rg w Γ' rg' := by
  obtain ⟨r, j, g⟩ := c
  unfold cellEnd at h
  split at h
  case h_2 => cases h
  rename_i st e xs hr
  simp only at hr
  split at h
  case h_2 => cases h
  rename_i x hj
  simp only at hj
  split at h
  case h_2 => cases h
  rename_i y rg1 ht
  split at h
  case h_2 => cases h
  rename_i st' e' xs' hr'
  simp only at hr'
  split at h
  case h_2 => cases h
  rename_i hd
  cases h
  have hne : rg.length ≠ r := of_decide_eq_false hd
  have hz := toEnd_get ht hr' hne
  rw [hr] at hz
  cases hz
  obtain ⟨Γ', hs, hc, hl⟩ := toEnd_ok hW hF ht
  refine ⟨Γ', hs.ren, hs.wr.recell hr' (List.length_set ..) fun B cc l l2 hB hcc hdr hl1 => ?_, fun n hn => hs.nw n (Nat.le_trans (putAt_length _ r _).1 hn)⟩
  -- the cell's value was one of x in the environment ahead
  have hrl : r < rg.length := (List.getElem?_eq_some_iff.1 hr).1
  obtain ⟨B0, hB0, hrr⟩ := hW.live r _ hr
  have hBB : B = B0 := by
    have := hs.ren.le.μ _ _ hB0
    rw [hB] at this
    cases this
    rfl
  subst hBB
  rcases hrr with ⟨-, ⟨k', hk⟩ | ⟨ks, hk⟩ | ⟨sch, hk, -⟩⟩ | ⟨h0, c1, h1, h2, h3, ⟨l1, l2', h4, h5⟩, h6⟩ | ⟨-, hM⟩
  · cases hk
  · cases hk
  · cases hk
  rotate_left
  · obtain ⟨_, _, _, _, _, hk, -⟩ := hM.mp; cases hk
  rw [hcc] at h1
  cases h1
  have e1 : l = l1 := by
    have a1 := hl1.length
    have a2 := h5.length
    rw [h4] at hdr
    exact ((List.append_inj hdr (by omega)).1).symm
  subst e1
  obtain ⟨u, hu, hcu⟩ := h5.get hj
  have := hl1.set j (hc u hcu)
  have e2 : l.set j u = l := by
    apply List.ext_getElem?
    intro q
    rw [List.getElem?_set]
    split
    · rename_i e; subst e
      split
      · exact hu.symm
      · rename_i hq; rw [List.getElem?_eq_none (by omega)] at hu; cases hu
    · rfl
  rw [e2] at this
  exact this
def cellsEnd : List (Nat × Nat × Reg) → List (Option Reg) → Option (List (Option Reg))
  | [], rg => some rg
  | c :: cs, rg => match cellEnd c rg with
    | some rg1 => cellsEnd cs rg1
    | none => none
theorem Stp.refl {Γ : Env} {rg : List (Option Reg)} {w : World} (hW : WRel Γ rg w) (hF : ∀ n, rg.length ≤ n → Γ.μ n = none) : Stp Γ rg w Γ rg := ⟨More.refl Γ, hW, hF⟩
theorem Stp.trans {Γ Γ1 Γ2 : Env} {rg rg1 rg2 : List (Option Reg)} {w : World} (h : Stp Γ rg w Γ1 rg1) (k : Stp Γ1 rg1 w Γ2 rg2) : Stp Γ rg w Γ2 rg2 := ⟨h.ren.trans k.ren, k.wr, k.nw⟩
theorem cellsEnd_ok {w : World} : ∀ (cs : List (Nat × Nat × Reg)) {Γ : Env} {rg rg' : List (Option Reg)}, WRel Γ rg w → (∀ n, rg.length ≤ n → Γ.μ n = none) → cellsEnd cs rg = some rg' → ∃ Γ', Stp Γ rg w Γ' rg'
  | [], Γ, rg, rg', hW, hF, h => by cases h; exact ⟨Γ, Stp.refl hW hF⟩
  | c :: cs, Γ, rg, rg', hW, hF, h => by
    simp only [cellsEnd] at h
    split at h
    case h_2 => cases h
    rename_i rg1 h1
    obtain ⟨Γ1, s1⟩ := cellEnd_ok hW hF h1
    obtain ⟨Γ2, s2⟩ := cellsEnd_ok cs s1.wr s1.nw h
    exact ⟨Γ2, s1.trans s2⟩

/-! ### slots -/
def slotEnd (t : Nat) (g : Reg) (s : St) : Option St :=
  match s.fr[t]? with
  | some (.v (.c x)) => (match toEnd g x s.rg with
    | some (y, rg1) => some { fr := s.fr.set t (.v (.c y)), rg := rg1 }
    | none => none)
  | _ => none
def slotsEnd : List (Nat × Reg) → St → Option St
  | [], s => some s
  | (t, g) :: l, s => match slotEnd t g s with
    | some s1 => slotsEnd l s1
    | none => none
theorem set_same {l : List Value} {j : Nat} {u : Value} (hu : l[j]? = some u) : l.set j u = l := by
  apply List.ext_getElem?
  intro q
  rw [List.getElem?_set]
  split
  · rename_i e; subst e
    split
    · exact hu.symm
    · rename_i hq; rw [List.getElem?_eq_none (by omega)] at hu; cases hu
  · rfl
theorem slotEnd_ok {gl : List Nat} {N : Nat} {Γ : Env} {s s' : St} {t : Nat} {g : Reg} {a : Act} {w : World} (hI : Inv gl N Γ s a w) (h : slotEnd t g s = some s') : ∃ Γ', More Γ Γ' ∧ Inv gl N Γ' s' a w := by
  unfold slotEnd at h
  split at h
  case h_2 => cases h
  rename_i x hx
  split at h
  case h_2 => cases h
  rename_i y rg1 ht
  cases h
  obtain ⟨Γ', hs, hc, -⟩ := toEnd_ok hI.wr hI.nw ht
  refine ⟨Γ', hs.ren, hs.wr, ?_, hI.gl.mono hs.ren.le, hs.nw, hI.df.mono hs.ren.le⟩
  obtain ⟨u, hu, hcu⟩ := R2.get hI.fr hx
  have := R2.set (hI.fr.mono hs.ren.le) t (show SRel Γ' (.v (.c y)) u from hc u hcu)
  rw [set_same hu] at this
  exact this
theorem slotsEnd_ok {gl : List Nat} {N : Nat} {a : Act} {w : World} : ∀ (l : List (Nat × Reg)) {Γ : Env} {s s' : St}, Inv gl N Γ s a w → slotsEnd l s = some s' → ∃ Γ', More Γ Γ' ∧ Inv gl N Γ' s' a w
  | [], Γ, s, s', hI, h => by cases h; exact ⟨Γ, More.refl Γ, hI⟩
  | (t, g) :: l, Γ, s, s', hI, h => by
    simp only [slotsEnd] at h
    split at h
    case h_2 => cases h
    rename_i s1 h1
    obtain ⟨Γ1, r1, i1⟩ := slotEnd_ok hI h1
    obtain ⟨Γ2, r2, i2⟩ := slotsEnd_ok l i1 h
    exact ⟨Γ2, r1.trans r2, i2⟩
/-- A state in its canonical shape: slices in these slots and cells at the end. -/
def canonS (ts : List (Nat × Reg)) (cs : List (Nat × Nat × Reg)) (s : St) : Option St :=
  match slotsEnd ts s with
  | some s1 => (match cellsEnd cs s1.rg with
    | some rg => some { fr := s1.fr, rg := rg }
    | none => none)
  | none => none
theorem canonS_ok {gl : List Nat} {N : Nat} {Γ : Env} {s s' : St} {a : Act} {w : World} {ts : List (Nat × Reg)} {cs : List (Nat × Nat × Reg)} (hI : Inv gl N Γ s a w) (h : canonS ts cs s = some s') : ∃ Γ', More Γ Γ' ∧ Inv gl N Γ' s' a w := by
  unfold canonS at h
  split at h
  case h_2 => cases h
  rename_i s1 h1
  split at h
  case h_2 => cases h
  rename_i rg h2
  cases h
  obtain ⟨Γ1, r1, i1⟩ := slotsEnd_ok ts hI h1
  obtain ⟨Γ2, s2⟩ := cellsEnd_ok cs i1.wr i1.nw h2
  exact ⟨Γ2, r1.trans s2.ren, s2.wr, i1.fr.mono s2.ren.le, i1.gl.mono s2.ren.le, s2.nw, i1.df.mono s2.ren.le⟩

/-! ### loops -/
/-- The summary for the canonical start. -/
def canonL {β : Type} (ts : List (Nat × Reg)) (cs : List (Nat × Nat × Reg)) (m : Nat) (live : List Nat) (L : St → Tr β) (s : St) : Tr β :=
  match canonS ts cs s with
  | some s1 => (match norm m live s1 with
    | some s2 => L s2
    | none => .fail)
  | none => .fail
theorem LOk.canon {P : Program} {gl : List Nat} {m id : Nat} {body : Code} {L : St → Tr (NExit × St)} (h : LOk P gl m id body L) (ts : List (Nat × Reg)) (cs : List (Nat × Nat × Reg)) (live : List Nat) : LOk P gl m id body (canonL ts cs m live L) := by
  intro Γ0 w0 h0 s Γ a w R Q hI hE hW hrun hK
  unfold canonL at hrun
  split at hrun
  case h_2 => exact hrun.elim
  rename_i s1 h1
  split at hrun
  case h_2 => exact hrun.elim
  rename_i s2 h2
  obtain ⟨Γ1, r1, i1⟩ := canonS_ok hI h1
  obtain ⟨Γ2, hE2, i2⟩ := norm_sound i1 (r1.ext hE) h0 h2
  exact h Γ0 w0 h0 s2 Γ2 a w R Q i2 hE2 hW hrun hK
theorem LOkI.canon {P : Program} {gl : List Nat} {m K : Nat} {Y : Yh} {id : Nat} {body : Code} {L : St × Option NExit → Tr (NExit × St × Option NExit)} (h : LOkI P gl m K Y id body L) (ts : List (Nat × Reg)) (cs : List (Nat × Nat × Reg)) (live : List Nat) :
    LOkI P gl m K Y id body (fun s => canonL ts cs m live (fun t => L (t, s.2)) s.1) := by
  intro l rc N Γ0 w0 h0 hN h0k h0r hY s p Γ a w R Q hI hE hW hL hK
  unfold canonL at hL
  simp only at hL
  split at hL
  case h_2 => exact hL.elim
  rename_i s1 h1
  split at hL
  case h_2 => exact hL.elim
  rename_i s2 h2
  obtain ⟨Γ1, r1, i1⟩ := canonS_ok hI.inv h1
  have hI1 : InvI gl K l rc N Γ1 s1 a w p := hI.step (r1.ext (Ext.refl Γ w)) i1
  obtain ⟨Γ2, hE2, hI2⟩ := norm_soundI hI1 (r1.ext hE) h0 h2
  exact h l rc N Γ0 w0 h0 hN h0k h0r hY s2 p Γ2 a w R Q hI2 hE2 hW hL hK

/-! ### calls -/
/-- What a call comes to, in its canonical shape: so many regions, behind them the rows of these cells, and of the result. -/
def canonO (F : Nat) (cs : List (Nat × Nat × Reg)) (res : Option Reg) (o : Out) : Tr Out :=
  match decide (o.rg.length ≤ F), cellsEnd cs (o.rg ++ List.replicate (F - o.rg.length) none) with
  | true, some rg => (match res with
    | none => .ret ⟨o.res, rg⟩
    | some g => (match o.res with
      | .v (.c x) => (match toEnd g x rg with
        | some (y, rg1) => .ret ⟨.v (.c y), rg1⟩
        | none => .fail)
      | _ => .fail))
  | _, _ => .fail
theorem canonO_ok {F : Nat} {cs : List (Nat × Nat × Reg)} {res : Option Reg} {o : Out} {R : Out → Prop} (h : (canonO F cs res o).run R) : ∃ o', WeakF o o' ∧ R o' := by
  unfold canonO at h
  split at h
  case h_2 => exact h.elim
  rename_i rg hd hcs
  have hd := of_decide_eq_true hd
  have pad : ∀ {Γ : Env} {w : World}, WRel Γ o.rg w → (∀ n, o.rg.length ≤ n → Γ.μ n = none) → WRel Γ (o.rg ++ List.replicate (F - o.rg.length) none) w ∧ ∀ n, (o.rg ++ List.replicate (F - o.rg.length) none).length ≤ n → Γ.μ n = none := fun {Γ w} hW hF => by
    refine ⟨hW.fewer fun n g hn => ?_, fun n hn => hF n (by rw [List.length_append] at hn; omega)⟩
    by_cases hlt : n < o.rg.length
    · rw [List.getElem?_append_left hlt] at hn; exact hn
    · rw [List.getElem?_append_right (by omega), List.getElem?_replicate] at hn
      split at hn <;> simp at hn
  split at h
  · refine ⟨_, fun Γ0 Γ w0 w v hE hS hW hF => ?_, h⟩
    obtain ⟨p1, p2⟩ := pad hW hF
    obtain ⟨Γ1, s1⟩ := cellsEnd_ok cs p1 p2 hcs
    exact ⟨Γ1, s1.ren.ext hE, hS.mono s1.ren.le, s1.wr, s1.nw⟩
  · rename_i g
    split at h
    case h_2 => exact h.elim
    rename_i x hx
    split at h
    case h_2 => exact h.elim
    rename_i y rg1 ht
    refine ⟨_, fun Γ0 Γ w0 w v hE hS hW hF => ?_, h⟩
    obtain ⟨p1, p2⟩ := pad hW hF
    obtain ⟨Γ1, s1⟩ := cellsEnd_ok cs p1 p2 hcs
    obtain ⟨Γ2, s2, hc, -⟩ := toEnd_ok s1.wr s1.nw ht
    have hS1 : SRel Γ1 o.res v := hS.mono s1.ren.le
    rw [hx] at hS1
    exact ⟨Γ2, (s1.ren.trans s2.ren).ext hE, hc v hS1, s2.wr, s2.nw⟩
def canonT (F : Nat) (cs : List (Nat × Nat × Reg)) (res : Option Reg) (T : Con) : Con := fun args regs => (T args regs).bind (canonO F cs res)
theorem KnownF.canon {P : Program} {gl : List Nat} {f : FuncId} {T : Con} (h : KnownF P gl f T) (F : Nat) (cs : List (Nat × Nat × Reg)) (res : Option Reg) : KnownF P gl f (canonT F cs res T) := by
  refine h.weak fun args regs R hR => ?_
  unfold canonT at hR
  rw [Tr.run_bind] at hR
  exact Tr.run_mono _ (fun o ho => canonO_ok ho) hR

/-- The same, if there are no more regions than so many; else as it is. -/
def canonB (F : Nat) (cs : List (Nat × Nat × Reg)) (o : Out) : Tr Out :=
  match decide (o.rg.length ≤ F) with
  | true => canonO F cs none o
  | false => .ret o
def canonU (F : Nat) (cs : List (Nat × Nat × Reg)) (T : Con) : Con := fun args regs => (T args regs).bind (canonB F cs)
theorem KnownF.canonU {P : Program} {gl : List Nat} {f : FuncId} {T : Con} (h : KnownF P gl f T) (F : Nat) (cs : List (Nat × Nat × Reg)) : KnownF P gl f (Nx.canonU F cs T) := by
  refine h.weak fun args regs R hR => ?_
  unfold Nx.canonU at hR
  rw [Tr.run_bind] at hR
  refine Tr.run_mono _ (fun o ho => ?_) hR
  unfold canonB at ho
  split at ho
  · exact canonO_ok ho
  · exact ⟨_, WeakF.refl _, ho⟩

/-- A row of numbers that may be nil, as a list. -/
theorem WeakF.hzInts {k st : Nat} {e : TypeId} {q : IntKind} {xs : List Int} {rg : List (Option Reg)} (hk : rg[k]? = some (some ⟨st, e, .ints q xs⟩)) : WeakF ⟨.v (.c (.hz k xs.length)), rg⟩ ⟨.v (.c (.l q xs)), putAt rg k none⟩ := by
  intro Γ0 Γ w0 w v hE hS hW hF
  obtain ⟨h1 | h1, h2⟩ := hS
  · obtain ⟨hn, hv, -⟩ := h1
    have : xs = [] := List.length_eq_zero_iff.1 hn
    subst this
    have hv' : v = Value.slice none 0 0 := hv
    refine ⟨Γ, hE, ⟨⟨none, 0, hv', Nat.le_refl _, .inl rfl⟩, h2⟩, hW.fewer fun n g hn => ?_, fun n hn => hF n (Nat.le_trans (putAt_length rg k none).1 hn)⟩
    rcases (putAt_get _ _ _ _ _).1 hn with ⟨-, e⟩ | ⟨-, e⟩
    · cases e
    · exact e
  · exact WeakF.ints hk Γ0 Γ w0 w v hE ⟨h1, h2⟩ hW hF
/-! ### pairs whose second part is a list of numbers -/
theorem WeakF.ints2 {a : NV} {k st : Nat} {e : TypeId} {q : IntKind} {xs : List Int} {rg : List (Option Reg)} (hk : rg[k]? = some (some ⟨st, e, .ints q xs⟩)) : WeakF ⟨.tu [a, .c (.h k 0 xs.length)], rg⟩ ⟨.tu [a, .c (.l q xs)], putAt rg k none⟩ := by
  refine WeakF.freezeL hk (fun Γ v h => ?_) fun Γ Γ' v B cs hle hS hB hst hb hr hkp => ?_
  · obtain ⟨vs, -, h⟩ := h
    cases h with
    | cons h1 h =>
      cases h with
      | cons h2 h =>
        obtain ⟨⟨B, o, cap, hB, -⟩, -⟩ := h2
        exact ⟨B, hB⟩
  · obtain ⟨vs, hv, h⟩ := hS
    cases h with
    | cons h1 h =>
      cases h with
      | cons h2 h =>
        cases h
        refine ⟨_, hv, .cons (h1.mono hle) (.cons ?_ .nil)⟩
        obtain ⟨⟨B', o, cap, hB', rfl, hc, hcm, ho⟩, h1⟩ := h2
        rw [hB] at hB'
        cases hB'
        obtain ⟨hst1, l2, hl⟩ := hb
        refine ⟨⟨_, cap, rfl, hc, ?_⟩, h1⟩
        rcases ho with ⟨ho, _⟩ | ho
        · refine .inr ⟨B.blk, 0, by rw [ho, Nat.zero_mul], hr, cs, e, (0, 0), hkp, fun j u hj => ?_⟩
          rw [Nat.zero_add, ← Array.getElem?_toList, hl]
          exact prefix_get hj
        · exact .inl (List.eq_nil_of_length_eq_zero (by omega))
theorem WeakF.nil2 {a : NV} {q : IntKind} {rg : List (Option Reg)} : WeakF ⟨.tu [a, .c .sn], rg⟩ ⟨.tu [a, .c (.l q [])], rg⟩ :=
  WeakF.res fun Γ v h => by
    obtain ⟨vs, hv, h⟩ := h
    cases h with
    | cons h1 h =>
      cases h with
      | cons h2 h =>
        cases h
        obtain ⟨h4, h5⟩ := h2
        have h4' : _ = Value.slice none 0 0 := h4
        exact ⟨_, hv, .cons h1 (.cons ⟨⟨none, 0, h4', Nat.le_refl _, .inl rfl⟩, h5⟩ .nil)⟩
/-- The pair, its slice as a list. -/
def frzA (q : IntKind) (o : Out) : Tr Out :=
  match o.res with
  | .tu [a, .c .sn] => .ret ⟨.tu [a, .c (.l q [])], o.rg⟩
  | .tu [a, .c (.l q' xs)] => .ret ⟨.tu [a, .c (.l q' xs)], o.rg⟩
  | .tu [a, .c (.h k 0 n)] => (match o.rg[k]? with
    | some (some ⟨_, _, .ints q' xs⟩) => (match decide (q' = q) with
      | true => .must (n = xs.length) (.ret ⟨.tu [a, .c (.l q xs)], putAt o.rg k none⟩)
      | _ => .fail)
    | _ => .fail)
  | _ => .fail
theorem frzA_ok {q : IntKind} {o : Out} {R : Out → Prop} (h : (frzA q o).run R) : ∃ o', WeakF o o' ∧ R o' := by
  obtain ⟨res, rg⟩ := o
  unfold frzA at h
  split at h
  · rename_i a e
    simp only at e
    subst e
    exact ⟨_, WeakF.nil2, h⟩
  · rename_i a q' xs e
    simp only at e
    subst e
    exact ⟨_, WeakF.refl _, h⟩
  · rename_i a k n e
    simp only at e
    subst e
    split at h
    case h_2 => exact h.elim
    rename_i st e q' xs hk
    split at h
    case h_2 => exact h.elim
    rename_i h1
    have h1 := of_decide_eq_true h1
    subst h1
    obtain ⟨rfl, hR⟩ := h
    exact ⟨_, WeakF.ints2 hk, hR⟩
  · exact h.elim
theorem take_get {rg : List (Option Reg)} {m n : Nat} {g : Reg} (h : (rg.take m)[n]? = some (some g)) : rg[n]? = some (some g) := by
  rw [List.getElem?_take] at h
  split at h
  · exact h
  · cases h
/-- No regions but the first m. -/
def cutO (m : Nat) (o : Out) : Tr Out := .ret ⟨o.res, o.rg.take m⟩
def frz2 (q : IntKind) (m : Nat) (o : Out) : Tr Out := (frzA q o).bind (cutO m)
theorem KnownF.frz2 {P : Program} {gl : List Nat} {f : FuncId} {T : Con} (h : KnownF P gl f T) (q : IntKind) (m : Nat) : Known P gl f (fun args regs => (T args regs).bind (Nx.frz2 q m)) := by
  have h1 : KnownF P gl f (fun args regs => (T args regs).bind (frzA q)) := by
    refine h.weak fun args regs R hR => ?_
    rw [Tr.run_bind] at hR
    exact Tr.run_mono _ (fun o ho => frzA_ok ho) hR
  refine h1.known.weak fun args regs R hR => ?_
  rw [Tr.run_bind] at hR ⊢
  refine Tr.run_mono _ (fun o ho => ?_) hR
  unfold Nx.frz2 at ho
  rw [Tr.run_bind] at ho
  exact Tr.run_mono _ (fun o' ho' => ⟨_, Weak.drop fun n g hg => take_get hg, ho'⟩) ho
end Go.Nx
