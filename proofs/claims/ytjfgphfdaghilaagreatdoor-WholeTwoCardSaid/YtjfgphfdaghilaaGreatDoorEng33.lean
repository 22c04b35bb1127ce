/-
  The engine, part 33: a loop's start with nil where its rounds have rows that may be nil.
-/
import Derived.Test.YtjfgphfdaghilaaGreatDoorEng32
namespace Go.Nx
open Go

/-- nil in a slot, or in a record's cell, is a row that may be nil. -/
inductive GSteps : St → St → Prop where
  | refl (s : St) : GSteps s s
  | slot {s t : St} (j : Nat) (g : Reg) (hg : Ghost g) (hj : s.fr[j]? = some (.v (.c .sn))) (h : GSteps { fr := s.fr.set j (.v (.c (.hz s.rg.length 0))), rg := putAt s.rg s.rg.length (some g) } t) : GSteps s t
  | cell {s t : St} (r j st : Nat) (e : TypeId) (xs : List NC) (g : Reg) (hg : Ghost g) (hr : s.rg[r]? = some (some ⟨st, e, .cells xs⟩)) (hj : xs[j]? = some .sn)
      (h : GSteps { fr := s.fr, rg := putAt (putAt s.rg s.rg.length (some g)) r (some ⟨st, e, .cells (xs.set j (.hz s.rg.length 0))⟩) } t) : GSteps s t
theorem Inv.ghost {gl : List Nat} {N : Nat} {Γ : Env} {s : St} {a : Act} {w : World} (h : Inv gl N Γ s a w) {g : Reg} (hg : Ghost g) :
    ∃ Γ' B, Γ'.μ s.rg.length = some B ∧ Ext Γ w Γ' ∧ Inv gl N Γ' { fr := s.fr, rg := putAt s.rg s.rg.length (some g) } a w := by
  have h0 := h.nw s.rg.length (Nat.le_refl _)
  have hle := Γ.le_add s.rg.length (Blk.none w) h0
  refine ⟨Γ.add s.rg.length (Blk.none w), _, Env.add_self _ _ _, Ext.add h0 (fun h => by cases h), h.wr.ghost h0 hg, h.fr.mono hle, h.gl.mono hle, fun n hn => ?_, h.df.mono hle⟩
  have hn : (putAt s.rg s.rg.length (some g)).length ≤ n := hn
  have := (putAt_length s.rg s.rg.length (some g)).2
  have hne : n ≠ s.rg.length := by omega
  have : (Γ.add s.rg.length (Blk.none w)).μ n = Γ.μ n := by simp [Env.add, hne]
  rw [this]
  exact h.nw n (by omega)
theorem GSteps.inv {s t : St} (h : GSteps s t) {gl : List Nat} {N : Nat} {a : Act} {w : World} : ∀ {Γ : Env}, Inv gl N Γ s a w → ∃ Γ', Ext Γ w Γ' ∧ Inv gl N Γ' t a w := by
  induction h with
  | refl s => exact fun {Γ} hI => ⟨Γ, Ext.refl Γ w, hI⟩
  | @slot s t j g hg hj _ ih =>
    intro Γ hI
    obtain ⟨Γ1, B, hB, hE1, hI1⟩ := hI.ghost hg
    have hI2 : Inv gl N Γ1 { fr := s.fr.set j (.v (.c (.hz s.rg.length 0))), rg := putAt s.rg s.rg.length (some g) } a w := by
      refine ⟨hI1.wr, ?_, hI1.gl, hI1.nw, hI1.df⟩
      obtain ⟨u, hu, hcu⟩ := R2.get hI1.fr hj
      have := R2.set hI1.fr j (show SRel Γ1 (.v (.c (.hz s.rg.length 0))) u from ⟨.inl ⟨rfl, hcu.1, B, hB⟩, hcu.2⟩)
      have hl : a.tmps.toList.set j u = a.tmps.toList := by
        apply List.ext_getElem?
        intro q
        rw [List.getElem?_set]
        split
        · rename_i e; subst e
          split
          · exact hu.symm
          · rename_i hq; rw [List.getElem?_eq_none (by omega)] at hu; cases hu
        · rfl
      rw [hl] at this
      exact this
    obtain ⟨Γ2, hE2, hI3⟩ := ih hI2
    exact ⟨Γ2, hE1.trans (Wd.refl w) hE2, hI3⟩
  | @cell s t r j st e xs g hg hr hj _ ih =>
    intro Γ hI
    obtain ⟨Γ1, B, hB, hE1, hI1⟩ := hI.ghost hg
    have hrl : r < s.rg.length := (List.getElem?_eq_some_iff.1 hr).1
    have hr' : (putAt s.rg s.rg.length (some g))[r]? = some (some ⟨st, e, .cells xs⟩) := (putAt_get _ _ _ _ _).2 (.inr ⟨by omega, hr⟩)
    have hI2 : Inv gl N Γ1 { fr := s.fr, rg := putAt (putAt s.rg s.rg.length (some g)) r (some ⟨st, e, .cells (xs.set j (.hz s.rg.length 0))⟩) } a w := by
      refine ⟨hI1.wr.recell hr' (List.length_set ..) fun _ _ l _ _ _ _ hl => R2.reset hj (fun v hv => ⟨.inl ⟨rfl, hv.1, B, hB⟩, hv.2⟩) hl, hI1.fr, hI1.gl, fun n hn => hI1.nw n (Nat.le_trans (putAt_length _ r _).1 hn), hI1.df⟩
    obtain ⟨Γ2, hE2, hI3⟩ := ih hI2
    exact ⟨Γ2, hE1.trans (Wd.refl w) hE2, hI3⟩
/-- A loop's summary, from a start with nil. -/
theorem LOk.ghosts {P : Program} {gl : List Nat} {m id : Nat} {body : Code} {L L' : St → Tr (NExit × St)} (h : LOk P gl m id body L) (hL : ∀ s R, (L' s).run R → ∃ t, GSteps s t ∧ (L t).run R) : LOk P gl m id body L' := by
  intro Γ0 w0 h0 s Γ a w R Q hI hE hW hrun hK
  obtain ⟨t, hg, ht⟩ := hL s R hrun
  obtain ⟨Γ', hE', hI'⟩ := hg.inv hI
  exact h Γ0 w0 h0 t Γ' a w R Q hI' (hE.trans hW hE') hW ht hK
/-- A loop's summary, from a start whose regions have other names. -/
theorem LOk.normed {P : Program} {gl : List Nat} {m id : Nat} {body : Code} {L L' : St → Tr (NExit × St)} (h : LOk P gl m id body L) (live : List Nat) (hL : ∀ s R, (L' s).run R → ∃ t, norm m live s = some t ∧ (L t).run R) : LOk P gl m id body L' := by
  intro Γ0 w0 h0 s Γ a w R Q hI hE hW hrun hK
  obtain ⟨t, hn, ht⟩ := hL s R hrun
  obtain ⟨Γ', hE', hI'⟩ := norm_sound hI hE h0 hn
  exact h Γ0 w0 h0 t Γ' a w R Q hI' hE' hW ht hK
/-- nil that is yielded: a row that may be nil. -/
theorem WeakF.nilRes {rg : List (Option Reg)} {g : Reg} (hg : Ghost g) : WeakF ⟨.v (.c .sn), rg⟩ ⟨.v (.c (.hz rg.length 0)), putAt rg rg.length (some g)⟩ := by
  intro Γ0 Γ w0 w v hE hS hW hF
  obtain ⟨Γ', h1, h2, h3, h4⟩ := WeakF.ghost (x := .v (.c .sn)) (rg := rg) hg Γ0 Γ w0 w v hE hS hW hF
  obtain ⟨Bg, hBg, -⟩ := h3.live rg.length g ((putAt_get _ _ _ _ _).2 (.inl ⟨rfl, rfl⟩))
  exact ⟨Γ', h1, ⟨.inl ⟨rfl, h2.1, Bg, hBg⟩, h2.2⟩, h3, h4⟩
end Go.Nx
