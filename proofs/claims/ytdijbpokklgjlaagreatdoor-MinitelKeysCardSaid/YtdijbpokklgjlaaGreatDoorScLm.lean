/-
  The screen's laws: letters in a row (written); what letters do to a plain screen.
-/
import Derived.Test.YtdijbpokklgjlaaGreatDoorScKm
set_option linter.unusedVariables false
namespace Go.Proofs.YtdijbpokklgjlaaGreatDoor.scr
open Go Go.Nx
set_option maxRecDepth 100000

/-! ### written -/
def bC (x : Int) : Int := bits .or .u8 (bits .and .u8 x 95) 32
noncomputable def letsS : List Int → Scr → Scr
  | [], s => s
  | c :: l, s => letsS l (writeS (evL c) s)
noncomputable def c_wri : FuncId → Option Con := conOf [(42, tEvent)]
theorem kc_wri : ∀ f T, c_wri f = some T → Known Tryz.prog [] f T := (Knowns.cons kEvent Knowns.nil).get
noncomputable def X_wri : Cx := { P := Tryz.prog, con := c_wri, glob := [], m := 1, loops := [] }
noncomputable def p_wri : List Pat := pats 21 [(0, .p 0 0 0), (1, .l .u8), (4, .i .i64)]
noncomputable def s_wri (bs : List Int) (i : Int) (s : Scr) : St := stS p_wri [.l bs, .i i] s
noncomputable def e_wri (s : Scr) : St := { fr := frame 21 [], rg := [some (scr s)] }
theorem pre_let {c : Int} {s : Scr} (h : Inv s) : PreE (evL c) s := ⟨h.1, fun _ => good_evL rfl, h.2⟩
theorem inv_let {c : Int} {s : Scr} (h : On s) : Inv (writeS (evL c) s) := ⟨writeS_on h, fun _ => by rw [evOf_write]; exact good_evL rfl⟩
theorem ev_let {c : Int} {s : Scr} : eventS (evL c) s = writeS (evL c) s := event_let c s
def codes (bs : List Int) : List Int := bs.map fun x => w64 (bC x)
noncomputable def l_wri : List Leaf → Scr → Tr (NExit × St) := fun a s => match a with
  | [.l bs, .i i] => .must (0 ≤ i ∧ bs.length < 4611686018427387904 ∧ Inv s) (.ret (.normal, e_wri (letsS ((codes bs).drop i.toNat) s)))
  | _ => .fail
noncomputable def tWri : Con := fun args regs => onS args regs fun l s => match l with
  | [.c (.l .u8 bs)] => .must (bs.length < 4611686018427387904 ∧ Inv s) (.ret (done (letsS (codes bs) s)))
  | _ => .fail
/-! ### plain screens -/
/-- Letters are single, nothing waits, no slot begins a zone. -/
structure Pl (s : Scr) : Prop where
  on : On s
  wt : s.wt = false
  ta : s.ta = false
  wi : s.wi = false
  len : s.sl.length = 1000
  flat : ∀ j, Flat (s.sl.getD j [])
/-- A slot's sign. -/
def gl (s : Scr) (j : Nat) : Int := xI (s.sl.getD j []) 0
theorem flat_nil : Flat [] := ⟨rfl, by decide⟩
theorem pl_new : Pl newS := ⟨newS_inv.1, rfl, rfl, rfl, newS_len, fun j => by
  by_cases h : j < 1000
  · rw [newS_get h]; exact flat_blk
  · rw [getD_out _ _ _ (by rw [newS_len]; omega)]; exact flat_nil⟩
theorem gl_new {j : Nat} (h : j < 1000) : gl newS j = 32 := by unfold gl; rw [newS_get h]; rfl
/-- A letter put down, the cursor still there. -/
noncomputable def putS (c : Int) (s : Scr) : Scr := { wroteS s (evL c) with sl := s.sl.set (s.row.toNat * 40 + s.col.toNat) (lrow (plainG c) s) }
theorem let_put {c : Int} {s : Scr} (h : Pl s) : writeS (evL c) s = stepW (putS c s) false := write_flat (e := evL c) rfl h.wt h.ta h.wi
theorem put_get {c : Int} {s : Scr} (h : Pl s) (j : Nat) : (putS c s).sl.getD j [] = if s.row.toNat * 40 + s.col.toNat = j then lrow (plainG c) s else s.sl.getD j [] := by
  obtain ⟨h1, h2, _⟩ := h.on
  exact getD_set _ _ _ _ _ (by rw [h.len]; omega)
theorem put_gl {c : Int} {s : Scr} (h : Pl s) (j : Nat) : gl (putS c s) j = if s.row.toNat * 40 + s.col.toNat = j then plainG c else gl s j := by
  unfold gl
  rw [put_get h]
  split
  · rfl
  · rfl
theorem put_pl {c : Int} {s : Scr} (h : Pl s) : Pl (putS c s) := by
  refine ⟨h.on, h.wt, h.ta, h.wi, (List.length_set ..).trans h.len, fun j => ?_⟩
  rw [put_get h]
  split
  · exact flat_lrow
  · exact h.flat j
theorem let_in {c : Int} {s : Scr} (h : Pl s) (hc : s.col < 39) : Pl (writeS (evL c) s) ∧ (writeS (evL c) s).row = s.row ∧ (writeS (evL c) s).col = s.col + 1 ∧ (writeS (evL c) s).ro = s.ro ∧ (writeS (evL c) s).kr = s.kr ∧ (writeS (evL c) s).kc = s.kc ∧
    ∀ j, gl (writeS (evL c) s) j = if s.row.toNat * 40 + s.col.toNat = j then plainG c else gl s j := by
  have hp := put_pl (c := c) h
  have e : writeS (evL c) s = { putS c s with col := s.col + 1 } := by
    rw [let_put h]
    unfold stepW
    show (if s.col + 1 ≤ 39 then _ else _) = _
    rw [if_pos (by omega)]
    rfl
  rw [e]
  obtain ⟨h1, h2, h3, h4⟩ := h.on
  exact ⟨⟨⟨h1, ⟨by show 0 ≤ s.col + 1; omega, by show s.col + 1 ≤ 39; omega⟩, h3, h4⟩, hp.wt, hp.ta, hp.wi, hp.len, hp.flat⟩, rfl, rfl, rfl, rfl, rfl, put_gl h⟩
theorem let_top {c : Int} {s : Scr} (h : Pl s) (hr : s.row = 0) (hc : s.col = 39) : Pl (writeS (evL c) s) ∧ (writeS (evL c) s).row = s.row ∧ (writeS (evL c) s).col = 39 ∧ (writeS (evL c) s).ro = s.ro ∧ (writeS (evL c) s).kr = s.kr ∧ (writeS (evL c) s).kc = s.kc ∧
    ∀ j, gl (writeS (evL c) s) j = if s.row.toNat * 40 + s.col.toNat = j then plainG c else gl s j := by
  have hp := put_pl (c := c) h
  have e : writeS (evL c) s = { putS c s with col := 39 } := by
    rw [let_put h]
    unfold stepW
    show (if s.col + 1 ≤ 39 then _ else if s.row = 0 then _ else _) = _
    rw [if_neg (by omega), if_pos hr]
  rw [e]
  obtain ⟨h1, h2, h3, h4⟩ := h.on
  exact ⟨⟨⟨h1, ⟨by show (0 : Int) ≤ 39; omega, by show (39 : Int) ≤ 39; omega⟩, h3, h4⟩, hp.wt, hp.ta, hp.wi, hp.len, hp.flat⟩, rfl, rfl, rfl, rfl, rfl, put_gl h⟩
theorem downS_mid {s : Scr} (h : 1 ≤ s.row ∧ s.row < 24) : downS s = { s with row := s.row + 1 } := by
  unfold downS
  rw [if_neg (by omega), if_pos h.2]
theorem downS_wrap {s : Scr} (h : s.row = 24) (ho : s.ro = false) : downS s = { s with row := 1 } := by
  unfold downS
  rw [if_neg (by omega), if_neg (by omega), if_neg (by rw [ho]; exact Bool.false_ne_true)]
theorem downS_roll {s : Scr} (h : s.row = 24) (ho : s.ro = true) : downS s = { s with sl := upSl s.sl } := by
  unfold downS
  rw [if_neg (by omega), if_neg (by omega), if_pos ho]
/-- Behind the last column: down. -/
def col0 (x : Scr) : Scr := { x with col := 0 }
theorem step_end {s : Scr} (hr : 1 ≤ s.row) (hc : s.col = 39) : stepW s false = col0 (downS { s with col := s.col + 1 }) :=
  (if_neg (show ¬ (s.col + 1 ≤ 39) by omega)).trans ((if_neg (show ¬ (s.row = 0) by omega)).trans rfl)
theorem let_down {c : Int} {s : Scr} (h : Pl s) (hr : 1 ≤ s.row ∧ s.row < 24) (hc : s.col = 39) : Pl (writeS (evL c) s) ∧ (writeS (evL c) s).row = s.row + 1 ∧ (writeS (evL c) s).col = 0 ∧ (writeS (evL c) s).ro = s.ro ∧ (writeS (evL c) s).kr = s.kr ∧ (writeS (evL c) s).kc = s.kc ∧
    ∀ j, gl (writeS (evL c) s) j = if s.row.toNat * 40 + s.col.toNat = j then plainG c else gl s j := by
  have hp := put_pl (c := c) h
  have e : writeS (evL c) s = { putS c s with row := s.row + 1, col := 0 } := by
    rw [let_put h, step_end (s := putS c s) hr.1 hc]
    exact (congrArg col0 (downS_mid (s := { putS c s with col := s.col + 1 }) hr)).trans rfl
  rw [e]
  obtain ⟨h1, h2, h3, h4⟩ := h.on
  exact ⟨⟨⟨⟨by show 0 ≤ s.row + 1; omega, by show s.row + 1 ≤ 24; omega⟩, ⟨by show (0 : Int) ≤ 0; omega, by show (0 : Int) ≤ 39; omega⟩, h3, h4⟩, hp.wt, hp.ta, hp.wi, hp.len, hp.flat⟩, rfl, rfl, rfl, rfl, rfl, put_gl h⟩
theorem let_wrap {c : Int} {s : Scr} (h : Pl s) (hr : s.row = 24) (hc : s.col = 39) (ho : s.ro = false) : Pl (writeS (evL c) s) ∧ (writeS (evL c) s).row = 1 ∧ (writeS (evL c) s).col = 0 ∧ (writeS (evL c) s).ro = s.ro ∧ (writeS (evL c) s).kr = s.kr ∧ (writeS (evL c) s).kc = s.kc ∧
    ∀ j, gl (writeS (evL c) s) j = if s.row.toNat * 40 + s.col.toNat = j then plainG c else gl s j := by
  have hp := put_pl (c := c) h
  have e : writeS (evL c) s = { putS c s with row := 1, col := 0 } := by
    rw [let_put h, step_end (s := putS c s) (show 1 ≤ s.row by omega) hc]
    exact (congrArg col0 (downS_wrap (s := { putS c s with col := s.col + 1 }) hr ho)).trans rfl
  rw [e]
  obtain ⟨h1, h2, h3, h4⟩ := h.on
  exact ⟨⟨⟨⟨by show (0 : Int) ≤ 1; omega, by show (1 : Int) ≤ 24; omega⟩, ⟨by show (0 : Int) ≤ 0; omega, by show (0 : Int) ≤ 39; omega⟩, h3, h4⟩, hp.wt, hp.ta, hp.wi, hp.len, hp.flat⟩, rfl, rfl, rfl, rfl, rfl, put_gl h⟩
theorem gl_ite {p : Prop} [Decidable p] {x y : List Sc} : xI (if p then x else y) 0 = if p then xI x 0 else xI y 0 := by split <;> rfl
/-- A screen whose rows went up. -/
theorem up_pl {s : Scr} (h : Pl s) : Pl { s with sl := upSl s.sl } ∧ ∀ j, gl { s with sl := upSl s.sl } j = if 960 ≤ j ∧ j < 1000 then 32 else if 40 ≤ j ∧ j < 960 then gl s (j + 40) else gl s j := by
  obtain ⟨h1, h2⟩ := upSl_spec h.len
  refine ⟨⟨h.on, h.wt, h.ta, h.wi, h1, fun j => ?_⟩, fun j => ?_⟩
  · show Flat ((upSl s.sl).getD j [])
    rw [h2]
    split
    · exact flat_blk
    · split
      · exact h.flat _
      · exact h.flat _
  · show xI ((upSl s.sl).getD j []) 0 = _
    rw [h2, gl_ite, gl_ite]
    rfl
theorem dn_pl {s : Scr} (h : Pl s) : Pl { s with sl := dnSl s.sl } ∧ ∀ j, gl { s with sl := dnSl s.sl } j = if 40 ≤ j ∧ j < 80 then 32 else if 80 ≤ j ∧ j < 1000 then gl s (j - 40) else gl s j := by
  obtain ⟨h1, h2⟩ := dnSl_spec h.len
  refine ⟨⟨h.on, h.wt, h.ta, h.wi, h1, fun j => ?_⟩, fun j => ?_⟩
  · show Flat ((dnSl s.sl).getD j [])
    rw [h2]
    split
    · exact flat_blk
    · split
      · exact h.flat _
      · exact h.flat _
  · show xI ((dnSl s.sl).getD j []) 0 = _
    rw [h2, gl_ite, gl_ite]
    rfl
theorem let_roll {c : Int} {s : Scr} (h : Pl s) (hr : s.row = 24) (hc : s.col = 39) (ho : s.ro = true) : Pl (writeS (evL c) s) ∧ (writeS (evL c) s).row = 24 ∧ (writeS (evL c) s).col = 0 ∧ (writeS (evL c) s).ro = s.ro ∧ (writeS (evL c) s).kr = s.kr ∧ (writeS (evL c) s).kc = s.kc ∧
    ∀ j, gl (writeS (evL c) s) j = if 960 ≤ j ∧ j < 1000 then 32 else if 40 ≤ j ∧ j < 960 then gl (putS c s) (j + 40) else gl (putS c s) j := by
  have hp := put_pl (c := c) h
  obtain ⟨hu, hg⟩ := up_pl hp
  have e : writeS (evL c) s = { putS c s with sl := upSl (putS c s).sl, col := 0 } := by
    rw [let_put h, step_end (s := putS c s) (show 1 ≤ s.row by omega) hc]
    exact (congrArg col0 (downS_roll (s := { putS c s with col := s.col + 1 }) hr ho)).trans rfl
  rw [e]
  obtain ⟨h1, h2, h3, h4⟩ := h.on
  exact ⟨⟨⟨h1, ⟨by show (0 : Int) ≤ 0; omega, by show (0 : Int) ≤ 39; omega⟩, h3, h4⟩, hu.wt, hu.ta, hu.wi, hu.len, hu.flat⟩, hr, rfl, rfl, rfl, rfl, hg⟩
/-- A new place: nothing on the screen changes. -/
theorem at_pl {row col : Int} {s : Scr} (h : Pl s) (hr : 0 ≤ row ∧ row ≤ 24) (hc : 0 ≤ col ∧ col ≤ 39) : Pl (atS row col s) ∧ (atS row col s).row = row ∧ (atS row col s).col = col ∧ (atS row col s).ro = s.ro ∧ (atS row col s).sl = s.sl ∧
    (atS row col s).kr = (if row = 0 ∧ s.row > 0 then s.row else s.kr) ∧ (atS row col s).kc = (if row = 0 ∧ s.row > 0 then s.col else s.kc) := by
  have hon := goToS_on (row := row) (col := col + 1) h.on
  have e : col + 1 - 1 = col := by omega
  rw [at_goTo, w64_id (by omega)]
  unfold goToS at hon ⊢
  rw [if_neg (by omega)] at hon ⊢
  rw [e] at hon ⊢
  split
  · rename_i x
    rw [if_pos x] at hon
    exact ⟨⟨hon, rfl, rfl, rfl, h.len, h.flat⟩, rfl, rfl, rfl, rfl, rfl, rfl⟩
  · rename_i x
    rw [if_neg x] at hon
    exact ⟨⟨hon, rfl, rfl, rfl, h.len, h.flat⟩, rfl, rfl, rfl, rfl, rfl, rfl⟩
theorem at_inv {row col : Int} {s : Scr} (h : Inv s) : Inv (atS row col s) := by
  rw [at_goTo]
  refine ⟨goToS_on h.1, ?_⟩
  unfold goToS
  split
  · exact h.2
  · split <;> exact h.2
/-- The screen's cell at a place of a plain screen. -/
theorem pl_cell {s : Scr} (h : Pl s) {r c : Nat} (hr : r < 25) (hc : c < 40) : xI ((gridG s.ma s.sl).getD (r * 40 + c) []) 0 = gl s (r * 40 + c) := by
  rw [grid_flat hr hc fun j _ => h.flat _]
  rfl
end Go.Proofs.YtdijbpokklgjlaaGreatDoor.scr
