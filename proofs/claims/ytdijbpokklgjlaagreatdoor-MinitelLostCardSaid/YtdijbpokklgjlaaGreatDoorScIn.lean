/-
  The screen's laws: ScreenInside: what holds whatever events come.
-/
import Derived.Test.YtdijbpokklgjlaaGreatDoorScJ
import Derived.Test.YtdijbpokklgjlaaGreatDoorPbits
set_option linter.unusedVariables false
namespace Go.Proofs.YtdijbpokklgjlaaGreatDoor.scr
open Go Go.Nx
set_option maxRecDepth 100000

def Cl (x : Int) : Prop := 0 ≤ x ∧ x ≤ 7
/-- A slot: no sign below a blank, colours, parts. -/
def SlOk (x : List Sc) : Prop := 32 ≤ xI x 0 ∧ Cl (xI x 1) ∧ (0 ≤ xI x 4 ∧ xI x 4 ≤ 2) ∧ (0 ≤ xI x 5 ∧ xI x 5 ≤ 2) ∧ Cl (xI x 7)
def SlsOk (l : List (List Sc)) : Prop := l.length = 1000 ∧ ∀ j, j < 1000 → SlOk (l.getD j [])
theorem slOk_blk : SlOk blk := ⟨by decide, ⟨by decide, by decide⟩, ⟨by decide, by decide⟩, ⟨by decide, by decide⟩, ⟨by decide, by decide⟩⟩
theorem SlsOk.set {l : List (List Sc)} (h : SlsOk l) (i : Nat) {x : List Sc} (hx : SlOk x) : SlsOk (l.set i x) := by
  refine ⟨(List.length_set ..).trans h.1, fun j hj => ?_⟩
  by_cases e : i < l.length
  · rw [getD_set _ _ _ _ _ e]
    split
    · exact hx
    · exact h.2 j hj
  · rw [List.set_eq_of_length_le (by omega)]
    exact h.2 j hj
theorem SlsOk.wipeN : ∀ (n : Nat) {l : List (List Sc)} (i : Nat), SlsOk l → SlsOk (scr.wipeN l i n)
  | 0, _, _, h => h
  | n + 1, _, i, h => SlsOk.wipeN n (i + 1) (h.set i slOk_blk)
theorem SlsOk.rows {l : List (List Sc)} {r n : Nat} (h : SlsOk l) (hr : r * 40 + n * 40 ≤ 1000) : SlsOk (rowsN l r n) := by
  obtain ⟨h1, h2⟩ := rowsN_spec n l r (by rw [h.1]; exact hr)
  refine ⟨h1.trans h.1, fun j hj => ?_⟩
  rw [h2]
  split
  · exact slOk_blk
  · exact h.2 j hj
theorem SlsOk.up {l : List (List Sc)} (h : SlsOk l) : SlsOk (upSl l) := by
  obtain ⟨h1, h2⟩ := upSl_spec h.1
  refine ⟨h1, fun j hj => ?_⟩
  rw [h2]
  split
  · exact slOk_blk
  · split
    · exact h.2 _ (by omega)
    · exact h.2 j hj
theorem SlsOk.dn {l : List (List Sc)} (h : SlsOk l) : SlsOk (dnSl l) := by
  obtain ⟨h1, h2⟩ := dnSl_spec h.1
  refine ⟨h1, fun j hj => ?_⟩
  rw [h2]
  split
  · exact slOk_blk
  · split
    · exact h.2 _ (by omega)
    · exact h.2 j hj
/-- What holds. -/
structure Ins (r : Bool) (s : Scr) : Prop where
  on : On s
  ro : s.ro = r
  fg : Cl s.fg
  bg : Cl s.bg
  sl : SlsOk s.sl
theorem cl7 : Cl 7 := ⟨by decide, by decide⟩
theorem cl0 : Cl 0 := ⟨by decide, by decide⟩
section
variable {r : Bool} {s : Scr}
theorem Ins.reset (h : Ins r s) : Ins r (resetS s) := ⟨h.on, h.ro, cl7, cl0, h.sl⟩
theorem Ins.down (h : Ins r s) : Ins r (downS s) := by
  refine ⟨downS_on h.on, ?_, ?_, ?_, ?_⟩
  all_goals unfold downS
  · split; exact h.ro; split; exact h.ro; split; exact h.ro; exact h.ro
  · split; exact h.fg; split; exact h.fg; split; exact h.fg; exact h.fg
  · split; exact h.bg; split; exact h.bg; split; exact h.bg; exact h.bg
  · split; exact h.sl; split; exact h.sl; split; exact h.sl.up; exact h.sl
theorem Ins.up (h : Ins r s) : Ins r (upS s) := by
  refine ⟨upS_on h.on, ?_, ?_, ?_, ?_⟩
  all_goals unfold upS
  · split; exact h.ro; split; exact h.ro; split; exact h.ro; exact h.ro
  · split; exact h.fg; split; exact h.fg; split; exact h.fg; exact h.fg
  · split; exact h.bg; split; exact h.bg; split; exact h.bg; exact h.bg
  · split; exact h.sl; split; exact h.sl; split; exact h.sl.dn; exact h.sl
theorem Ins.back (h : Ins r s) : Ins r (backS s) := by
  have o := backS_on h.on
  have u := h.up
  unfold backS at o ⊢
  split
  · rename_i c; rw [if_pos c] at o; exact ⟨o, h.ro, h.fg, h.bg, h.sl⟩
  · rename_i c
    rw [if_neg c] at o
    split
    · rename_i d; rw [if_pos d] at o; exact ⟨o, u.ro, u.fg, u.bg, u.sl⟩
    · exact h
theorem Ins.fwd (h : Ins r s) : Ins r (fwdS s) := by
  have o := fwdS_on h.on
  have u := h.down
  unfold fwdS at o ⊢
  split
  · rename_i c; rw [if_pos c] at o; exact ⟨o, h.ro, h.fg, h.bg, h.sl⟩
  · rename_i c
    rw [if_neg c] at o
    split
    · rename_i d; rw [if_pos d] at o; exact ⟨o, u.ro, u.fg, u.bg, u.sl⟩
    · exact h
theorem Ins.step (how : Int) (h : Ins r s) : Ins r (stepS how s) := by
  unfold stepS
  split
  · exact h.back
  split
  · exact h.fwd
  split
  · exact h.down
  split
  · exact h.up
  · exact h
theorem Ins.iter {f : Scr → Scr} (hf : ∀ s, Ins r s → Ins r (f s)) : ∀ (n : Nat) {s : Scr}, Ins r s → Ins r (iterF f n s)
  | 0, _, h => h
  | n + 1, _, h => Ins.iter hf n (hf _ h)
theorem Ins.move (how n : Int) (h : Ins r s) : Ins r (moveS how n s) := by
  have o := moveS_on (how := how) (n := n) h.on
  unfold moveS at o ⊢
  split
  · rename_i c; rw [if_pos c] at o; exact ⟨o, h.ro, h.fg, h.bg, h.sl⟩
  · exact Ins.iter (fun s => Ins.step how) _ h
theorem Ins.wipe (a b c : Int) (h : Ins r s) : Ins r (wipeS a b c s) := ⟨h.on, h.ro, h.fg, h.bg, h.sl.wipeN _ _⟩
theorem Ins.wiper {a b : Int} (h : Ins r s) (ha : 0 ≤ a ∧ a ≤ 25) (hb : b ≤ 24) : Ins r (wipeRS a b s) := ⟨h.on, h.ro, h.fg, h.bg, h.sl.rows (by omega)⟩
theorem Ins.home (h : Ins r s) : Ins r (homeS s) := ⟨homeS_on h.on, h.ro, cl7, cl0, h.sl⟩
theorem Ins.clear (w : Int) (h : Ins r s) : Ins r (clearS w s) := by
  unfold clearS
  split
  · exact (h.wiper (by decide) (by decide)).home
  split
  · exact h.wipe _ _ _
  · exact h
theorem Ins.eraR (w : Int) (h : Ins r s) : Ins r (eraRS w s) := by
  unfold eraRS
  split
  · exact h.wipe _ _ _
  split
  · exact h.wipe _ _ _
  split
  · exact h.wipe _ _ _
  · exact h
theorem Ins.eraP (w : Int) (h : Ins r s) : Ins r (eraPS w s) := by
  obtain ⟨⟨r0, r1⟩, _⟩ := h.on
  unfold eraPS
  split
  · split
    · exact (h.wiper (by omega) (by decide)).eraR _
    · exact h.eraR _
  split
  · exact (h.wiper (by decide) (by omega)).eraR _
  split
  · exact h.wiper (by decide) (by decide)
  · exact h
theorem Ins.goTo (row col : Int) (h : Ins r s) : Ins r (goToS row col s) := by
  have o := goToS_on (row := row) (col := col) h.on
  unfold goToS at o ⊢
  split
  · exact h
  · rename_i c
    rw [if_neg c] at o
    split
    · rename_i d; rw [if_pos d] at o; exact ⟨o, h.ro, cl7, cl0, h.sl⟩
    · rename_i d; rw [if_neg d] at o; exact ⟨o, h.ro, cl7, cl0, h.sl⟩
theorem Ins.wait {a : Int} (h : Ins r s) (ha : (80 ≤ a ∧ a < 88) ∨ a = 88 ∨ a = 95 ∨ a = 90 ∨ a = 89) : Ins r (waitS a s) := by
  unfold waitS
  split
  · exact ⟨h.on, h.ro, h.fg, h.bg, h.sl⟩
  split
  · exact ⟨h.on, h.ro, h.fg, h.bg, h.sl⟩
  · refine ⟨h.on, h.ro, h.fg, ?_, h.sl⟩
    show Cl (w64 (a - 80))
    rw [w64_id (by omega)]
    exact ⟨by omega, by omega⟩
theorem Ins.attrB (a : Int) (h : Ins r s) : Ins r (scr.attrB a s) := by
  unfold scr.attrB
  split
  · exact ⟨h.on, h.ro, h.fg, h.bg, h.sl⟩
  split
  · exact ⟨h.on, h.ro, h.fg, h.bg, h.sl⟩
  split
  · exact ⟨h.on, h.ro, h.fg, h.bg, h.sl⟩
  · exact h
theorem Ins.attr (a : Int) (h : Ins r s) : Ins r (attrS a s) := by
  unfold attrS
  refine Ins.attrB a ?_
  split
  · rename_i c; exact ⟨h.on, h.ro, ⟨by show 0 ≤ a - 64; omega, by show a - 64 ≤ 7; omega⟩, h.bg, h.sl⟩
  split
  · rename_i c; exact h.wait c
  · exact h
theorem SlsOk.layR {l : List (List Sc)} (h : SlsOk l) {x : Sl} (hx : 32 ≤ x.g ∧ Cl x.fg ∧ Cl x.bg ∧ (0 ≤ x.w ∧ x.w ≤ 2)) {a c : Nat} {hh : Int} (h2 : 0 ≤ hh ∧ hh ≤ 2) {wide : Bool} : SlsOk (scr.layR l a c x hh wide) := by
  have k : ∀ w : Int, 0 ≤ w ∧ w ≤ 2 → SlOk (slR x hh w) := fun w hw => ⟨hx.1, hx.2.1, h2, hw, hx.2.2.1⟩
  cases wide with
  | true => exact (h.set _ (k 1 (by decide))).set _ (k 2 (by decide))
  | false => exact h.set _ (k _ hx.2.2.2)
theorem Ins.lay (h : Ins r s) {x : Sl} (hx : 32 ≤ x.g ∧ Cl x.fg ∧ Cl x.bg ∧ (0 ≤ x.w ∧ x.w ≤ 2)) {a b : Bool} : Ins r (layS s x a b) := by
  refine ⟨h.on, h.ro, h.fg, h.bg, ?_⟩
  unfold layS
  cases a with
  | true => exact (h.sl.layR hx (by decide)).layR hx (by decide)
  | false => exact h.sl.layR hx (by decide)
theorem Ins.stepW {wide : Bool} (h : Ins r s) : Ins r (scr.stepW s wide) := by
  have o := stepW_on (wide := wide) h.on
  unfold scr.stepW at o ⊢
  split
  · rename_i c; rw [if_pos c] at o; exact ⟨o, h.ro, h.fg, h.bg, h.sl⟩
  · rename_i c
    rw [if_neg c] at o
    split
    · rename_i d; rw [if_pos d] at o; exact ⟨o, h.ro, h.fg, h.bg, h.sl⟩
    · rename_i d
      rw [if_neg d] at o
      have g : ∀ x : Int, (downS { s with col := x }).ro = r ∧ Cl (downS { s with col := x }).fg ∧ Cl (downS { s with col := x }).bg ∧ SlsOk (downS { s with col := x }).sl := fun x => by
        unfold downS
        split
        · exact ⟨h.ro, h.fg, h.bg, h.sl⟩
        split
        · exact ⟨h.ro, h.fg, h.bg, h.sl⟩
        split
        · exact ⟨h.ro, h.fg, h.bg, h.sl.up⟩
        · exact ⟨h.ro, h.fg, h.bg, h.sl⟩
      obtain ⟨g1, g2, g3, g4⟩ := g (s.col + (bif wide then 2 else 1))
      exact ⟨o, g1, g2, g3, g4⟩
theorem Ins.write (e : Ev) (h : Ins r s) : Ins r (writeS e s) := by
  have h1 : Ins r (slotS (wroteS s e) e) := ⟨h.on, h.ro, h.fg, h.bg, h.sl⟩
  refine (h1.lay ⟨gvE_ge e, h.fg, ?_, by show (0 : Int) ≤ 0; omega, by show (0 : Int) ≤ 2; omega⟩).stepW
  show Cl (if (isMos (gvE e) || marks (wroteS s e) e) = true then s.bg else 0)
  split
  · exact h.bg
  · exact cl0
theorem Ins.againN : ∀ (n : Nat) {s : Scr}, Ins r s → Ins r (scr.againN n s)
  | 0, _, h => h
  | n + 1, _, h => Ins.againN n (h.write _)
theorem Ins.again (a : Int) (h : Ins r s) : Ins r (againS a s) := by
  unfold againS
  split
  · exact h.againN _
  · exact h
theorem Ins.event (e : Ev) (h : Ins r s) : Ins r (eventS e s) := by
  have st : ∀ {p : Prop} [Decidable p] {a b : Scr}, Ins r a → Ins r b → Ins r (if p then a else b) := fun ha hb => by
    split
    · exact ha
    · exact hb
  unfold eventS
  exact st (h.write e) (st (h.again _) (st (h.move _ _) (st (h.clear _) (st h.home (st (h.goTo _ _) (st (h.attr _) (st ⟨h.on, h.ro, h.fg, h.bg, h.sl⟩ (st ⟨h.on, h.ro, h.fg, h.bg, h.sl⟩ (st (st (h.eraP _) (st (h.eraR _) h)) h)))))))))
end
theorem newS_get {j : Nat} (h : j < 1000) : newS.sl.getD j [] = blk := getD_rep 1000 j blk [] h
theorem newS_len : newS.sl.length = 1000 := by show (List.replicate 1000 blk).length = 1000; rw [List.length_replicate]
theorem ins_new (r : Bool) : Ins r (rollsS r newS) := ⟨newS_inv.1, rfl, cl7, cl0, newS_len, fun j hj => by
  show SlOk (newS.sl.getD j [])
  rw [newS_get hj]; exact slOk_blk⟩
/-- A cell of the grid. -/
def CellOk (x : List Sc) : Prop := Cl (xI x 1) ∧ Cl (xI x 2) ∧ (0 ≤ xI x 8 ∧ xI x 8 ≤ 2) ∧ (0 ≤ xI x 9 ∧ xI x 9 ≤ 2) ∧ 32 ≤ xI x 0
theorem mGlV_ge (p : Int) (b : Bool) : 32 ≤ mGlV (patV p) b := by
  unfold mGlV patV
  have key : ∀ m : Fin 64, ∀ b : Bool, (32 : Int) ≤ (bif b then bits .or .i64 (bits .or .i64 1048576 ((m.val : Nat) : Int)) 64 else bits .or .i64 1048576 ((m.val : Nat) : Int)) := by decide +kernel
  generalize bits .and .i64 (w64 (p - 1048576)) 63 = y
  have e : bits .and .i64 y 63 = y % 64 := and_mask64 y 6 (by decide)
  have e2 : y % 64 = (((y % 64).toNat : Nat) : Int) := by omega
  rw [e, e2]
  exact key ⟨(y % 64).toNat, by omega⟩ b
theorem zAt_bg {xs : List (List Sc)} : ∀ (n : Nat), (∀ j, j < n → SlOk (xs.getD j [])) → Cl (zAt xs n).bg
  | 0, _ => cl0
  | n + 1, h => by
    show Cl (bif isZ (xs.getD n []) then xI (xs.getD n []) 7 else (zAt xs n).bg)
    cases isZ (xs.getD n []) with
    | true => exact (h n (by omega)).2.2.2.2
    | false => exact zAt_bg n fun j hj => h j (by omega)
theorem cell_ok {ma : Bool} {sl : List (List Sc)} (h : SlsOk sl) {r c : Nat} (hr : r < 25) (hc : c < 40) : CellOk ((gridG ma sl).getD (r * 40 + c) []) := by
  rw [grid_get hr hc]
  have hx := h.2 (r * 40 + c) (by omega)
  have hb : Cl (zAt (rowOf sl r) (c + 1)).bg := zAt_bg _ fun j hj => by unfold rowOf; rw [getD_sub _ _ _ _ _ (by omega)]; exact h.2 _ (by omega)
  generalize zAt (rowOf sl r) (c + 1) = z at hb ⊢
  generalize sl.getD (r * 40 + c) [] = x at hx ⊢
  refine ⟨hx.2.1, hb, hx.2.2.1, hx.2.2.2.1, ?_⟩
  show 32 ≤ (bif ma && z.co then 32 else bif isMos (xI x 0) then mGlV (patV (xI x 0)) z.un else xI x 0)
  cases (ma && z.co) with
  | true => exact Int.le_refl 32
  | false =>
    cases isMos (xI x 0) with
    | true => exact mGlV_ge _ _
    | false => exact hx.1
end Go.Proofs.YtdijbpokklgjlaaGreatDoor.scr
