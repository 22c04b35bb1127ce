/-
  The screen: slots and cells by their places; what signs, blanks and rows do to them.
-/
import Derived.Test.YtdijbpokklgjlaaGreatDoorScH
import Derived.Test.YtdijbpokklgjlaaGreatDoorScI
set_option linter.unusedVariables false
namespace Go.Proofs.YtdijbpokklgjlaaGreatDoor.scr
open Go Go.Nx
set_option maxRecDepth 100000

/-! ### lists -/
theorem getD_set {α : Type} (l : List α) (i j : Nat) (a d : α) (h : i < l.length) : (l.set i a).getD j d = if i = j then a else l.getD j d := by
  rw [List.getD_eq_getElem?_getD, List.getElem?_set]
  by_cases e : i = j
  · subst e; simp [h]
  · simp [e, List.getD_eq_getElem?_getD]
theorem getD_out {α : Type} (l : List α) (j : Nat) (d : α) (h : l.length ≤ j) : l.getD j d = d := by rw [List.getD_eq_getElem?_getD, List.getElem?_eq_none h]; rfl
theorem getD_rep {α : Type} (n j : Nat) (a d : α) (h : j < n) : (List.replicate n a).getD j d = a := by rw [List.getD_eq_getElem?_getD, List.getElem?_replicate, if_pos h]; rfl
theorem getD_sub {α : Type} (l : List α) (o n j : Nat) (d : α) (h : j < n) : ((l.drop o).take n).getD j d = l.getD (o + j) d := by
  rw [List.getD_eq_getElem?_getD, List.getElem?_take, if_pos h, List.getElem?_drop, ← List.getD_eq_getElem?_getD]
theorem getD_splice {α : Type} (l ys : List α) (o j : Nat) (d : α) (h : o + ys.length ≤ l.length) : (splice l o ys).getD j d = if o ≤ j ∧ j < o + ys.length then ys.getD (j - o) d else l.getD j d := by
  simp only [splice, List.getD_eq_getElem?_getD, List.getElem?_append, List.length_take, List.length_append, List.getElem?_take, List.getElem?_drop]
  have hm : min o l.length = o := by omega
  rw [hm]
  by_cases h1 : j < o
  · have : ¬ (o ≤ j ∧ j < o + ys.length) := by omega
    rw [if_neg this]
    have h2 : j < o + ys.length := by omega
    simp [h1, h2]
  · by_cases h2 : j < o + ys.length
    · have hc : o ≤ j ∧ j < o + ys.length := ⟨by omega, h2⟩
      rw [if_pos hc]
      simp [h1, h2]
    · have : ¬ (o ≤ j ∧ j < o + ys.length) := by omega
      rw [if_neg this]
      simp only [h2, if_false]
      congr 2
      omega
theorem getD_spl {α : Type} (l ys : List α) (o n j : Nat) (d : α) (hn : ys.length = n) (h : o + n ≤ l.length) : (spl l o n ys).getD j d = if o ≤ j ∧ j < o + n then ys.getD (j - o) d else l.getD j d := by
  rw [spl_eq hn h, getD_splice _ _ _ _ _ (by omega), hn]
theorem length_spl {α : Type} (l ys : List α) (o n : Nat) (hn : ys.length = n) (h : o + n ≤ l.length) : (spl l o n ys).length = l.length := by
  rw [spl_eq hn h, splice_len _ _ _ (by omega)]
theorem wipeN_spec : ∀ (n : Nat) (sl : List (List Sc)) (i : Nat), i + n ≤ sl.length → (wipeN sl i n).length = sl.length ∧ ∀ j, (wipeN sl i n).getD j [] = if i ≤ j ∧ j < i + n then blk else sl.getD j []
  | 0, sl, i, _ => ⟨rfl, fun j => by rw [if_neg (by omega)]; rfl⟩
  | n + 1, sl, i, h => by
    obtain ⟨h1, h2⟩ := wipeN_spec n (sl.set i blk) (i + 1) (by rw [List.length_set]; omega)
    refine ⟨by rw [wipeN, h1, List.length_set], fun j => ?_⟩
    rw [wipeN, h2 j, getD_set _ _ _ _ _ (by omega)]
    by_cases e : i = j
    · rw [if_neg (by omega), if_pos e, if_pos (by omega)]
    · by_cases e2 : i + 1 ≤ j ∧ j < i + 1 + n
      · rw [if_pos e2, if_pos (by omega)]
      · rw [if_neg e2, if_neg e, if_neg (by omega)]
theorem rep40_length : (List.replicate 40 blk).length = 40 := List.length_replicate
theorem rowsN_spec : ∀ (n : Nat) (sl : List (List Sc)) (r : Nat), r * 40 + n * 40 ≤ sl.length → (rowsN sl r n).length = sl.length ∧ ∀ j, (rowsN sl r n).getD j [] = if r * 40 ≤ j ∧ j < r * 40 + n * 40 then blk else sl.getD j []
  | 0, sl, r, _ => ⟨rfl, fun j => by rw [if_neg (by omega)]; rfl⟩
  | n + 1, sl, r, h => by
    have hl := length_spl sl (List.replicate 40 blk) (r * 40) 40 rep40_length (by omega)
    obtain ⟨h1, h2⟩ := rowsN_spec n (spl sl (r * 40) 40 (List.replicate 40 blk)) (r + 1) (by rw [hl]; omega)
    refine ⟨by rw [rowsN, h1, hl], fun j => ?_⟩
    rw [rowsN, h2 j, getD_spl _ _ _ _ _ _ rep40_length (by omega)]
    by_cases e : r * 40 ≤ j ∧ j < r * 40 + 40
    · rw [if_neg (by omega), if_pos e, getD_rep _ _ _ _ (by omega), if_pos (by omega)]
    · by_cases e2 : (r + 1) * 40 ≤ j ∧ j < (r + 1) * 40 + n * 40
      · rw [if_pos e2, if_pos (by omega)]
      · rw [if_neg e2, if_neg e, if_neg (by omega)]
theorem upSl_spec {sl : List (List Sc)} (h : sl.length = 1000) : (upSl sl).length = 1000 ∧ ∀ j, (upSl sl).getD j [] = if 960 ≤ j ∧ j < 1000 then blk else if 40 ≤ j ∧ j < 960 then sl.getD (j + 40) [] else sl.getD j [] := by
  have hs : ((sl.drop 80).take 920).length = 920 := by simp; omega
  have h1 := length_spl sl _ 40 920 hs (by omega)
  refine ⟨by unfold upSl; rw [length_spl _ _ _ _ rep40_length (by rw [h1]; omega), h1]; exact h, fun j => ?_⟩
  unfold upSl
  rw [getD_spl _ _ _ _ _ _ rep40_length (by rw [h1]; omega)]
  by_cases e : 960 ≤ j ∧ j < 960 + 40
  · rw [if_pos e, getD_rep _ _ _ _ (by omega), if_pos (by omega)]
  · rw [if_neg e, if_neg (by omega), getD_spl _ _ _ _ _ _ hs (by omega)]
    by_cases e2 : 40 ≤ j ∧ j < 40 + 920
    · rw [if_pos e2, getD_sub _ _ _ _ _ (by omega), if_pos (by omega)]
      congr 1; omega
    · rw [if_neg e2, if_neg (by omega)]
theorem dnSl_spec {sl : List (List Sc)} (h : sl.length = 1000) : (dnSl sl).length = 1000 ∧ ∀ j, (dnSl sl).getD j [] = if 40 ≤ j ∧ j < 80 then blk else if 80 ≤ j ∧ j < 1000 then sl.getD (j - 40) [] else sl.getD j [] := by
  have hs : ((sl.drop 40).take 920).length = 920 := by simp; omega
  have h1 := length_spl sl _ 80 920 hs (by omega)
  refine ⟨by unfold dnSl; rw [length_spl _ _ _ _ rep40_length (by rw [h1]; omega), h1]; exact h, fun j => ?_⟩
  unfold dnSl
  rw [getD_spl _ _ _ _ _ _ rep40_length (by rw [h1]; omega)]
  by_cases e : 40 ≤ j ∧ j < 40 + 40
  · rw [if_pos e, getD_rep _ _ _ _ (by omega), if_pos (by omega)]
  · rw [if_neg e, if_neg (by omega), getD_spl _ _ _ _ _ _ hs (by omega)]
    by_cases e2 : 80 ≤ j ∧ j < 80 + 920
    · rw [if_pos e2, getD_sub _ _ _ _ _ (by omega), if_pos (by omega)]
      congr 1; omega
    · rw [if_neg e2, if_neg (by omega)]

/-! ### cells -/
def zAt (xs : List (List Sc)) : Nat → Zn
  | 0 => ⟨0, false, false⟩
  | n + 1 => zNext (zAt xs n) (xs.getD n [])
theorem zRow_spec {masks : Bool} {xs : List (List Sc)} : ∀ (n i : Nat) (out : List (List Sc)), i + n ≤ out.length → (zRow masks xs n i (zAt xs i) out).length = out.length ∧
    ∀ j, (zRow masks xs n i (zAt xs i) out).getD j [] = if i ≤ j ∧ j < i + n then zCell masks (zAt xs (j + 1)) (xs.getD j []) else out.getD j []
  | 0, i, out, _ => ⟨rfl, fun j => by rw [if_neg (by omega)]; rfl⟩
  | n + 1, i, out, h => by
    obtain ⟨h1, h2⟩ := zRow_spec (masks := masks) (xs := xs) n (i + 1) (out.set i (zCell masks (zAt xs (i + 1)) (xs.getD i []))) (by rw [List.length_set]; omega)
    refine ⟨by rw [zRow]; exact h1.trans (by rw [List.length_set]), fun j => ?_⟩
    rw [zRow]
    refine (h2 j).trans ?_
    rw [getD_set _ _ _ _ _ (by omega)]
    by_cases e : i = j
    · subst e; rw [if_neg (by omega), if_pos rfl, if_pos (by omega)]
    · by_cases e2 : i + 1 ≤ j ∧ j < i + 1 + n
      · rw [if_pos e2, if_pos (by omega)]
      · rw [if_neg e2, if_neg e, if_neg (by omega)]
theorem rowG_spec {masks : Bool} {xs : List (List Sc)} : (rowG masks xs).length = 40 ∧ ∀ j, j < 40 → (rowG masks xs).getD j [] = zCell masks (zAt xs (j + 1)) (xs.getD j []) := by
  obtain ⟨h1, h2⟩ := zRow_spec (masks := masks) (xs := xs) 40 0 (List.replicate 40 zc) (by simp)
  refine ⟨h1.trans (by simp), fun j hj => ?_⟩
  have := h2 j
  rw [if_pos (by omega)] at this
  exact this
theorem gridN_spec {masks : Bool} {sl : List (List Sc)} : ∀ (n r : Nat) (g : List (List Sc)), r * 40 + n * 40 ≤ g.length → (gridN masks sl n r g).length = g.length ∧
    ∀ q c, c < 40 → (gridN masks sl n r g).getD (q * 40 + c) [] = if r ≤ q ∧ q < r + n then (rowG masks ((sl.drop (q * 40)).take 40)).getD c [] else g.getD (q * 40 + c) []
  | 0, r, g, _ => ⟨rfl, fun q c hc => by rw [if_neg (by omega)]; rfl⟩
  | n + 1, r, g, h => by
    have hr := (rowG_spec (masks := masks) (xs := (sl.drop (r * 40)).take 40)).1
    have hl := length_spl g _ (r * 40) 40 hr (by omega)
    obtain ⟨h1, h2⟩ := gridN_spec n (r + 1) (spl g (r * 40) 40 (rowG masks ((sl.drop (r * 40)).take 40))) (by rw [hl]; omega)
    refine ⟨by rw [gridN, h1, hl], fun q c hc => ?_⟩
    rw [gridN, h2 q c hc, getD_spl _ _ _ _ _ _ hr (by omega)]
    by_cases e : q = r
    · subst e
      rw [if_neg (by omega), if_pos (by omega), if_pos (by omega), Nat.add_sub_cancel_left]
    · by_cases e2 : r + 1 ≤ q ∧ q < r + 1 + n
      · rw [if_pos e2, if_pos (by omega)]
      · rw [if_neg e2, if_neg (by omega), if_neg (by omega)]
/-- A row of slots. -/
def rowOf (sl : List (List Sc)) (r : Nat) : List (List Sc) := (sl.drop (r * 40)).take 40
theorem grid_get {masks : Bool} {sl : List (List Sc)} {r c : Nat} (hr : r < 25) (hc : c < 40) : (gridG masks sl).getD (r * 40 + c) [] = zCell masks (zAt (rowOf sl r) (c + 1)) (sl.getD (r * 40 + c) []) := by
  have := (gridN_spec (masks := masks) (sl := sl) 25 0 (List.replicate 1000 zc) (by rw [List.length_replicate]; omega)).2 r c hc
  rw [if_pos (by omega), rowG_spec.2 c hc, getD_sub _ _ _ _ _ hc] at this
  exact this
/-- A slot that begins no zone. -/
def Flat (x : List Sc) : Prop := xB x 6 = false ∧ isMos (xI x 0) = false
theorem zNext_flat {z : Zn} {x : List Sc} (h : Flat x) : zNext z x = z := by
  unfold zNext isZ
  rw [h.1, h.2]; rfl
theorem zAt_flat {xs : List (List Sc)} : ∀ (n : Nat), (∀ j, j < n → Flat (xs.getD j [])) → zAt xs n = ⟨0, false, false⟩
  | 0, _ => rfl
  | n + 1, h => by rw [zAt, zNext_flat (h n (by omega)), zAt_flat n fun j hj => h j (by omega)]
/-- The cell of a flat slot behind flat slots. -/
def flatC (x : List Sc) : List Sc := [.i (xI x 0), .i (xI x 1), .i 0, .b (xB x 2), .b false, .b false, .b false, .b (xB x 3), .i (xI x 4), .i (xI x 5)]
theorem grid_flat {masks : Bool} {sl : List (List Sc)} {r c : Nat} (hr : r < 25) (hc : c < 40) (h : ∀ j, j ≤ c → Flat (sl.getD (r * 40 + j) [])) : (gridG masks sl).getD (r * 40 + c) [] = flatC (sl.getD (r * 40 + c) []) := by
  rw [grid_get hr hc, zAt_flat (c + 1) (fun j hj => by unfold rowOf; rw [getD_sub _ _ _ _ _ (by omega)]; exact h j (by omega))]
  unfold zCell flatC
  rw [(h c (Nat.le_refl c)).2, Bool.and_false]
  rfl
theorem flat_blk : Flat blk := ⟨rfl, by decide⟩

/-! ### letters -/
def evL (code : Int) : Ev := ⟨1, 0, 0, 0, 0, 0, code⟩
/-- A letter's slot. -/
def lrow (g : Int) (s : Scr) : List Sc := [.i g, .i s.fg, .b s.fl, .b s.iv, .i 0, .i 0, .b false, .i 0, .b false, .b false]
theorem isMos_small {g : Int} (h : 0 ≤ g ∧ g < 1048576) : isMos g = false := by
  unfold isMos
  rw [w64_id (by omega), dT (by omega)]
  rfl
theorem c7_bnd (code : Int) : 0 ≤ c7 code ∧ c7 code < 128 := by
  unfold c7
  have h1 : 0 ≤ IntKind.u8.wrap code ∧ IntKind.u8.wrap code < 256 := by rw [IntKind.wrap_u8]; omega
  generalize IntKind.u8.wrap code = n at h1
  obtain ⟨m, rfl⟩ : ∃ m : Nat, n = (m : Int) := ⟨n.toNat, by omega⟩
  have hm : m < 256 := by omega
  have key : ∀ m : Fin 256, 0 ≤ bits .and .u8 ((m.val : Nat) : Int) 127 ∧ bits .and .u8 ((m.val : Nat) : Int) 127 < 128 := by decide +kernel
  exact key ⟨m, hm⟩
theorem plainG_bnd (code : Int) : 32 ≤ plainG code ∧ plainG code < 1048576 := by
  have h := c7_bnd code
  unfold plainG
  have hw : w64 (c7 code) = c7 code := w64_id (by omega)
  rw [hw]
  by_cases h0 : c7 code < 32
  · rw [dT h0]; exact ⟨by show (32 : Int) ≤ 32; omega, by show (32 : Int) < 1048576; omega⟩
  rw [dF h0]
  show 32 ≤ (bif c7 code == 94 then (0x2191 : Int) else bif c7 code == 96 then 0x2500 else bif c7 code == 123 then 0x258f else bif c7 code == 125 then 0x2595 else bif c7 code == 126 then 0x2594 else bif c7 code == 127 then 0x25a0 else c7 code) ∧ (bif c7 code == 94 then (0x2191 : Int) else bif c7 code == 96 then 0x2500 else bif c7 code == 123 then 0x258f else bif c7 code == 125 then 0x2595 else bif c7 code == 126 then 0x2594 else bif c7 code == 127 then 0x25a0 else c7 code) < 1048576
  generalize (c7 code == 94) = b1
  generalize (c7 code == 96) = b2
  generalize (c7 code == 123) = b3
  generalize (c7 code == 125) = b4
  generalize (c7 code == 126) = b5
  generalize (c7 code == 127) = b6
  cases b1 <;> cases b2 <;> cases b3 <;> cases b4 <;> cases b5 <;> cases b6 <;> simp only [cond_true, cond_false] <;> omega
theorem good_evL {e : Ev} (h : e.set = 0) : GoodE e := (gvE_0 h).1
theorem write_flat {e : Ev} {s : Scr} (h0 : e.set = 0) (h1 : s.wt = false) (h2 : s.ta = false) (h3 : s.wi = false) :
    writeS e s = stepW { wroteS s e with sl := s.sl.set (s.row.toNat * 40 + s.col.toNat) (lrow (plainG e.code) s) } false := by
  have hg := (gvE_0 h0).2
  have hm : isMos (gvE e) = false := by rw [hg]; exact isMos_small (by have := plainG_bnd e.code; omega)
  have hk : marks (wroteS s e) e = false := by unfold marks; show (s.wt && _) = false; rw [h1]; rfl
  have ht : tallB s e = false := by unfold tallB; rw [h2, Bool.and_false]; rfl
  have hw : wideB s e = false := by unfold wideB; rw [h3, Bool.and_false]; rfl
  unfold writeS
  rw [ht, hw]
  congr 1
  unfold layS slotS slX layR
  rw [hk, hm, hg]
  show Scr.mk _ _ _ _ _ _ _ _ _ _ _ _ _ _ _ (s.wt && true) _ _ _ _ _ _ _ _ _ = _
  rw [Bool.and_true]
  rfl
theorem flat_lrow {code : Int} {s : Scr} : Flat (lrow (plainG code) s) := ⟨rfl, isMos_small (by have := plainG_bnd code; show 0 ≤ plainG code ∧ plainG code < 1048576; omega)⟩
end Go.Proofs.YtdijbpokklgjlaaGreatDoor.scr
