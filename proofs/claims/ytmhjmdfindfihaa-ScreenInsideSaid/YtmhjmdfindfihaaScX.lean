/-
  The screen's laws: ScreenSizes: its loops' summaries, the law as a tree.
-/
import Derived.Test.YtmhjmdfindfihaaScW
set_option linter.unusedVariables false
namespace Go.Proofs.Ytmhjmdfindfihaa.scr
open Go Go.Nx

def inR (row : Int) (up : Bool) (r : Int) : Prop := r = row ∨ (up = true ∧ r = row - 1)
def inK (col : Int) (on : Bool) (k : Int) : Prop := k = col ∨ (on = true ∧ k = col + 1)
instance (row : Int) (up : Bool) (r : Int) : Decidable (inR row up r) := by unfold inR; exact inferInstance
instance (col : Int) (on : Bool) (k : Int) : Decidable (inK col on k) := by unfold inK; exact inferInstance
def okZ (row col c : Int) (up on : Bool) (G : List (List Sc)) (r k : Int) : Prop :=
  (inR row up r → inK col on k → xI (cellQ G r k) 0 = wC c ∧ xI (cellQ G r k) 8 = (bif up then 2 - (row - r) else 0) ∧ xI (cellQ G r k) 9 = (bif on then 1 + k - col else 0)) ∧
  (¬ (inR row up r ∧ inK col on k) → xI (cellQ G r k) 0 ≠ wC c)
theorem in_sz2 {row col c n r k : Int} {up on : Bool} {G : List (List Sc)} {F N : Int → Prop} (hr : 1 ≤ row ∧ row ≤ 24) (hc : 0 ≤ col ∧ col ≤ 39) (hrr : 0 ≤ r ∧ r ≤ 24) (hk : 0 ≤ k ∧ k < 40) (hn : 0 ≤ n ∧ n ≤ 6000) (hw : okZ row col c up on G r k)
    (n1 : inR row up r → inK col on k → N (n + 1)) (n0 : ¬ (inR row up r ∧ inK col on k) → N n) :
      (let x := cellQ G r k
       let S := fun (h w : Int) => sel (xI x 8 != h) (F (w64 (n + 1))) (sel (xI x 9 != w) (F (w64 (n + 1))) (N (w64 (n + 1))))
       let T := fun (h : Int) => sel on (S h (w64 (w64 (1 + k) - col))) (S h 0)
       let J := fun (b : Bool) => sel ((xI x 0 == wC c) != b) (F n) (sel (!b) (N n) (sel up (T (w64 (2 - w64 (row - r)))) (T 0)))
       let C := sel (k == col) (J true) (sel on (J (k == w64 (col + 1))) (J false))
       chkC r k (sel (r == row) C (sel up (sel (r == w64 (row - 1)) C (J false)) (J false)))) := by
  simp only []
  rw [w64_id (x := n + 1) (by omega), w64_id (x := 1 + k) (by omega), w64_id (x := 1 + k - col) (by omega), w64_id (x := row - r) (by omega), w64_id (x := 2 - (row - r)) (by omega), w64_id (x := col + 1) (by omega), w64_id (x := row - 1) (by omega)]
  unfold okZ at hw
  generalize cellQ G r k = x at hw ⊢
  have J : ∀ b : Bool, (b = true ↔ inR row up r ∧ inK col on k) → sel ((xI x 0 == wC c) != b) (F n) (sel (!b) (N n) (sel up (sel on (sel (xI x 8 != 2 - (row - r)) (F (n + 1)) (sel (xI x 9 != 1 + k - col) (F (n + 1)) (N (n + 1)))) (sel (xI x 8 != 2 - (row - r)) (F (n + 1)) (sel (xI x 9 != 0) (F (n + 1)) (N (n + 1))))) (sel on (sel (xI x 8 != 0) (F (n + 1)) (sel (xI x 9 != 1 + k - col) (F (n + 1)) (N (n + 1)))) (sel (xI x 8 != 0) (F (n + 1)) (sel (xI x 9 != 0) (F (n + 1)) (N (n + 1))))))) := by
    intro b hb
    cases b with
    | true =>
      obtain ⟨i1, i2⟩ := hb.1 rfl
      obtain ⟨g1, g2, g3⟩ := hw.1 i1 i2
      have hN := n1 i1 i2
      refine selF (by rw [bT g1]; rfl) (selF rfl (sel_b (fun a => sel_b (fun b => ?_) fun b => ?_) fun a => sel_b (fun b => ?_) fun b => ?_))
      · rw [a] at g2; rw [b] at g3; exact selF (bneF g2) (selF (bneF g3) hN)
      · rw [a] at g2; rw [b] at g3; exact selF (bneF g2) (selF (bneF g3) hN)
      · rw [a] at g2; rw [b] at g3; exact selF (bneF g2) (selF (bneF g3) hN)
      · rw [a] at g2; rw [b] at g3; exact selF (bneF g2) (selF (bneF g3) hN)
    | false =>
      have hni : ¬ (inR row up r ∧ inK col on k) := fun h => absurd (hb.2 h) (by decide)
      exact selF (by rw [bF (hw.2 hni)]; rfl) (selT rfl (n0 hni))
  have no : ¬ (inR row up r ∧ inK col on k) → ((false = true) ↔ inR row up r ∧ inK col on k) := fun h => ⟨fun x => absurd x (by decide), fun x => (h x).elim⟩
  have C : inR row up r → sel (k == col) (sel ((xI x 0 == wC c) != true) (F n) (sel (!true) (N n) (sel up (sel on (sel (xI x 8 != 2 - (row - r)) (F (n + 1)) (sel (xI x 9 != 1 + k - col) (F (n + 1)) (N (n + 1)))) (sel (xI x 8 != 2 - (row - r)) (F (n + 1)) (sel (xI x 9 != 0) (F (n + 1)) (N (n + 1))))) (sel on (sel (xI x 8 != 0) (F (n + 1)) (sel (xI x 9 != 1 + k - col) (F (n + 1)) (N (n + 1)))) (sel (xI x 8 != 0) (F (n + 1)) (sel (xI x 9 != 0) (F (n + 1)) (N (n + 1)))))))) (sel on (sel ((xI x 0 == wC c) != (k == col + 1)) (F n) (sel (!(k == col + 1)) (N n) (sel up (sel on (sel (xI x 8 != 2 - (row - r)) (F (n + 1)) (sel (xI x 9 != 1 + k - col) (F (n + 1)) (N (n + 1)))) (sel (xI x 8 != 2 - (row - r)) (F (n + 1)) (sel (xI x 9 != 0) (F (n + 1)) (N (n + 1))))) (sel on (sel (xI x 8 != 0) (F (n + 1)) (sel (xI x 9 != 1 + k - col) (F (n + 1)) (N (n + 1)))) (sel (xI x 8 != 0) (F (n + 1)) (sel (xI x 9 != 0) (F (n + 1)) (N (n + 1)))))))) (sel ((xI x 0 == wC c) != false) (F n) (sel (!false) (N n) (sel up (sel on (sel (xI x 8 != 2 - (row - r)) (F (n + 1)) (sel (xI x 9 != 1 + k - col) (F (n + 1)) (N (n + 1)))) (sel (xI x 8 != 2 - (row - r)) (F (n + 1)) (sel (xI x 9 != 0) (F (n + 1)) (N (n + 1))))) (sel on (sel (xI x 8 != 0) (F (n + 1)) (sel (xI x 9 != 1 + k - col) (F (n + 1)) (N (n + 1)))) (sel (xI x 8 != 0) (F (n + 1)) (sel (xI x 9 != 0) (F (n + 1)) (N (n + 1))))))))) := by
    intro hR
    refine sel_eq (fun a => J true ⟨fun _ => ⟨hR, .inl a⟩, fun _ => rfl⟩) fun a => sel_b (fun b => J _ ?_) fun b => J false (no fun h => ?_)
    · refine ⟨fun h => ⟨hR, .inr ⟨b, beq_iff_eq.1 h⟩⟩, fun h => ?_⟩
      rcases h.2 with h | h
      · exact absurd h a
      · exact bT h.2
    · rcases h.2 with h | h
      · exact absurd h a
      · rw [b] at h; exact absurd h.1 (by decide)
  refine chkC_in hrr ⟨hk.1, by omega⟩ (sel_eq (fun a => C (.inl a)) fun a => sel_b (fun b => sel_eq (fun d => C (.inr ⟨b, d⟩)) fun d => J false (no fun h => ?_)) fun b => J false (no fun h => ?_))
  · rcases h.1 with h | h
    · exact absurd h a
    · exact absurd h.2 d
  · rcases h.1 with h | h
    · exact absurd h a
    · rw [b] at h; exact absurd h.1 (by decide)
/-- How many of a row from column k on. -/
def remK (row col : Int) (up on : Bool) (r k : Int) : Int := if inR row up r then (if k ≤ col then 1 else 0) + (if on = true ∧ k ≤ col + 1 then 1 else 0) else 0
theorem remK_in {row col r k : Int} {up on : Bool} (hR : inR row up r) (hK : inK col on k) : remK row col up on r k = 1 + remK row col up on r (k + 1) := by
  unfold remK
  rw [if_pos hR, if_pos hR]
  unfold inK at hK
  cases on with
  | true =>
    simp only [true_and] at hK ⊢
    repeat' split
    all_goals omega
  | false =>
    simp only [Bool.false_eq_true, false_and, if_false, or_false] at hK ⊢
    repeat' split
    all_goals omega
theorem remK_out {row col r k : Int} {up on : Bool} (h : ¬ (inR row up r ∧ inK col on k)) : remK row col up on r k = remK row col up on r (k + 1) := by
  unfold remK
  by_cases hR : inR row up r
  · rw [if_pos hR, if_pos hR]
    have hK : ¬ inK col on k := fun x => h ⟨hR, x⟩
    unfold inK at hK
    cases on with
    | true =>
      simp only [true_and] at hK ⊢
      repeat' split
      all_goals omega
    | false =>
      simp only [Bool.false_eq_true, false_and, if_false, or_false] at hK ⊢
      repeat' split
      all_goals omega
  · rw [if_neg hR, if_neg hR]
noncomputable def l_sz2 : List Leaf → Scr → List (List Sc) → Tr (NExit × St) := fun l s G => match l with
  | [.i row, .i col, .i c, .b ok, .b up, .b on, .i n, .i r, .i k] => .must ((0 ≤ k ∧ k ≤ 40) ∧ (1 ≤ row ∧ row ≤ 24) ∧ (0 ≤ col ∧ col ≤ 39) ∧ (on = true → col ≤ 38) ∧ (0 ≤ r ∧ r ≤ 24) ∧ (0 ≤ n ∧ n + 40 - k ≤ 6000) ∧ ∀ j : Int, k ≤ j → j < 40 → okZ row col c up on G r j) (.ret (.normal, e_sz2 row col c ok up on (n + remK row col up on r k) r s G))
  | _ => .fail
set_option maxHeartbeats 2000000 in
set_option maxRecDepth 100000 in
theorem loop_sz2 : LOk Try.prog [] 0 2 b_sz2 (sumG p_sz2 l_sz2) := by
  refine sumG_ok (X := X_rol) kc_rol mixed (LAll.none (by kernel_rfl)) [0, 1, 4, 11, 12, 14, 15, 16, 17, 18, 19] [0, 1, 4, 10, 11, 12, 14, 15, 16, 17, 18] _ _ (fun l => match l with
    | [.i _, .i _, .i _, .b _, .b _, .b _, .i _, .i _, .i k] => (40 - k).toNat
    | _ => 0) ?_
  intro l s G R h
  unfold l_sz2 at h
  split at h
  case h_2 => exact h.elim
  rename_i row col c ok up on n r k
  obtain ⟨⟨⟨h1, h2⟩, h3, h4, h5, h6, h7, hw⟩, h⟩ := h
  have h' : R (.normal, e_sz2 row col c ok up on (n + remK row col up on r k) r s G) := h
  clear h
  refine Box.out (Box.of_eq (round_sz2 row col c ok up on n r k s G _) (sel_by (fun e => ?_) fun e => ?_))
  · rw [w64_id (x := k + 1) (by omega)]
    have nx : ∀ m, (0 ≤ m ∧ m ≤ n + 1) → m + remK row col up on r (k + 1) = n + remK row col up on r k → ∃ b, s_sz2 row col c ok up on m r (k + 1) s G = stG p_sz2 b s G ∧ (match b with
        | [.i _, .i _, .i _, .b _, .b _, .b _, .i _, .i _, .i k] => (40 - k).toNat
        | _ => 0) < (40 - k).toNat ∧ (l_sz2 b s G).run R := fun m hm e2 =>
      ⟨[.i row, .i col, .i c, .b ok, .b up, .b on, .i m, .i r, .i (k + 1)], rfl, by show (40 - (k + 1)).toNat < (40 - k).toNat; omega, ⟨⟨by omega, by omega⟩, h3, h4, h5, h6, ⟨by omega, by omega⟩, fun j x y => hw j (by omega) y⟩, by
        show R (.normal, e_sz2 row col c ok up on (m + remK row col up on r (k + 1)) r s G)
        rw [e2]; exact h'⟩
    refine in_sz2 (F := fun n => R (.ret, f_sz2 row col c ok up on n r s G)) (N := fun m => ∃ b, s_sz2 row col c ok up on m r (k + 1) s G = stG p_sz2 b s G ∧ (match b with
        | [.i _, .i _, .i _, .b _, .b _, .b _, .i _, .i _, .i k] => (40 - k).toNat
        | _ => 0) < (40 - k).toNat ∧ (l_sz2 b s G).run R) h3 h4 h6 ⟨h1, e⟩ ⟨h7.1, by omega⟩ (hw k (Int.le_refl k) e) (fun a b => nx (n + 1) (by omega) ?_) (fun a => nx n (by omega) ?_)
    · rw [remK_in a b]; omega
    · rw [remK_out a]
  · have hz : remK row col up on r k = 0 := by
      unfold remK
      by_cases hR : inR row up r
      · rw [if_pos hR, if_neg (by omega), if_neg (fun x => by have := h5 x.1; have := x.2; omega)]; rfl
      · rw [if_neg hR]
    rw [hz, Int.add_zero] at h'
    exact h'

/-! ### the rows -/
noncomputable def X_sz : Cx := { P := Try.prog, con := c_rol, glob := [], m := 0, loops := [(2, [0, 1, 4, 11, 12, 14, 15, 16, 17, 18, 19], sumG p_sz2 l_sz2)] }
noncomputable def p_sz0 : List Pat := pats 167 [(0, .i .i64), (1, .i .i64), (4, .i .u8), (11, .b), (12, .p 0 0 0), (14, .p 1 0 0), (15, .b), (16, .b), (17, .i .i64), (18, .i .i64)]
noncomputable def b_sz0 : Code := bodyLoop Try.f5 0
noncomputable def s_sz0 (row col c : Int) (ok up on : Bool) (n r : Int) (s : Scr) (G : List (List Sc)) : St := stG p_sz0 [.i row, .i col, .i c, .b ok, .b up, .b on, .i n, .i r] s G
noncomputable def e_sz0 (col : Int) (ok up on : Bool) (n : Int) (s : Scr) : St := { fr := frame 167 [(1, .v (.c (.i .i64 col))), (11, .v (.c (.b ok))), (12, .v (.c (.p 0 0 0))), (15, .v (.c (.b up))), (16, .v (.c (.b on))), (17, .v (.c (.i .i64 n)))], rg := [some (scr s)] }
def preZ (row col c : Int) (up on : Bool) (n r k : Int) (G : List (List Sc)) : Prop := (0 ≤ k ∧ k ≤ 40) ∧ (1 ≤ row ∧ row ≤ 24) ∧ (0 ≤ col ∧ col ≤ 39) ∧ (on = true → col ≤ 38) ∧ (0 ≤ r ∧ r ≤ 24) ∧ (0 ≤ n ∧ n + 40 - k ≤ 6000) ∧ ∀ j : Int, k ≤ j → j < 40 → okZ row col c up on G r j
theorem round_sz0 (row col c : Int) (ok up on : Bool) (n r : Int) (s : Scr) (G : List (List Sc)) (R : RO → Prop) : (roundT X_sz 0 [0, 1, 4, 11, 12, 14, 15, 16, 17, 18] [1, 10, 11, 12, 15, 16, 17] b_sz0 (s_sz0 row col c ok up on n r s G)).run R =
    sel (decide (r < 25)) (preZ row col c up on n r 0 G ∧ R (.next (s_sz0 row col c ok up on (n + remK row col up on r 0) (w64 (r + 1)) s G))) (R (.done .normal (e_sz0 col ok up on n s))) := by kernel_rfl
/-- How many from row r on. -/
def remT (row : Int) (up on : Bool) (r : Int) : Int := bif on then 2 * ((if r ≤ row then 1 else 0) + (if up = true ∧ r ≤ row - 1 then 1 else 0)) else (if r ≤ row then 1 else 0) + (if up = true ∧ r ≤ row - 1 then 1 else 0)
theorem remT_step {row col r : Int} {up on : Bool} (hc : 0 ≤ col) (hr : 0 ≤ r) : remT row up on r = remK row col up on r 0 + remT row up on (r + 1) := by
  unfold remT remK
  have hk : ((if on = true ∧ (0 : Int) ≤ col + 1 then (1 : Int) else 0)) = bif on then 1 else 0 := by
    cases on with
    | true => rw [if_pos ⟨rfl, by omega⟩]; rfl
    | false => rw [if_neg (fun x => absurd x.1 (by decide))]; rfl
  rw [hk, if_pos hc]
  unfold inR
  cases up with
  | true =>
    simp only [true_and]
    cases on with
    | true => simp only [cond_true]; repeat' split
              all_goals omega
    | false => simp only [cond_false]; repeat' split
               all_goals omega
  | false =>
    simp only [Bool.false_eq_true, false_and, if_false, or_false]
    cases on with
    | true => simp only [cond_true]; repeat' split
              all_goals omega
    | false => simp only [cond_false]; repeat' split
               all_goals omega
theorem remK_bnd {row col r k : Int} {up on : Bool} : 0 ≤ remK row col up on r k ∧ remK row col up on r k ≤ 2 := by
  unfold remK
  split
  · split <;> split <;> omega
  · omega
def preY (row col c : Int) (up on : Bool) (n r : Int) (G : List (List Sc)) : Prop := (0 ≤ r ∧ r ≤ 25) ∧ (1 ≤ row ∧ row ≤ 24) ∧ (0 ≤ col ∧ col ≤ 39) ∧ (on = true → col ≤ 38) ∧ (0 ≤ n ∧ n + 40 * (25 - r) ≤ 5000) ∧ ∀ q j : Int, r ≤ q → q < 25 → 0 ≤ j → j < 40 → okZ row col c up on G q j
noncomputable def l_sz0 : List Leaf → Scr → List (List Sc) → Tr (NExit × St) := fun l s G => match l with
  | [.i row, .i col, .i c, .b ok, .b up, .b on, .i n, .i r] => .must (preY row col c up on n r G) (.ret (.normal, e_sz0 col ok up on (n + remT row up on r) s))
  | _ => .fail
set_option maxHeartbeats 2000000 in
set_option maxRecDepth 100000 in
theorem loop_sz0 : LOk Try.prog [] 0 0 b_sz0 (sumG p_sz0 l_sz0) := by
  refine sumG_ok (X := X_sz) kc_rol mixed (LAll.one (id := 2) (body := b_sz2) (by kernel_rfl) rfl loop_sz2) [0, 1, 4, 11, 12, 14, 15, 16, 17, 18] [1, 10, 11, 12, 15, 16, 17] _ _ (fun l => match l with
    | [.i _, .i _, .i _, .b _, .b _, .b _, .i _, .i r] => (25 - r).toNat
    | _ => 0) ?_
  intro l s G R h
  unfold l_sz0 at h
  split at h
  case h_2 => exact h.elim
  rename_i row col c ok up on n r
  obtain ⟨⟨⟨h1, h2⟩, h3, h4, h5, h6, hw⟩, h⟩ := h
  have h' : R (.normal, e_sz0 col ok up on (n + remT row up on r) s) := h
  clear h
  refine Box.out (Box.of_eq (round_sz0 row col c ok up on n r s G _) (sel_by (fun e => ?_) fun e => ?_))
  · rw [w64_id (x := r + 1) (by omega)]
    have hb := remK_bnd (row := row) (col := col) (r := r) (k := 0) (up := up) (on := on)
    refine ⟨⟨by omega, h3, h4, h5, by omega, by omega, fun j a b => hw r j (Int.le_refl r) e a b⟩, [.i row, .i col, .i c, .b ok, .b up, .b on, .i (n + remK row col up on r 0), .i (r + 1)], rfl, by show (25 - (r + 1)).toNat < (25 - r).toNat; omega, ⟨by omega, h3, h4, h5, by omega, fun q j a b => hw q j (by omega) b⟩, ?_⟩
    show R (.normal, e_sz0 col ok up on (n + remK row col up on r 0 + remT row up on (r + 1)) s)
    rw [Int.add_assoc, ← remT_step h4.1 h1]
    exact h'
  · have hz : remT row up on r = 0 := by
      unfold remT
      rw [if_neg (by omega), if_neg (fun x => by have := x.2; omega)]
      cases on <;> rfl
    rw [hz, Int.add_zero] at h'
    exact h'
end Go.Proofs.Ytmhjmdfindfihaa.scr
