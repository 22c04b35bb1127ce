/-
  The screen's laws: ScreenText: its loop, the law as a tree.
-/
import Derived.Test.YtmhjmdfindfihaaScN
set_option linter.unusedVariables false
namespace Go.Proofs.Ytmhjmdfindfihaa.scr
open Go Go.Nx

noncomputable def p_txt : List Pat := pats 144 [(0, .i .i64), (1, .i .i64), (2, .l .u8), (3, .b), (9, .b), (10, .p 0 0 0), (11, .i .i64), (12, .i .i64), (13, .p 1 0 0), (14, .i .i64)]
noncomputable def b_txt : Code := bodyLoop Try.f10 0
noncomputable def s_txt (row col : Int) (bs : List Int) (roll ok : Bool) (n up i : Int) (s : Scr) (G : List (List Sc)) : St := stG p_txt [.i row, .i col, .l bs, .b roll, .b ok, .i n, .i up, .i i] s G
noncomputable def e_txt (roll ok : Bool) (n up : Int) (s : Scr) (G : List (List Sc)) : St := { fr := frame 144 [(3, .v (.c (.b roll))), (9, .v (.c (.b ok))), (10, .v (.c (.p 0 0 0))), (11, .v (.c (.i .i64 n))), (12, .v (.c (.i .i64 up)))], rg := [some (scr s)] }
noncomputable def f_txt (roll ok : Bool) (n up : Int) (s : Scr) (G : List (List Sc)) : St := { fr := frame 144 [(3, .v (.c (.b roll))), (8, .v (.c (.b false))), (9, .v (.c (.b ok))), (10, .v (.c (.p 0 0 0))), (11, .v (.c (.i .i64 n))), (12, .v (.c (.i .i64 up)))], rg := [some (scr s)] }
noncomputable def cellQ (G : List (List Sc)) (r c : Int) : List Sc := G.getD (r.toNat * 40 + c.toNat) []
theorem round_txt (row col : Int) (bs : List Int) (roll ok : Bool) (n up i : Int) (s : Scr) (G : List (List Sc)) (R : RO → Prop) : (roundT X_rol 0 [0, 1, 2, 3, 9, 10, 11, 12, 13, 14] [3, 8, 9, 10, 11, 12] b_txt (s_txt row col bs roll ok n up i s G)).run R =
    sel (decide (i < ↑bs.length))
      (let k := w64 (w64 (w64 (40 * w64 (row - 1)) + col) + i)
       let N := R (.next (s_txt row col bs roll ok n up (w64 (i + 1)) s G))
       let W := w64 (bC (bs.getD i.toNat 0))
       let B := fun (r : Int) => sel (decide (0 ≤ i)) (sel (decide (i < ↑bs.length)) (sel (decide (i.toNat < bs.length)) (sel (W == 96) N (sel (decide (W ≥ 123)) N (sel (decide (r ≥ 1)) (chkC r (Int.tmod k 40) (sel (xI (cellQ G r (Int.tmod k 40)) 0 != W) (sel (W != 124) (R (.done .ret (f_txt roll ok n up s G))) N) N)) N))) False) False) False
       let r0 := w64 (w64 (w64 (Int.tdiv k 40) + 1) - up)
       sel (!roll) (B (w64 (Int.tmod (w64 (r0 - 1)) 24 + 1))) (B r0))
      (R (.done .normal (e_txt roll ok n up s G))) := by kernel_rfl

/-- The row of place k behind 'up' rows that went out. -/
def rowT (roll : Bool) (up k : Int) : Int := bif roll then k / 40 + 1 - up else k / 40 % 24 + 1
def wantT (bs : List Int) (j : Nat) : Int := w64 (bC (bs.getD j 0))
def okT (roll : Bool) (up k W : Int) (G : List (List Sc)) : Prop := W = 96 ∨ 123 ≤ W ∨ rowT roll up k < 1 ∨ (rowT roll up k ≤ 24 ∧ xI (cellQ G (rowT roll up k) (k % 40)) 0 = W)
theorem inB_txt {roll : Bool} {up k i r : Int} {bs : List Int} {G : List (List Sc)} {N F : Prop} (h1 : 0 ≤ i) (e : i < bs.length) (hk : 0 ≤ k ∧ k < 1200) (hw : okT roll up k (w64 (bC (bs.getD i.toNat 0))) G) (nx : N) (hr : r = rowT roll up k) :
    sel (decide (0 ≤ i)) (sel (decide (i < ↑bs.length)) (sel (decide (i.toNat < bs.length)) (sel (w64 (bC (bs.getD i.toNat 0)) == 96) N (sel (decide (w64 (bC (bs.getD i.toNat 0)) ≥ 123)) N (sel (decide (r ≥ 1)) (chkC r (k % 40) (sel (xI (cellQ G r (k % 40)) 0 != w64 (bC (bs.getD i.toNat 0))) (sel (w64 (bC (bs.getD i.toNat 0)) != 124) F N) N)) N))) False) False) False := by
  subst hr
  refine selT (dT h1) (selT (dT e) (selT (dT (by omega)) (sel_eq (fun _ => nx) fun g1 => sel_by (fun _ => nx) fun g2 => sel_by (fun g3 => ?_) fun _ => nx)))
  rcases hw with g | g | g | ⟨g, g'⟩
  · exact absurd g g1
  · exact absurd g g2
  · omega
  · exact chkC_in ⟨by omega, g⟩ ⟨by omega, by omega⟩ (selF (bneF g') nx)
theorem in_txt {roll : Bool} {up i row col : Int} {bs : List Int} {G : List (List Sc)} {N F : Prop} (h1 : 0 ≤ i) (e : i < bs.length) (hl : bs.length ≤ 200) (hr : 1 ≤ row ∧ row ≤ 24) (hc : 0 ≤ col ∧ col ≤ 39) (hup : 0 ≤ up ∧ up ≤ 100) (hu : roll = false → up = 0)
    (hwi : okT roll up (40 * (row - 1) + col + i) (w64 (bC (bs.getD i.toNat 0))) G) (nx : N) :
      (let k := w64 (w64 (w64 (40 * w64 (row - 1)) + col) + i)
       let W := w64 (bC (bs.getD i.toNat 0))
       let B := fun (r : Int) => sel (decide (0 ≤ i)) (sel (decide (i < ↑bs.length)) (sel (decide (i.toNat < bs.length)) (sel (W == 96) N (sel (decide (W ≥ 123)) N (sel (decide (r ≥ 1)) (chkC r (Int.tmod k 40) (sel (xI (cellQ G r (Int.tmod k 40)) 0 != W) (sel (W != 124) F N) N)) N))) False) False) False
       let r0 := w64 (w64 (w64 (Int.tdiv k 40) + 1) - up)
       sel (!roll) (B (w64 (Int.tmod (w64 (r0 - 1)) 24 + 1))) (B r0)) := by
  simp only []
  rw [w64_id (x := row - 1) (by omega), w64_id (x := 40 * (row - 1)) (by omega), w64_id (x := 40 * (row - 1) + col) (by omega), w64_id (x := 40 * (row - 1) + col + i) (by omega)]
  have hk : 0 ≤ 40 * (row - 1) + col + i := by omega
  have hk2 : 40 * (row - 1) + col + i < 1200 := by omega
  generalize 40 * (row - 1) + col + i = k at hwi hk hk2
  rw [Int.tdiv_eq_ediv_of_nonneg hk, Int.tmod_eq_emod_of_nonneg hk, w64_id (x := k / 40) (by omega), w64_id (x := k / 40 + 1) (by omega), w64_id (x := k / 40 + 1 - up) (by omega)]
  cases roll with
  | true => exact selF rfl (inB_txt h1 e ⟨hk, hk2⟩ hwi nx rfl)
  | false =>
    have := hu rfl
    subst this
    refine selT rfl (inB_txt h1 e ⟨hk, hk2⟩ hwi nx ?_)
    rw [w64_id (x := k / 40 + 1 - 0 - 1) (by omega), Int.tmod_eq_emod_of_nonneg (by omega), w64_id (by omega)]
    show _ = k / 40 % 24 + 1
    congr 2; omega
noncomputable def l_txt : List Leaf → Scr → List (List Sc) → Tr (NExit × St) := fun a s G => match a with
  | [.i row, .i col, .l bs, .b roll, .b ok, .i n, .i up, .i i] => .must (0 ≤ i ∧ (1 ≤ row ∧ row ≤ 24) ∧ (0 ≤ col ∧ col ≤ 39) ∧ bs.length ≤ 200 ∧ (0 ≤ up ∧ up ≤ 100) ∧ (roll = false → up = 0) ∧
      ∀ j : Nat, i ≤ j → j < bs.length → okT roll up (40 * (row - 1) + col + j) (wantT bs j) G) (.ret (.normal, e_txt roll ok n up s G))
  | _ => .fail
set_option maxHeartbeats 1000000 in
set_option maxRecDepth 100000 in
theorem loop_txt : LOk Try.prog [] 0 0 b_txt (sumG p_txt l_txt) := by
  refine sumG_ok (X := X_rol) kc_rol mixed (LAll.none (by kernel_rfl)) [0, 1, 2, 3, 9, 10, 11, 12, 13, 14] [3, 8, 9, 10, 11, 12] _ _ (fun a => match a with
    | [.i _, .i _, .l bs, .b _, .b _, .i _, .i _, .i i] => ((bs.length : Int) - i).toNat
    | _ => 0) ?_
  intro a s G R h
  unfold l_txt at h
  split at h
  case h_2 => exact h.elim
  rename_i row col bs roll ok n up i
  obtain ⟨⟨h1, ⟨r1, r2⟩, ⟨c1, c2⟩, hl, ⟨u1, u2⟩, hu, hw⟩, h⟩ := h
  have h' : R (.normal, e_txt roll ok n up s G) := h
  clear h
  refine Box.out (Box.of_eq (round_txt row col bs roll ok n up i s G _) (sel_by (fun e => ?_) fun e => ?_))
  · have hwi := hw i.toNat (by omega) (by omega)
    have ei : ((i.toNat : Nat) : Int) = i := by omega
    rw [ei] at hwi
    have nx : ∃ b, s_txt row col bs roll ok n up (w64 (i + 1)) s G = stG p_txt b s G ∧ (match b with
        | [.i _, .i _, .l bs, .b _, .b _, .i _, .i _, .i i] => ((bs.length : Int) - i).toNat
        | _ => 0) < ((bs.length : Int) - i).toNat ∧ (l_txt b s G).run R := by
      rw [w64_id (x := i + 1) (by omega)]
      exact ⟨[.i row, .i col, .l bs, .b roll, .b ok, .i n, .i up, .i (i + 1)], rfl, by show ((bs.length : Int) - (i + 1)).toNat < _; omega, ⟨by omega, ⟨r1, r2⟩, ⟨c1, c2⟩, hl, ⟨u1, u2⟩, hu, fun j a b => hw j (by omega) b⟩, h'⟩
    exact in_txt h1 e hl ⟨r1, r2⟩ ⟨c1, c2⟩ ⟨u1, u2⟩ hu hwi nx
  · exact h'
noncomputable def t_txt : Con := fun args regs => if regs.length = 0 then nfun Try.prog [] c_rol [(0, [0, 1, 2, 3, 9, 10, 11, 12, 13, 14], sumG p_txt l_txt)] Try.f10 args regs else .fail
theorem k_txt : Known Try.prog [] 10 t_txt := known_loops 0 Try.func10 rfl (by kernel_rfl) mixed kc_rol (LAll.one (id := 0) (body := b_txt) (by kernel_rfl) rfl loop_txt)
noncomputable def txtB (row col : Int) (bs : List Int) (roll : Bool) (R : Out → Prop) : Prop :=
  Inv (rollsS roll newS) ∧ (bs.length < 4611686018427387904 ∧ Inv (atS row col (rollsS roll newS))) ∧
   (let t := letsS (codes bs) (atS row col (rollsS roll newS))
    let G := gridG t.ma t.sl
    let n := w64 (w64 (w64 (40 * w64 (row - 1)) + col) + bs.length)
    let F := fun (e : Int) => sel (t.col == Int.tmod n 40) (R (bO (t.row == e))) (R (bO false))
    let T := fun (up : Int) => (((0 : Int) ≤ 0 ∧ (1 ≤ row ∧ row ≤ 24) ∧ (0 ≤ col ∧ col ≤ 39) ∧ bs.length ≤ 200 ∧ (0 ≤ up ∧ up ≤ 100) ∧ (roll = false → up = 0) ∧
      ∀ j : Nat, (0 : Int) ≤ j → j < bs.length → okT roll up (40 * (row - 1) + col + j) (wantT bs j) G) ∧
      sel (!roll) (F (w64 (Int.tmod (w64 (w64 (w64 (w64 (Int.tdiv n 40) + 1) - up) - 1)) 24 + 1))) (F (w64 (w64 (w64 (Int.tdiv n 40) + 1) - up))))
    sel roll (sel (decide (n ≥ 960)) (T (w64 (w64 (Int.tdiv n 40) - 23))) (T 0)) (T 0))
theorem txt_tree (row col : Int) (bs : List Int) (roll : Bool) (R : Out → Prop) : (t_txt [.c (.i .i64 row), .c (.i .i64 col), .c (.l .u8 bs), .c (.b roll)] []).run R =
    (numP 24 ∧ numP 40 ∧ sel (decide (↑bs.length > (200 : Int))) (R (bO true)) (txtB (w64 (row % 24 + 1)) (col % 40) bs roll R)) := by kernel_rfl
end Go.Proofs.Ytmhjmdfindfihaa.scr
