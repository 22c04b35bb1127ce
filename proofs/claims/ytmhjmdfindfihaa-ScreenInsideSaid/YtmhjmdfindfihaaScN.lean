/-
  The screen's laws: ScreenRolls: what the rows are.
-/
import Derived.Test.YtmhjmdfindfihaaScM
set_option linter.unusedVariables false
namespace Go.Proofs.Ytmhjmdfindfihaa.scr
open Go Go.Nx

theorem ltr_plain {r : Int} (h : 1 ≤ r ∧ r ≤ 24) : plainG (ltr r) = ltr r := by
  have key : ∀ k : Fin 24, plainG (ltr (1 + ((k.val : Nat) : Int))) = ltr (1 + ((k.val : Nat) : Int)) := by decide +kernel
  have := key ⟨(r - 1).toNat, by omega⟩
  simp only at this
  rw [show (1 : Int) + (((r - 1).toNat : Nat) : Int) = r by omega] at this
  exact this
theorem rolS_eq (r : Int) (s : Scr) : rolS r s = writeS (evL (ltr r)) (atS r 0 s) := rfl
theorem gl_sl {s t : Scr} (h : s.sl = t.sl) (j : Nat) : gl s j = gl t j := by unfold gl; rw [h]
theorem rolS_spec {r : Int} {s : Scr} (hr : 1 ≤ r ∧ r ≤ 24) (h : Pl s) : Pl (rolS r s) ∧ (rolS r s).row = r ∧ (rolS r s).col = 1 ∧ ∀ j, gl (rolS r s) j = if r.toNat * 40 = j then ltr r else gl s j := by
  obtain ⟨h1, h2, h3, h4, h5, _⟩ := at_pl h (row := r) (col := 0) (by omega) (by omega)
  obtain ⟨g1, g2, g3, _, _, _, g7⟩ := let_in (c := ltr r) h1 (by rw [h3]; decide)
  rw [rolS_eq]
  refine ⟨g1, g2.trans h2, by rw [g3, h3]; rfl, fun j => ?_⟩
  rw [g7, h2, h3, ltr_plain hr, gl_sl h5]
  rfl
theorem rolN_spec : ∀ (k : Nat) (r : Int) (s : Scr), 1 ≤ r → r + k ≤ 25 → Pl s → Inv s → Pl (rolN k r s) ∧ Inv (rolN k r s) ∧ ∀ q : Nat, gl (rolN k r s) (q * 40) = if r ≤ q ∧ (q : Int) < r + k then ltr q else gl s (q * 40)
  | 0, r, s, _, _, h, hi => ⟨h, hi, fun q => by rw [if_neg (by omega)]; rfl⟩
  | k + 1, r, s, h1, h2, h, hi => by
    obtain ⟨g1, g2, g3, g4⟩ := rolS_spec (r := r) ⟨h1, by omega⟩ h
    obtain ⟨k1, k2, k3⟩ := rolN_spec k (r + 1) (rolS r s) (by omega) (by omega) g1 (rolS_inv hi)
    refine ⟨k1, k2, fun q => ?_⟩
    refine (k3 q).trans ?_
    rw [g4]
    by_cases e : r ≤ q ∧ (q : Int) < r + (k + 1 : Nat)
    · rw [if_pos e]
      by_cases e2 : r + 1 ≤ (q : Int) ∧ (q : Int) < r + 1 + k
      · rw [if_pos e2]
      · rw [if_neg e2, if_pos (by omega)]
        congr 1; omega
    · rw [if_neg e, if_neg (by omega), if_neg (by omega)]
theorem down_n : ∀ (n : Nat) (s : Scr), Pl s → s.row = 24 → s.ro = true → Pl (iterF (stepS 3) n s) ∧ (iterF (stepS 3) n s).row = 24 ∧ (iterF (stepS 3) n s).col = s.col ∧
    ∀ q : Nat, 1 ≤ q → q ≤ 24 → gl (iterF (stepS 3) n s) (q * 40) = if q + n ≤ 24 then gl s ((q + n) * 40) else 32
  | 0, s, h, hr, _ => ⟨h, hr, rfl, fun q _ h2 => by rw [if_pos (by omega)]; rfl⟩
  | n + 1, s, h, hr, ho => by
    have e : stepS 3 s = { s with sl := upSl s.sl } := downS_roll hr ho
    obtain ⟨g1, g2⟩ := up_pl h
    rw [← e] at g1 g2
    obtain ⟨k1, k2, k3, k4⟩ := down_n n (stepS 3 s) g1 (by rw [e]; exact hr) (by rw [e]; exact ho)
    refine ⟨k1, k2, k3.trans (by rw [e]), fun q q1 q2 => ?_⟩
    refine (k4 q q1 q2).trans ?_
    by_cases c : q + n ≤ 24
    · rw [if_pos c, g2]
      by_cases d : q + n = 24
      · rw [if_pos (by omega), if_neg (by omega)]
      · rw [if_neg (by omega), if_pos (by omega), if_pos (by omega)]
        congr 1; omega
    · rw [if_neg c, if_neg (by omega)]
theorem upS_roll {s : Scr} (h : s.row = 1) (ho : s.ro = true) : upS s = { s with sl := dnSl s.sl } := by
  unfold upS
  rw [if_neg (by omega), if_neg (by omega), if_pos ho]
theorem up_n : ∀ (n : Nat) (s : Scr), Pl s → s.row = 1 → s.ro = true → Pl (iterF (stepS 4) n s) ∧ (iterF (stepS 4) n s).row = 1 ∧ (iterF (stepS 4) n s).col = s.col ∧
    ∀ q : Nat, 1 ≤ q → q ≤ 24 → gl (iterF (stepS 4) n s) (q * 40) = if n + 1 ≤ q then gl s ((q - n) * 40) else 32
  | 0, s, h, hr, _ => ⟨h, hr, rfl, fun q h1 h2 => by rw [if_pos (by omega)]; rfl⟩
  | n + 1, s, h, hr, ho => by
    have e : stepS 4 s = { s with sl := dnSl s.sl } := upS_roll hr ho
    obtain ⟨g1, g2⟩ := dn_pl h
    rw [← e] at g1 g2
    obtain ⟨k1, k2, k3, k4⟩ := up_n n (stepS 4 s) g1 (by rw [e]; exact hr) (by rw [e]; exact ho)
    refine ⟨k1, k2, k3.trans (by rw [e]), fun q q1 q2 => ?_⟩
    refine (k4 q q1 q2).trans ?_
    by_cases c : n + 1 ≤ q
    · rw [if_pos c, g2]
      by_cases d : q - n = 1
      · rw [if_pos (by omega), if_neg (by omega)]
      · rw [if_neg (by omega), if_pos (by omega), if_pos (by omega)]
        congr 1; omega
    · rw [if_neg c, if_neg (by omega)]
theorem move_n {how n : Int} {s : Scr} (hh : how ≠ 5) (hn : 1 ≤ n ∧ n ≤ 99) : eventS (evMove how n) s = iterF (stepS how) n.toNat s := by
  rw [event_move]
  unfold moveS
  rw [if_neg hh, (many_eq (n := n) (by omega : (1 : Int) ≤ 99)).2.2.1 hn.1 hn.2]
theorem inv_rolls {on : Bool} {s : Scr} (h : Inv s) : Inv (rollsS on s) := h
theorem pl_rolls {on : Bool} {s : Scr} (h : Pl s) : Pl (rollsS on s) := ⟨h.on, h.wt, h.ta, h.wi, h.len, h.flat⟩
theorem rol_any {n : Int} {down : Bool} {u : Scr} (hn : 1 ≤ n ∧ n ≤ 23) (b1 : Pl u) (b2 : Inv u) (b3 : ∀ q : Nat, 1 ≤ q → q ≤ 24 → gl u (q * 40) = ltr q) (b4 : u.ro = true) {row wh : Int} (hrw : (down = true → row = 1 ∧ wh = 4) ∧ (down = false → row = 24 ∧ wh = 3)) :
      Inv u ∧ PreE (evMove wh n) (atS row 5 u) ∧
   (let t := eventS (evMove wh n) (atS row 5 u)
    let G := gridG t.ma t.sl
    ((((0 : Int) ≤ 1 ∧ (1 : Int) ≤ 25) ∧ (0 ≤ n ∧ n ≤ 24) ∧ ∀ j : Int, 1 ≤ j → j < 25 → xI (cell0 G j) 0 = want_rol n down j) ∧ sel (t.row == row) ((bO (t.col == 5)).res = .v (.c (.b true))) ((bO false).res = .v (.c (.b true))))) := by
  have fin : ∀ (row wh : Int), (wh = 3 ∨ wh = 4) → (1 ≤ row ∧ row ≤ 24) → Pl (iterF (stepS wh) n.toNat (atS row 5 u)) → (iterF (stepS wh) n.toNat (atS row 5 u)).row = row → (iterF (stepS wh) n.toNat (atS row 5 u)).col = 5 →
      (∀ q : Nat, 1 ≤ q → q ≤ 24 → gl (iterF (stepS wh) n.toNat (atS row 5 u)) (q * 40) = want_rol n down q) →
      Inv u ∧ PreE (evMove wh n) (atS row 5 u) ∧
   (let t := eventS (evMove wh n) (atS row 5 u)
    let G := gridG t.ma t.sl
    ((((0 : Int) ≤ 1 ∧ (1 : Int) ≤ 25) ∧ (0 ≤ n ∧ n ≤ 24) ∧ ∀ j : Int, 1 ≤ j → j < 25 → xI (cell0 G j) 0 = want_rol n down j) ∧ sel (t.row == row) ((bO (t.col == 5)).res = .v (.c (.b true))) ((bO false).res = .v (.c (.b true))))) := by
    intro row wh hw hr h1 h2 h3 h4
    have hi := at_inv (row := row) (col := 5) b2
    refine ⟨b2, ⟨hi.1, (fun e => absurd (show (2 : Int) = 1 from e) (by decide)), hi.2⟩, ?_⟩
    simp only []
    rw [move_n (by omega) (by omega)]
    refine ⟨⟨⟨by decide, by decide⟩, ⟨by omega, by omega⟩, fun j j1 j2 => ?_⟩, selT (bT h2) ?_⟩
    · have hc := pl_cell h1 (r := j.toNat) (c := 0) (by omega) (by decide)
      rw [Nat.add_zero] at hc
      unfold cell0
      rw [hc, h4 j.toNat (by omega) (by omega), show ((j.toNat : Nat) : Int) = j by omega]
    · show NS.v (.c (.b _)) = _
      rw [bT h3]
  cases down with
  | true =>
    obtain ⟨c1, c2, c3, c4, c5, _⟩ := at_pl b1 (row := 1) (col := 5) (by omega) (by omega)
    obtain ⟨d1, d2, d3, d4⟩ := up_n n.toNat (atS 1 5 u) c1 c2 (c4.trans b4)
    obtain ⟨rfl, rfl⟩ := hrw.1 rfl
    refine fin 1 4 (.inr rfl) (by omega) d1 d2 (d3.trans c3) fun q q1 q2 => ?_
    rw [d4 q q1 q2]
    show _ = if 1 ≤ (q : Int) - n ∧ (q : Int) - n ≤ 24 then ltr ((q : Int) - n) else 32
    by_cases c : n.toNat + 1 ≤ q
    · rw [if_pos c, if_pos (by omega), gl_sl c5, b3 _ (by omega) (by omega)]
      congr 1; omega
    · rw [if_neg c, if_neg (by omega)]
  | false =>
    obtain ⟨c1, c2, c3, c4, c5, _⟩ := at_pl b1 (row := 24) (col := 5) (by omega) (by omega)
    obtain ⟨d1, d2, d3, d4⟩ := down_n n.toNat (atS 24 5 u) c1 c2 (c4.trans b4)
    obtain ⟨rfl, rfl⟩ := hrw.2 rfl
    refine fin 24 3 (.inl rfl) (by omega) d1 d2 (d3.trans c3) fun q q1 q2 => ?_
    rw [d4 q q1 q2]
    show _ = if 1 ≤ (q : Int) + n ∧ (q : Int) + n ≤ 24 then ltr ((q : Int) + n) else 32
    by_cases c : q + n.toNat ≤ 24
    · rw [if_pos c, if_pos (by omega), gl_sl c5, b3 _ (by omega) (by omega)]
      congr 1; omega
    · rw [if_neg c, if_neg (by omega)]
theorem rol_true {n : Int} {down : Bool} {s : Scr} (hn : 1 ≤ n ∧ n ≤ 23) (a1 : Pl s) (a2 : Inv s) (a3 : ∀ q : Nat, 1 ≤ q → q ≤ 24 → gl s (q * 40) = ltr q) : sel down (rolB n down 1 4 s (fun o => o.res = .v (.c (.b true)))) (rolB n down 24 3 s (fun o => o.res = .v (.c (.b true)))) := by
  have key := fun {row wh : Int} h => rol_any (n := n) (down := down) (row := row) (wh := wh) hn (pl_rolls (on := true) a1) (inv_rolls (on := true) a2) a3 rfl h
  cases down with
  | true => exact selT rfl (key ⟨fun _ => ⟨rfl, rfl⟩, fun h => absurd h (by decide)⟩)
  | false => exact selF rfl (key ⟨fun h => absurd h (by decide), fun _ => ⟨rfl, rfl⟩⟩)
def shsRol : List Sh := [.i .i64, .b]
theorem rol_law (xs : List NV) (h : R2 ShOk shsRol xs) : Holds (t_rol xs []) fun o => o.res = .v (.c (.b true)) := by
  cases h with
  | cons h1 h =>
    cases h with
    | cons h2 h =>
      cases h
      cases h1 with
      | i _ =>
        cases h2 with
        | b =>
          rename_i n _ down
          constructor
          rw [rol_tree]
          have a1 := Int.emod_nonneg n (by decide : (23 : Int) ≠ 0)
          have a2 := Int.emod_lt_of_pos n (by decide : (0 : Int) < 23)
          rw [w64_id (x := n % 23 + 1) (by omega)]
          obtain ⟨c1, c2, c3⟩ := rolN_spec 24 1 newS (by decide) (by decide) pl_new newS_inv
          exact ⟨⟨by decide, by decide⟩, ⟨by decide, newS_inv⟩, rol_true ⟨by omega, by omega⟩ c1 c2 fun q q1 q2 => by rw [c3, if_pos (by omega)]⟩
end Go.Proofs.Ytmhjmdfindfihaa.scr
