/-
  The screen: places on the page; the law ScreenMoves.
-/
import Derived.Test.YtdijbpokklgjlaaGreatDoorScG
set_option linter.unusedVariables false
namespace Go.Proofs.YtdijbpokklgjlaaGreatDoor.scr
open Go Go.Nx
set_option maxRecDepth 100000

/-- On the page, which does not roll. -/
def Pg (s : Scr) : Prop := (1 ≤ s.row ∧ s.row ≤ 24) ∧ (0 ≤ s.col ∧ s.col ≤ 39) ∧ s.ro = false ∧ (0 ≤ s.kr ∧ s.kr ≤ 24) ∧ (0 ≤ s.kc ∧ s.kc ≤ 39)
def place (s : Scr) : Int := 40 * (s.row - 1) + s.col
theorem Pg.on {s : Scr} (h : Pg s) : On s := ⟨⟨by have := h.1; omega, h.1.2⟩, h.2.1, h.2.2.2⟩
theorem Pg.range {s : Scr} (h : Pg s) : 0 ≤ place s ∧ place s < 960 := by unfold place; have := h.1; have := h.2.1; omega
theorem mod960 {x y : Int} (h : 0 ≤ y ∧ y < 960) (k : Int) (e : x = y + 960 * k) : x % 960 = y := by omega
theorem down_pg {s : Scr} (h : Pg s) : Pg (downS s) ∧ place (downS s) = (place s + 40) % 960 := by
  obtain ⟨⟨r0, r1⟩, ⟨c0, c1⟩, hro, hk⟩ := h
  unfold downS
  rw [if_neg (by omega)]
  split
  · refine ⟨⟨⟨by show 1 ≤ s.row + 1; omega, by show s.row + 1 ≤ 24; omega⟩, ⟨c0, c1⟩, hro, hk⟩, ?_⟩
    show 40 * (s.row + 1 - 1) + s.col = (40 * (s.row - 1) + s.col + 40) % 960
    omega
  · rw [if_neg (by rw [hro]; exact Bool.false_ne_true)]
    refine ⟨⟨⟨by show (1 : Int) ≤ 1; omega, by show (1 : Int) ≤ 24; omega⟩, ⟨c0, c1⟩, hro, hk⟩, ?_⟩
    show 40 * ((1 : Int) - 1) + s.col = (40 * (s.row - 1) + s.col + 40) % 960
    omega
theorem up_pg {s : Scr} (h : Pg s) : Pg (upS s) ∧ place (upS s) = (place s - 40) % 960 := by
  obtain ⟨⟨r0, r1⟩, ⟨c0, c1⟩, hro, hk⟩ := h
  unfold upS
  rw [if_neg (by omega)]
  split
  · refine ⟨⟨⟨by show 1 ≤ s.row - 1; omega, by show s.row - 1 ≤ 24; omega⟩, ⟨c0, c1⟩, hro, hk⟩, ?_⟩
    show 40 * (s.row - 1 - 1) + s.col = (40 * (s.row - 1) + s.col - 40) % 960
    omega
  · rw [if_neg (by rw [hro]; exact Bool.false_ne_true)]
    refine ⟨⟨⟨by show (1 : Int) ≤ 24; omega, by show (24 : Int) ≤ 24; omega⟩, ⟨c0, c1⟩, hro, hk⟩, ?_⟩
    show 40 * ((24 : Int) - 1) + s.col = (40 * (s.row - 1) + s.col - 40) % 960
    omega
theorem fwd_pg {s : Scr} (h : Pg s) : Pg (fwdS s) ∧ place (fwdS s) = (place s + 1) % 960 := by
  obtain ⟨hd, hp⟩ := down_pg h
  have h' := h
  obtain ⟨⟨r0, r1⟩, ⟨c0, c1⟩, hro, hk⟩ := h
  unfold fwdS
  split
  · refine ⟨⟨⟨r0, r1⟩, ⟨by show 0 ≤ s.col + 1; omega, by show s.col + 1 ≤ 39; omega⟩, hro, hk⟩, ?_⟩
    show 40 * (s.row - 1) + (s.col + 1) = (40 * (s.row - 1) + s.col + 1) % 960
    omega
  · rw [if_pos (by omega)]
    have hc : (downS s).col = s.col := by
      unfold downS
      rw [if_neg (by omega)]
      split
      · rfl
      · rw [if_neg (by rw [hro]; exact Bool.false_ne_true)]
    refine ⟨⟨hd.1, ⟨by show (0 : Int) ≤ 0; omega, by show (0 : Int) ≤ 39; omega⟩, hd.2.2⟩, ?_⟩
    show 40 * ((downS s).row - 1) + 0 = (40 * (s.row - 1) + s.col + 1) % 960
    unfold place at hp
    rw [hc] at hp
    have hr := hd.1
    omega
theorem back_pg {s : Scr} (h : Pg s) : Pg (backS s) ∧ place (backS s) = (place s - 1) % 960 := by
  obtain ⟨hd, hp⟩ := up_pg h
  obtain ⟨⟨r0, r1⟩, ⟨c0, c1⟩, hro, hk⟩ := h
  unfold backS
  split
  · refine ⟨⟨⟨r0, r1⟩, ⟨by show 0 ≤ s.col - 1; omega, by show s.col - 1 ≤ 39; omega⟩, hro, hk⟩, ?_⟩
    show 40 * (s.row - 1) + (s.col - 1) = (40 * (s.row - 1) + s.col - 1) % 960
    omega
  · rw [if_pos (by omega)]
    have hc : (upS s).col = s.col := by
      unfold upS
      rw [if_neg (by omega)]
      split
      · rfl
      · rw [if_neg (by rw [hro]; exact Bool.false_ne_true)]
    refine ⟨⟨hd.1, ⟨by show (0 : Int) ≤ 39; omega, by show (39 : Int) ≤ 39; omega⟩, hd.2.2⟩, ?_⟩
    show 40 * ((upS s).row - 1) + 39 = (40 * (s.row - 1) + s.col - 1) % 960
    unfold place at hp
    rw [hc] at hp
    have hr := hd.1
    omega
/-- How far a step goes. -/
def dist (how : Int) : Int := if how = 1 then -1 else if how = 2 then 1 else if how = 3 then 40 else -40
theorem step_pg {how : Int} {s : Scr} (hh : 1 ≤ how ∧ how ≤ 4) (h : Pg s) : Pg (stepS how s) ∧ place (stepS how s) = (place s + dist how) % 960 := by
  have : how = 1 ∨ how = 2 ∨ how = 3 ∨ how = 4 := by omega
  rcases this with rfl | rfl | rfl | rfl
  · exact back_pg h
  · exact fwd_pg h
  · exact down_pg h
  · exact up_pg h
theorem iter_pg {how : Int} (hh : 1 ≤ how ∧ how ≤ 4) : ∀ (n : Nat) {s : Scr}, Pg s → Pg (iterF (stepS how) n s) ∧ place (iterF (stepS how) n s) = (place s + n * dist how) % 960
  | 0, s, h => ⟨h, by
    have := h.range
    show place s = (place s + ((0 : Nat) : Int) * dist how) % 960
    simp only [Int.natCast_zero, Int.zero_mul, Int.add_zero]
    omega⟩
  | n + 1, s, h => by
    obtain ⟨h1, h2⟩ := step_pg hh h
    obtain ⟨h3, h4⟩ := iter_pg hh n h1
    refine ⟨h3, ?_⟩
    show place (iterF (stepS how) n (stepS how s)) = _
    rw [h4, h2]
    have e : ((n + 1 : Nat) : Int) * dist how = n * dist how + dist how := by rw [Int.natCast_add, Int.add_mul]; simp
    rw [e]
    generalize (n : Int) * dist how = q
    generalize dist how = d
    omega
theorem event_move {how n : Int} {s : Scr} : eventS (evMove how n) s = moveS how n s := by kernel_rfl
theorem at_goTo {row col : Int} {s : Scr} : atS row col s = goToS row (w64 (col + 1)) s := by kernel_rfl
theorem at_new {row col : Int} (hr : 1 ≤ row ∧ row ≤ 24) (hc : 0 ≤ col ∧ col ≤ 39) : Pg (atS row col newS) ∧ (atS row col newS).row = row ∧ (atS row col newS).col = col ∧ (atS row col newS).e0 = 0 := by
  rw [at_goTo, w64_id (by omega)]
  unfold goToS
  rw [if_neg (by omega), if_neg (by omega)]
  have e : col + 1 - 1 = col := by omega
  rw [e]
  exact ⟨⟨hr, hc, rfl, ⟨by show (0 : Int) ≤ 1; omega, by show (1 : Int) ≤ 24; omega⟩, ⟨by show (0 : Int) ≤ 0; omega, by show (0 : Int) ≤ 39; omega⟩⟩, rfl, rfl, rfl⟩
theorem move_pg {how n : Int} {s : Scr} (hh : 1 ≤ how ∧ how ≤ 4) (hn : 1 ≤ n ∧ n ≤ 99) (h : Pg s) : Pg (eventS (evMove how n) s) ∧ place (eventS (evMove how n) s) = (place s + n * dist how) % 960 := by
  rw [event_move]
  unfold moveS
  rw [if_neg (by omega)]
  have e := (many_eq (n := n) (by omega : (1 : Int) ≤ 99)).2.2.1 hn.1 hn.2
  rw [e]
  have := iter_pg hh n.toNat h
  rw [show ((n.toNat : Nat) : Int) = n by omega] at this
  exact this
theorem iter_e0 (how : Int) : ∀ (n : Nat) (s : Scr), (iterF (stepS how) n s).e0 = s.e0
  | 0, _ => rfl
  | n + 1, s => by
    show (iterF (stepS how) n (stepS how s)).e0 = s.e0
    rw [iter_e0 how n]
    have hd : ∀ s : Scr, (downS s).e0 = s.e0 := fun s => congrArg Ev.k (evOf_down s)
    have hu : ∀ s : Scr, (upS s).e0 = s.e0 := fun s => by
      unfold upS
      split
      · rfl
      · split
        · rfl
        · split <;> rfl
    unfold stepS
    split
    · unfold backS
      split
      · rfl
      · split
        · exact hu s
        · rfl
    · split
      · unfold fwdS
        split
        · rfl
        · split
          · exact hd s
          · rfl
      · split
        · exact hd s
        · split
          · exact hu s
          · rfl
theorem move_e0 (how n : Int) (s : Scr) : (eventS (evMove how n) s).e0 = s.e0 := by
  rw [event_move]
  unfold moveS
  split
  · rfl
  · exact iter_e0 how _ s
theorem pre_move {how n : Int} {s : Scr} (h : Pg s) (h0 : s.e0 = 0) : PreE (evMove how n) s := ⟨h.on, (fun e => absurd (show (2 : Int) = 1 from e) (by decide)), (fun e => by rw [h0] at e; exact absurd e (by decide))⟩
theorem of_place {s : Scr} (h : Pg s) : s.row = place s / 40 + 1 ∧ s.col = place s % 40 := by
  unfold place
  have := h.1
  have := h.2.1
  omega
theorem moves_true {r c m wh : Int} (hr : 1 ≤ r ∧ r ≤ 24) (hc : 0 ≤ c ∧ c ≤ 39) (hm : 1 ≤ m ∧ m ≤ 99) (hw : 1 ≤ wh ∧ wh ≤ 4) : movesT r c m wh (fun o => o.res = .v (.c (.b true))) := by
  obtain ⟨h1, e1, e2, e3⟩ := at_new hr hc
  have hp : place (atS r c newS) = 40 * (r - 1) + c := by unfold place; rw [e1, e2]
  have hidx : (0 + wh.toNat < 5) := by omega
  have hbk : (1 ≤ ([0, 2, 1, 4, 3] : List Int).getD (0 + wh.toNat) 0 ∧ ([0, 2, 1, 4, 3] : List Int).getD (0 + wh.toNat) 0 ≤ 4) ∧ dist (([0, 2, 1, 4, 3] : List Int).getD (0 + wh.toNat) 0) = - dist wh ∧
      (w64 (place (atS r c newS) + ([0, w64 (960 - m), m, w64 (40 * m), w64 (95040 - w64 (40 * m))] : List Int).getD (0 + wh.toNat) 0)) % 960 = (place (atS r c newS) + m * dist wh) % 960 ∧
      0 ≤ w64 (place (atS r c newS) + ([0, w64 (960 - m), m, w64 (40 * m), w64 (95040 - w64 (40 * m))] : List Int).getD (0 + wh.toNat) 0) := by
    have h960 : w64 (960 - m) = 960 - m := w64_id (by omega)
    have h40 : w64 (40 * m) = 40 * m := w64_id (by omega)
    have h95 : w64 (95040 - w64 (40 * m)) = 95040 - 40 * m := by rw [h40]; exact w64_id (by omega)
    rw [h960, h95, h40, hp]
    have : wh = 1 ∨ wh = 2 ∨ wh = 3 ∨ wh = 4 := by omega
    rcases this with rfl | rfl | rfl | rfl
    · refine ⟨⟨by decide, by decide⟩, by decide, ?_⟩
      show (w64 (40 * (r - 1) + c + (960 - m))) % 960 = (40 * (r - 1) + c + m * (-1)) % 960 ∧ 0 ≤ w64 (40 * (r - 1) + c + (960 - m))
      rw [w64_id (by omega)]; omega
    · refine ⟨⟨by decide, by decide⟩, by decide, ?_⟩
      show (w64 (40 * (r - 1) + c + m)) % 960 = (40 * (r - 1) + c + m * 1) % 960 ∧ 0 ≤ w64 (40 * (r - 1) + c + m)
      rw [w64_id (by omega)]; omega
    · refine ⟨⟨by decide, by decide⟩, by decide, ?_⟩
      show (w64 (40 * (r - 1) + c + 40 * m)) % 960 = (40 * (r - 1) + c + m * 40) % 960 ∧ 0 ≤ w64 (40 * (r - 1) + c + 40 * m)
      rw [w64_id (by omega)]; omega
    · refine ⟨⟨by decide, by decide⟩, by decide, ?_⟩
      show (w64 (40 * (r - 1) + c + (95040 - 40 * m))) % 960 = (40 * (r - 1) + c + m * (-40)) % 960 ∧ 0 ≤ w64 (40 * (r - 1) + c + (95040 - 40 * m))
      rw [w64_id (by omega)]; omega
  obtain ⟨hb, hd, hto, hto0⟩ := hbk
  obtain ⟨h2, p2⟩ := move_pg hw hm h1
  obtain ⟨h3, p3⟩ := move_pg hb hm h2
  have z2 : (eventS (evMove wh m) (atS r c newS)).e0 = 0 := by rw [move_e0]; exact e3
  have hplace : w64 (w64 (40 * w64 (r - 1)) + c) = place (atS r c newS) := by
    rw [hp, w64_id (x := r - 1) (by omega), w64_id (x := 40 * (r - 1)) (by omega), w64_id (by omega)]
  have hmv : mvTo (w64 (w64 (40 * w64 (r - 1)) + c)) m wh = place (eventS (evMove wh m) (atS r c newS)) := by
    unfold mvTo
    rw [hplace, p2, ← hto, Int.tmod_eq_emod_of_nonneg hto0]
  have hback : place (eventS (evMove (([0, 2, 1, 4, 3] : List Int).getD (0 + wh.toNat) 0) m) (eventS (evMove wh m) (atS r c newS))) = place (atS r c newS) := by
    rw [p3, p2, hd]
    have := h1.range
    generalize place (atS r c newS) = p at *
    generalize dist wh = d at *
    rw [Int.mul_neg]
    generalize m * d = q
    omega
  obtain ⟨a1, a2⟩ := of_place h3
  obtain ⟨b1, b2⟩ := of_place h2
  rw [hback, hp] at a1 a2
  have r2 := h2.range
  unfold movesT
  refine ⟨newS_inv, pre_move h1 e3, ?_⟩
  refine selT (dT (by omega)) (selT (dT (by omega)) (selT (dT hidx) ⟨pre_move h2 z2, ?_⟩))
  refine selT (dT (by omega)) (selT (dT (by omega)) (selT (dT hidx) ?_))
  rw [hmv]
  generalize place (eventS (evMove wh m) (atS r c newS)) = p at *
  refine selT (bT e1) (selT (bT e2) (selT (bT (by rw [a1]; omega)) (selT (bT (by rw [a2]; omega)) (selT (bT ?_) ?_))))
  · rw [Int.tdiv_eq_ediv_of_nonneg r2.1, w64_id (x := p / 40) (by omega), w64_id (x := p / 40 + 1) (by omega)]
    exact b1
  · show NS.v (.c (.b ((eventS (evMove wh m) (atS r c newS)).col == Int.tmod p 40))) = _
    rw [bT (by rw [b2, Int.tmod_eq_emod_of_nonneg r2.1])]
def shsMv : List Sh := [.i .i64, .i .i64, .i .i64, .i .i64]
end Go.Proofs.YtdijbpokklgjlaaGreatDoor.scr
