/-
  The screen: loops over a screen; the cursor's moves; blanks.
-/
import Derived.Test.YtdijbpokklgjlaaGreatDoorScB
set_option linter.unusedVariables false
namespace Go.Proofs.YtdijbpokklgjlaaGreatDoor.scr
open Go Go.Nx
set_option maxRecDepth 100000

/-! ### loops over a screen -/
/-- A state: slots by a shape, and a screen. -/
noncomputable def stS (fp : List Pat) (a : List Leaf) (x : Scr) : St := { fr := makeL Pat.makeS fp a, rg := [some (scr x)] }
noncomputable def sumS (fp : List Pat) (f : List Leaf → Scr → Tr (NExit × St)) (s : St) : Tr (NExit × St) :=
  match readL Pat.readS fp s.fr, s.rg with
  | some a, [g] => (match rdS g with
    | some x => f a x
    | none => .fail)
  | _, _ => .fail
theorem sumS_ok {X : Cx} (hcon : ∀ f T, X.con f = some T → Known X.P X.glob f T) (hm : X.P.follows .mixedOrders = true) {id : Nat} {body : Code} (hl : LAll X body) (live out : List Nat) (fp : List Pat) (f : List Leaf → Scr → Tr (NExit × St)) (μ : List Leaf → Scr → Nat)
    (round : ∀ a x R, (f a x).run R → (roundT X id live out body (stS fp a x)).run fun o => match o with
      | .next s => ∃ b y, s = stS fp b y ∧ μ b y < μ a x ∧ (f b y).run R
      | .done e s => R (e, s)) : LOk X.P X.glob X.m id body (sumS fp f) := by
  refine loop_ok hcon hm hl live out (fun x : List Leaf × Scr => stS fp x.1 x.2) (fun x => μ x.1 x.2) (fun x R => (f x.1 x.2).run R) (fun s R h => ?_) (fun x R h => ?_)
  · unfold sumS at h
    split at h
    case h_2 => exact h.elim
    rename_i a g h1 h2
    split at h
    case h_2 => exact h.elim
    rename_i x hx
    refine ⟨(a, x), ?_, h⟩
    unfold stS
    rw [readL_spec (fun p x l h => Pat.readS_spec h) h1, ← rdS_in hx, ← h2]
  · refine Tr.run_mono _ (fun o ho => ?_) (round x.1 x.2 R h)
    cases o with
    | next s =>
      obtain ⟨b, y, h1, h2, h3⟩ := ho
      exact ⟨(b, y), h1, h2, h3⟩
    | done e s => exact ho
def iterF (f : Scr → Scr) : Nat → Scr → Scr
  | 0, s => s
  | n + 1, s => iterF f n (f s)
theorem iterF_on {f : Scr → Scr} (hf : ∀ s, On s → On (f s)) : ∀ (n : Nat) {s : Scr}, On s → On (iterF f n s)
  | 0, _, h => h
  | n + 1, s, h => iterF_on hf n (hf s h)

/-! ### move -/
def stepS (how : Int) (s : Scr) : Scr := if how = 1 then backS s else if how = 2 then fwdS s else if how = 3 then downS s else if how = 4 then upS s else s
theorem stepS_on (how : Int) {s : Scr} (h : On s) : On (stepS how s) := by
  unfold stepS
  split
  · exact backS_on h
  · split
    · exact fwdS_on h
    · split
      · exact downS_on h
      · split
        · exact upS_on h
        · exact h
noncomputable def c_move : FuncId → Option Con := conOf [(78, tBack), (79, tOn), (77, tDown), (80, tUp)]
theorem kc_move : ∀ f T, c_move f = some T → Known Tryz.prog [] f T := (Knowns.cons kBack (Knowns.cons kOn (Knowns.cons kDown (Knowns.cons kUp Knowns.nil)))).get
noncomputable def X_move : Cx := { P := Tryz.prog, con := c_move, glob := [], m := 1, loops := [] }
noncomputable def p_move : List Pat := pats 35 [(0, .p 0 0 0), (1, .i .i64), (14, .i .i64), (15, .i .i64)]
noncomputable def b_move : Code := bodyLoop Tryz.f55 0
noncomputable def s_move (how n i : Int) (s : Scr) : St := stS p_move [.i how, .i n, .i i] s
noncomputable def e_move (s : Scr) : St := { fr := frame 35 [], rg := [some (scr s)] }
theorem round_move (how n i : Int) (s : Scr) (R : RO → Prop) : (roundT X_move 0 [0, 1, 14, 15] [] b_move (s_move how n i s)).run R =
    sel (decide (i < n)) (sel (how == 1) (On s ∧ R (.next (s_move how n (w64 (i + 1)) (backS s)))) (sel (how == 2) (On s ∧ R (.next (s_move how n (w64 (i + 1)) (fwdS s))))
      (sel (how == 3) (RowOk s ∧ R (.next (s_move how n (w64 (i + 1)) (downS s)))) (sel (how == 4) (RowOk s ∧ R (.next (s_move how n (w64 (i + 1)) (upS s)))) (R (.next (s_move how n (w64 (i + 1)) s)))))))
      (R (.done .normal (e_move s))) := by kernel_rfl
noncomputable def l_move : List Leaf → Scr → Tr (NExit × St) := fun a s => match a with
  | [.i how, .i n, .i i] => .must (0 ≤ i ∧ n ≤ 99 ∧ On s) (.ret (.normal, e_move (iterF (stepS how) (n - i).toNat s)))
  | _ => .fail
theorem loop_move : LOk Tryz.prog [] 1 0 b_move (sumS p_move l_move) := by
  refine sumS_ok (X := X_move) kc_move mixed (LAll.none (by kernel_rfl)) [0, 1, 14, 15] [] _ _ (fun a x => match a with
    | [.i _, .i n, .i i] => (n - i).toNat
    | _ => 0) ?_
  intro a s R h
  unfold l_move at h
  split at h
  case h_2 => exact h.elim
  rename_i how n i
  obtain ⟨⟨h1, h2, h3⟩, h⟩ := h
  have h' : R (.normal, e_move (iterF (stepS how) (n - i).toNat s)) := h
  clear h
  refine Box.out (Box.of_eq (round_move how n i s _) (sel_by (fun e => ?_) fun e => ?_))
  · obtain ⟨k, hk⟩ : ∃ k : Nat, (n - i).toNat = k + 1 := ⟨(n - i).toNat - 1, by omega⟩
    have hw : w64 (i + 1) = i + 1 := w64_id (by omega)
    have hk' : (n - (i + 1)).toNat = k := by omega
    rw [hk] at h'
    have fin : ∀ s', On s' → s' = stepS how s → (∃ b y, s_move how n (w64 (i + 1)) s' = stS p_move b y ∧ (match b with
        | [.i _, .i n, .i i] => (n - i).toNat
        | _ => 0) < (n - i).toNat ∧ (l_move b y).run R) := fun s' ho he => by
      rw [hw]
      refine ⟨[.i how, .i n, .i (i + 1)], s', rfl, by show (n - (i + 1)).toNat < _; omega, ⟨by omega, h2, ho⟩, ?_⟩
      show R (.normal, e_move (iterF (stepS how) (n - (i + 1)).toNat s'))
      rw [hk', he]
      exact h'
    refine sel_eq (fun e1 => ⟨h3, fin _ (backS_on h3) ?_⟩) fun e1 => sel_eq (fun e2 => ⟨h3, fin _ (fwdS_on h3) ?_⟩) fun e2 => sel_eq (fun e3 => ⟨h3.1, fin _ (downS_on h3) ?_⟩) fun e3 => sel_eq (fun e4 => ⟨h3.1, fin _ (upS_on h3) ?_⟩) fun e4 => fin _ h3 ?_
    · unfold stepS; rw [if_pos e1]
    · unfold stepS; rw [if_neg e1, if_pos e2]
    · unfold stepS; rw [if_neg e1, if_neg e2, if_pos e3]
    · unfold stepS; rw [if_neg e1, if_neg e2, if_neg e3, if_pos e4]
    · unfold stepS; rw [if_neg e1, if_neg e2, if_neg e3, if_neg e4]
  · have hz : (n - i).toNat = 0 := by omega
    rw [hz] at h'
    exact h'
noncomputable def t_move : Con := fun args regs => if regs.length = 1 then nfun Tryz.prog [] c_move [(0, [0, 1, 14, 15], sumS p_move l_move)] Tryz.f55 args regs else .fail
theorem k_move : Known Tryz.prog [] 55 t_move := known_loops 1 Tryz.func55 rfl (by kernel_rfl) mixed kc_move (LAll.one (id := 0) (body := b_move) (by kernel_rfl) rfl loop_move)
def mmI (less : Bool) (m n : Int) : Int := bif (match less with | true => decide (n < m) | false => decide (n > m)) then n else m
/-- How often. -/
def many (lo hi n : Int) : Int := mmI true (mmI false n lo) hi
theorem many_eq {lo hi n : Int} (h : lo ≤ hi) : lo ≤ many lo hi n ∧ many lo hi n ≤ hi ∧ (lo ≤ n → n ≤ hi → many lo hi n = n) ∧ (n ≤ lo → many lo hi n = lo) ∧ (hi ≤ n → many lo hi n = hi) := by
  unfold many mmI
  simp only []
  by_cases h1 : lo > n <;> by_cases h2 : hi < lo <;> by_cases h3 : hi < n <;> simp [h1, h2, h3] <;> omega
theorem move_tree (how n : Int) (s : Scr) (R : Out → Prop) : (t_move [.c (.p 0 0 0), .c (.i .i64 how), .c (.i .i64 n)] [scr s]).run R =
    sel (how == 5) (R (done { s with col := 0 })) (((0 : Int) ≤ 0 ∧ many 1 99 n ≤ 99 ∧ On s) ∧ R (done (iterF (stepS how) (many 1 99 n - 0).toNat s))) := by kernel_rfl
def moveS (how n : Int) (s : Scr) : Scr := if how = 5 then { s with col := 0 } else iterF (stepS how) (many 1 99 n).toNat s
theorem moveS_on {how n : Int} {s : Scr} (h : On s) : On (moveS how n s) := by
  unfold moveS
  split
  · exact ⟨h.1, ⟨by show (0 : Int) ≤ 0; omega, by show (0 : Int) ≤ 39; omega⟩, h.2.2⟩
  · exact iterF_on (fun s => stepS_on how) _ h
noncomputable def tMove : Con := con2 (fun _ _ => On) moveS
theorem kMove : Known Tryz.prog [] 55 tMove := by
  refine k_move.less fun args regs R h => Box.out ?_
  obtain ⟨how, n, s, rfl, rfl, h1, h2⟩ := con2_in h
  clear h
  unfold moveS at h2
  refine Box.of_eq (move_tree how n s R) (sel_eq (fun e => ?_) fun e => ?_)
  · rw [if_pos e] at h2; exact h2
  · rw [if_neg e] at h2
    refine ⟨⟨Int.le_refl 0, (many_eq (n := n) (by omega : (1 : Int) ≤ 99)).2.1, h1⟩, ?_⟩
    rw [Int.sub_zero]; exact h2

/-! ### blanks -/
def wipeN : List (List Sc) → Nat → Nat → List (List Sc)
  | sl, _, 0 => sl
  | sl, i, n + 1 => wipeN (sl.set i blk) (i + 1) n
def wipeS (row from_ to : Int) (s : Scr) : Scr := { s with sl := wipeN s.sl (row.toNat * 40 + from_.toNat) (to + 1 - from_).toNat }
noncomputable def c_wipe : FuncId → Option Con := conOf [(45, tBlank)]
theorem kc_wipe : ∀ f T, c_wipe f = some T → Known Tryz.prog [] f T := (Knowns.cons kBlank Knowns.nil).get
noncomputable def X_wipe : Cx := { P := Tryz.prog, con := c_wipe, glob := [], m := 1, loops := [] }
noncomputable def p_wipe : List Pat := pats 23 [(0, .p 0 0 0), (1, .i .i64), (3, .i .i64), (8, .i .i64)]
noncomputable def b_wipe : Code := bodyLoop Tryz.f82 0
noncomputable def s_wipe (row to k : Int) (s : Scr) : St := stS p_wipe [.i row, .i to, .i k] s
noncomputable def e_wipe (s : Scr) : St := { fr := frame 23 [], rg := [some (scr s)] }
theorem round_wipe (row to k : Int) (s : Scr) (R : RO → Prop) : (roundT X_wipe 0 [0, 1, 3, 8] [] b_wipe (s_wipe row to k s)).run R =
    sel (decide (k ≤ to)) (sel (decide (0 ≤ row)) (sel (decide (row < 25)) (sel (decide (0 ≤ k)) (sel (decide (k < 40)) (sel (decide (row.toNat * 40 + k.toNat + 1 ≤ 1000))
      (R (.next (s_wipe row to (w64 (k + 1)) { s with sl := s.sl.set (row.toNat * 40 + k.toNat) blk }))) False) False) False) False) False)
      (R (.done .normal (e_wipe s))) := by kernel_rfl
noncomputable def l_wipe : List Leaf → Scr → Tr (NExit × St) := fun a s => match a with
  | [.i row, .i to, .i k] => .must ((0 ≤ row ∧ row ≤ 24) ∧ 0 ≤ k ∧ to ≤ 39) (.ret (.normal, e_wipe { s with sl := wipeN s.sl (row.toNat * 40 + k.toNat) (to + 1 - k).toNat }))
  | _ => .fail
theorem loop_wipe : LOk Tryz.prog [] 1 0 b_wipe (sumS p_wipe l_wipe) := by
  refine sumS_ok (X := X_wipe) kc_wipe mixed (LAll.none (by kernel_rfl)) [0, 1, 3, 8] [] _ _ (fun a x => match a with
    | [.i _, .i to, .i k] => (to + 1 - k).toNat
    | _ => 0) ?_
  intro a s R h
  unfold l_wipe at h
  split at h
  case h_2 => exact h.elim
  rename_i row to k
  obtain ⟨⟨⟨h1, h1'⟩, h2, h3⟩, h⟩ := h
  have h' : R (.normal, e_wipe { s with sl := wipeN s.sl (row.toNat * 40 + k.toNat) (to + 1 - k).toNat }) := h
  clear h
  refine Box.out (Box.of_eq (round_wipe row to k s _) (sel_by (fun e => ?_) fun e => ?_))
  · refine selT (dT h1) (selT (dT (by omega)) (selT (dT h2) (selT (dT (by omega)) (selT (dT (by omega)) ?_))))
    obtain ⟨n, hn⟩ : ∃ n : Nat, (to + 1 - k).toNat = n + 1 := ⟨(to - k).toNat, by omega⟩
    have hw : w64 (k + 1) = k + 1 := w64_id (by omega)
    rw [hw]
    refine ⟨[.i row, .i to, .i (k + 1)], _, rfl, by show (to + 1 - (k + 1)).toNat < (to + 1 - k).toNat; omega, ⟨⟨h1, h1'⟩, by omega, h3⟩, ?_⟩
    show R (.normal, e_wipe { s with sl := wipeN (s.sl.set (row.toNat * 40 + k.toNat) blk) (row.toNat * 40 + (k + 1).toNat) (to + 1 - (k + 1)).toNat })
    have e1 : (to + 1 - (k + 1)).toNat = n := by omega
    have e2 : row.toNat * 40 + (k + 1).toNat = row.toNat * 40 + k.toNat + 1 := by omega
    rw [hn] at h'
    rw [e1, e2]
    exact h'
  · have hz : (to + 1 - k).toNat = 0 := by omega
    rw [hz] at h'
    exact h'
noncomputable def t_wipe : Con := fun args regs => if regs.length = 1 then nfun Tryz.prog [] c_wipe [(0, [0, 1, 3, 8], sumS p_wipe l_wipe)] Tryz.f82 args regs else .fail
theorem k_wipe : Known Tryz.prog [] 82 t_wipe := known_loops 1 Tryz.func82 rfl (by kernel_rfl) mixed kc_wipe (LAll.one (id := 0) (body := b_wipe) (by kernel_rfl) rfl loop_wipe)
theorem wipe_tree (row from_ to : Int) (s : Scr) (R : Out → Prop) : (t_wipe [.c (.p 0 0 0), .c (.i .i64 row), .c (.i .i64 from_), .c (.i .i64 to)] [scr s]).run R =
    (((0 ≤ row ∧ row ≤ 24) ∧ 0 ≤ from_ ∧ to ≤ 39) ∧ R (done (wipeS row from_ to s))) := by kernel_rfl
noncomputable def tWipe : Con := con3 (fun row from_ to _ => (0 ≤ row ∧ row ≤ 24) ∧ 0 ≤ from_ ∧ to ≤ 39) wipeS
theorem kWipe : Known Tryz.prog [] 82 tWipe := by
  refine k_wipe.less fun args regs R h => Box.out ?_
  obtain ⟨row, from_, to, s, rfl, rfl, h1, h2⟩ := con3_in h
  exact Box.of_eq (wipe_tree row from_ to s R) ⟨h1, h2⟩
def rowsN : List (List Sc) → Nat → Nat → List (List Sc)
  | sl, _, 0 => sl
  | sl, r, n + 1 => rowsN (spl sl (r * 40) 40 (List.replicate 40 blk)) (r + 1) n
def wipeRS (from_ to : Int) (s : Scr) : Scr := { s with sl := rowsN s.sl from_.toNat (to + 1 - from_).toNat }
noncomputable def X_wiper : Cx := { P := Tryz.prog, con := c_down, glob := [], m := 1, loops := [] }
noncomputable def p_wiper : List Pat := pats 19 [(0, .p 0 0 0), (2, .i .i64), (6, .i .i64)]
noncomputable def b_wiper : Code := bodyLoop Tryz.f81 0
noncomputable def s_wiper (to r : Int) (s : Scr) : St := stS p_wiper [.i to, .i r] s
noncomputable def e_wiper (s : Scr) : St := { fr := frame 19 [], rg := [some (scr s)] }
theorem round_wiper (to r : Int) (s : Scr) (R : RO → Prop) : (roundT X_wiper 0 [0, 2, 6] [] b_wiper (s_wiper to r s)).run R =
    sel (decide (r ≤ to)) (sel (decide (0 ≤ r)) (sel (decide (r < 25)) (sel (decide (r.toNat * 40 + 40 ≤ 1000))
      (R (.next (s_wiper to (w64 (r + 1)) { s with sl := spl s.sl (r.toNat * 40) 40 (List.replicate 40 blk) }))) False) False) False)
      (R (.done .normal (e_wiper s))) := by kernel_rfl
noncomputable def l_wiper : List Leaf → Scr → Tr (NExit × St) := fun a s => match a with
  | [.i to, .i r] => .must (0 ≤ r ∧ to ≤ 24) (.ret (.normal, e_wiper { s with sl := rowsN s.sl r.toNat (to + 1 - r).toNat }))
  | _ => .fail
theorem loop_wiper : LOk Tryz.prog [] 1 0 b_wiper (sumS p_wiper l_wiper) := by
  refine sumS_ok (X := X_wiper) kc_down mixed (LAll.none (by kernel_rfl)) [0, 2, 6] [] _ _ (fun a x => match a with
    | [.i to, .i r] => (to + 1 - r).toNat
    | _ => 0) ?_
  intro a s R h
  unfold l_wiper at h
  split at h
  case h_2 => exact h.elim
  rename_i to r
  obtain ⟨⟨h1, h2⟩, h⟩ := h
  have h' : R (.normal, e_wiper { s with sl := rowsN s.sl r.toNat (to + 1 - r).toNat }) := h
  clear h
  refine Box.out (Box.of_eq (round_wiper to r s _) (sel_by (fun e => ?_) fun e => ?_))
  · refine selT (dT h1) (selT (dT (by omega)) (selT (dT (by omega)) ?_))
    obtain ⟨n, hn⟩ : ∃ n : Nat, (to + 1 - r).toNat = n + 1 := ⟨(to - r).toNat, by omega⟩
    have hw : w64 (r + 1) = r + 1 := w64_id (by omega)
    rw [hw]
    refine ⟨[.i to, .i (r + 1)], _, rfl, by show (to + 1 - (r + 1)).toNat < (to + 1 - r).toNat; omega, ⟨by omega, h2⟩, ?_⟩
    show R (.normal, e_wiper { s with sl := rowsN (spl s.sl (r.toNat * 40) 40 (List.replicate 40 blk)) (r + 1).toNat (to + 1 - (r + 1)).toNat })
    have e1 : (to + 1 - (r + 1)).toNat = n := by omega
    have e2 : (r + 1).toNat = r.toNat + 1 := by omega
    rw [hn] at h'
    rw [e1, e2]
    exact h'
  · have hz : (to + 1 - r).toNat = 0 := by omega
    rw [hz] at h'
    exact h'
noncomputable def t_wiper : Con := fun args regs => if regs.length = 1 then nfun Tryz.prog [] c_down [(0, [0, 2, 6], sumS p_wiper l_wiper)] Tryz.f81 args regs else .fail
theorem k_wiper : Known Tryz.prog [] 81 t_wiper := known_loops 1 Tryz.func81 rfl (by kernel_rfl) mixed kc_down (LAll.one (id := 0) (body := b_wiper) (by kernel_rfl) rfl loop_wiper)
theorem wiper_tree (from_ to : Int) (s : Scr) (R : Out → Prop) : (t_wiper [.c (.p 0 0 0), .c (.i .i64 from_), .c (.i .i64 to)] [scr s]).run R = ((0 ≤ from_ ∧ to ≤ 24) ∧ R (done (wipeRS from_ to s))) := by kernel_rfl
noncomputable def tWipeR : Con := con2 (fun from_ to _ => 0 ≤ from_ ∧ to ≤ 24) wipeRS
theorem kWipeR : Known Tryz.prog [] 81 tWipeR := by
  refine k_wiper.less fun args regs R h => Box.out ?_
  obtain ⟨from_, to, s, rfl, rfl, h1, h2⟩ := con2_in h
  exact Box.of_eq (wiper_tree from_ to s R) ⟨h1, h2⟩

/-! ### home, clear, erase, a place -/
def homeS (s : Scr) : Scr := resetS { s with row := 1, col := 0 }
noncomputable def c_home : FuncId → Option Con := conOf [(83, tReset)]
theorem kc_home : ∀ f T, c_home f = some T → Known Tryz.prog [] f T := (Knowns.cons kReset Knowns.nil).get
noncomputable def t_home : Con := fun args regs => nfun Tryz.prog [] c_home [] Tryz.f57 args regs
theorem k_home : Known Tryz.prog [] 57 t_home := known_inl Tryz.func57 rfl (by kernel_rfl) mixed kc_home (by kernel_rfl)
theorem home_tree (s : Scr) (R : Out → Prop) : (t_home [.c (.p 0 0 0)] [scr s]).run R = (True ∧ R (done (homeS s))) := by kernel_rfl
noncomputable def tHome : Con := con0 (fun _ => True) homeS
theorem kHome : Known Tryz.prog [] 57 tHome := by
  refine k_home.less fun args regs R h => Box.out ?_
  obtain ⟨s, rfl, rfl, h1, h2⟩ := con0_in h
  exact Box.of_eq (home_tree s R) ⟨h1, h2⟩
def clearS (what : Int) (s : Scr) : Scr := if what = 1 then homeS (wipeRS 1 24 s) else if what = 2 then wipeS s.row s.col 39 s else s
noncomputable def c_clear : FuncId → Option Con := conOf [(81, tWipeR), (82, tWipe), (57, tHome)]
theorem kc_clear : ∀ f T, c_clear f = some T → Known Tryz.prog [] f T := (Knowns.cons kWipeR (Knowns.cons kWipe (Knowns.cons kHome Knowns.nil))).get
noncomputable def t_clear : Con := fun args regs => nfun Tryz.prog [] c_clear [] Tryz.f56 args regs
theorem k_clear : Known Tryz.prog [] 56 t_clear := known_inl Tryz.func56 rfl (by kernel_rfl) mixed kc_clear (by kernel_rfl)
theorem clear_tree (what : Int) (s : Scr) (R : Out → Prop) : (t_clear [.c (.p 0 0 0), .c (.i .i64 what)] [scr s]).run R =
    sel (what == 1) (((0 : Int) ≤ 1 ∧ (24 : Int) ≤ 24) ∧ True ∧ R (done (homeS (wipeRS 1 24 s)))) (sel (what == 2) (((0 ≤ s.row ∧ s.row ≤ 24) ∧ 0 ≤ s.col ∧ (39 : Int) ≤ 39) ∧ R (done (wipeS s.row s.col 39 s))) (R (done s))) := by kernel_rfl
noncomputable def tClear : Con := con1 (fun _ => On) clearS
theorem kClear : Known Tryz.prog [] 56 tClear := by
  refine k_clear.less fun args regs R h => Box.out ?_
  obtain ⟨what, s, rfl, rfl, h1, h2⟩ := con1_in h
  unfold clearS at h2
  refine Box.of_eq (clear_tree what s R) (sel_eq (fun e => ?_) fun e => sel_eq (fun e2 => ?_) fun e2 => ?_)
  · rw [if_pos e] at h2; exact ⟨⟨by omega, by omega⟩, trivial, h2⟩
  · rw [if_neg e, if_pos e2] at h2; exact ⟨⟨h1.1, h1.2.1.1, by omega⟩, h2⟩
  · rw [if_neg e, if_neg e2] at h2; exact h2
def eraRS (how : Int) (s : Scr) : Scr := if how = 0 then wipeS s.row s.col 39 s else if how = 1 then wipeS s.row 0 s.col s else if how = 2 then wipeS s.row 0 39 s else s
noncomputable def t_erar : Con := fun args regs => nfun Tryz.prog [] c_clear [] Tryz.f61 args regs
theorem k_erar : Known Tryz.prog [] 61 t_erar := known_inl Tryz.func61 rfl (by kernel_rfl) mixed kc_clear (by kernel_rfl)
theorem erar_tree (how : Int) (s : Scr) (R : Out → Prop) : (t_erar [.c (.p 0 0 0), .c (.i .i64 how)] [scr s]).run R =
    sel (how == 0) (((0 ≤ s.row ∧ s.row ≤ 24) ∧ 0 ≤ s.col ∧ (39 : Int) ≤ 39) ∧ R (done (wipeS s.row s.col 39 s)))
      (sel (how == 1) (((0 ≤ s.row ∧ s.row ≤ 24) ∧ (0 : Int) ≤ 0 ∧ s.col ≤ 39) ∧ R (done (wipeS s.row 0 s.col s)))
        (sel (how == 2) (((0 ≤ s.row ∧ s.row ≤ 24) ∧ (0 : Int) ≤ 0 ∧ (39 : Int) ≤ 39) ∧ R (done (wipeS s.row 0 39 s))) (R (done s)))) := by kernel_rfl
noncomputable def tEraR : Con := con1 (fun _ => On) eraRS
theorem kEraR : Known Tryz.prog [] 61 tEraR := by
  refine k_erar.less fun args regs R h => Box.out ?_
  obtain ⟨how, s, rfl, rfl, h1, h2⟩ := con1_in h
  unfold eraRS at h2
  refine Box.of_eq (erar_tree how s R) (sel_eq (fun e => ?_) fun e => sel_eq (fun e2 => ?_) fun e2 => sel_eq (fun e3 => ?_) fun e3 => ?_)
  · rw [if_pos e] at h2; exact ⟨⟨h1.1, h1.2.1.1, by omega⟩, h2⟩
  · rw [if_neg e, if_pos e2] at h2; exact ⟨⟨h1.1, by omega, h1.2.1.2⟩, h2⟩
  · rw [if_neg e, if_neg e2, if_pos e3] at h2; exact ⟨⟨h1.1, by omega, by omega⟩, h2⟩
  · rw [if_neg e, if_neg e2, if_neg e3] at h2; exact h2
def eraPS (how : Int) (s : Scr) : Scr := if how = 0 then (if s.row > 0 then eraRS how (wipeRS (s.row + 1) 24 s) else eraRS how s) else if how = 1 then eraRS how (wipeRS 1 (s.row - 1) s) else if how = 2 then wipeRS 1 24 s else s
noncomputable def c_erap : FuncId → Option Con := conOf [(81, tWipeR), (61, tEraR)]
theorem kc_erap : ∀ f T, c_erap f = some T → Known Tryz.prog [] f T := (Knowns.cons kWipeR (Knowns.cons kEraR Knowns.nil)).get
noncomputable def t_erap : Con := fun args regs => nfun Tryz.prog [] c_erap [] Tryz.f60 args regs
theorem k_erap : Known Tryz.prog [] 60 t_erap := known_inl Tryz.func60 rfl (by kernel_rfl) mixed kc_erap (by kernel_rfl)
theorem erap_tree (how : Int) (s : Scr) (R : Out → Prop) : (t_erap [.c (.p 0 0 0), .c (.i .i64 how)] [scr s]).run R =
    sel (how == 0) (sel (decide (s.row > 0)) ((0 ≤ w64 (s.row + 1) ∧ (24 : Int) ≤ 24) ∧ On (wipeRS (w64 (s.row + 1)) 24 s) ∧ R (done (eraRS how (wipeRS (w64 (s.row + 1)) 24 s)))) (On s ∧ R (done (eraRS how s))))
      (sel (how == 1) (((0 : Int) ≤ 1 ∧ w64 (s.row - 1) ≤ 24) ∧ On (wipeRS 1 (w64 (s.row - 1)) s) ∧ R (done (eraRS how (wipeRS 1 (w64 (s.row - 1)) s))))
        (sel (how == 2) (((0 : Int) ≤ 1 ∧ (24 : Int) ≤ 24) ∧ R (done (wipeRS 1 24 s))) (R (done s)))) := by kernel_rfl
noncomputable def tEraP : Con := con1 (fun _ => On) eraPS
theorem kEraP : Known Tryz.prog [] 60 tEraP := by
  refine k_erap.less fun args regs R h => Box.out ?_
  obtain ⟨how, s, rfl, rfl, h1, h2⟩ := con1_in h
  obtain ⟨⟨r0, r1⟩, -⟩ := id h1
  unfold eraPS at h2
  refine Box.of_eq (erap_tree how s R) (sel_eq (fun e => sel_by (fun e2 => ?_) fun e2 => ?_) fun e => sel_eq (fun e2 => ?_) fun e2 => sel_eq (fun e3 => ?_) fun e3 => ?_)
  · rw [if_pos e, if_pos e2] at h2; rw [w64_id (by omega)]; exact ⟨⟨by omega, by omega⟩, h1, h2⟩
  · rw [if_pos e, if_neg e2] at h2; exact ⟨h1, h2⟩
  · rw [if_neg e, if_pos e2] at h2; rw [w64_id (by omega)]; exact ⟨⟨by omega, by omega⟩, h1, h2⟩
  · rw [if_neg e, if_neg e2, if_pos e3] at h2; exact ⟨⟨by omega, by omega⟩, h2⟩
  · rw [if_neg e, if_neg e2, if_neg e3] at h2; exact h2
def goToS (row col : Int) (s : Scr) : Scr := if row < 0 ∨ row > 24 ∨ col < 1 ∨ col > 40 then s else if row = 0 ∧ s.row > 0 then resetS { s with row := row, col := col - 1, kr := s.row, kc := s.col } else resetS { s with row := row, col := col - 1 }
noncomputable def t_goTo : Con := fun args regs => nfun Tryz.prog [] c_home [] Tryz.f58 args regs
theorem k_goTo : Known Tryz.prog [] 58 t_goTo := known_inl Tryz.func58 rfl (by kernel_rfl) mixed kc_home (by kernel_rfl)
theorem goTo_tree (row col : Int) (s : Scr) (R : Out → Prop) : (t_goTo [.c (.p 0 0 0), .c (.i .i64 row), .c (.i .i64 col)] [scr s]).run R =
    sel (decide (row < 0)) (R (done s)) (sel (decide (row > 24)) (R (done s)) (sel (decide (col < 1)) (R (done s)) (sel (decide (col > 40)) (R (done s))
     (sel (row == 0) (sel (decide (s.row > 0)) (True ∧ R (done (resetS { s with row := row, col := w64 (col - 1), kr := s.row, kc := s.col }))) (True ∧ R (done (resetS { s with row := row, col := w64 (col - 1) }))))
      (True ∧ R (done (resetS { s with row := row, col := w64 (col - 1) }))))))) := by kernel_rfl
noncomputable def tGoTo : Con := con2 (fun _ _ _ => True) goToS
theorem kGoTo : Known Tryz.prog [] 58 tGoTo := by
  refine k_goTo.less fun args regs R h => Box.out ?_
  obtain ⟨row, col, s, rfl, rfl, -, h2⟩ := con2_in h
  unfold goToS at h2
  refine Box.of_eq (goTo_tree row col s R) (sel_by (fun a => ?_) fun a => sel_by (fun b => ?_) fun b => sel_by (fun c => ?_) fun c => sel_by (fun d => ?_) fun d => ?_)
  · rw [if_pos (.inl a)] at h2; exact h2
  · rw [if_pos (.inr (.inl b))] at h2; exact h2
  · rw [if_pos (.inr (.inr (.inl c)))] at h2; exact h2
  · rw [if_pos (.inr (.inr (.inr d)))] at h2; exact h2
  · rw [if_neg (by omega)] at h2
    rw [w64_id (by omega)]
    refine sel_eq (fun e => sel_by (fun f => ?_) fun f => ?_) fun e => ?_
    · rw [if_pos ⟨e, f⟩] at h2; exact ⟨trivial, h2⟩
    · rw [if_neg (fun x => f x.2)] at h2; exact ⟨trivial, h2⟩
    · rw [if_neg (fun x => e x.1)] at h2; exact ⟨trivial, h2⟩
theorem goToS_on {row col : Int} {s : Scr} (h : On s) : On (goToS row col s) := by
  obtain ⟨h1, h2, h3, h4⟩ := h
  unfold goToS
  split
  · exact ⟨h1, h2, h3, h4⟩
  · split
    · exact ⟨⟨by show 0 ≤ row; omega, by show row ≤ 24; omega⟩, ⟨by show 0 ≤ col - 1; omega, by show col - 1 ≤ 39; omega⟩, h1, h2⟩
    · exact ⟨⟨by show 0 ≤ row; omega, by show row ≤ 24; omega⟩, ⟨by show 0 ≤ col - 1; omega, by show col - 1 ≤ 39; omega⟩, h3, h4⟩
theorem wipeRS_on {a b : Int} {s : Scr} (h : On s) : On (wipeRS a b s) := h
theorem wipeS_on {a b c : Int} {s : Scr} (h : On s) : On (wipeS a b c s) := h
theorem homeS_on {s : Scr} (h : On s) : On (homeS s) := ⟨⟨by show (0 : Int) ≤ 1; omega, by show (1 : Int) ≤ 24; omega⟩, ⟨by show (0 : Int) ≤ 0; omega, by show (0 : Int) ≤ 39; omega⟩, h.2.2⟩
theorem clearS_on {what : Int} {s : Scr} (h : On s) : On (clearS what s) := by
  unfold clearS
  split
  · exact homeS_on (wipeRS_on h)
  · split
    · exact wipeS_on h
    · exact h
theorem eraRS_on {how : Int} {s : Scr} (h : On s) : On (eraRS how s) := by
  unfold eraRS
  split
  · exact wipeS_on h
  · split
    · exact wipeS_on h
    · split
      · exact wipeS_on h
      · exact h
theorem eraPS_on {how : Int} {s : Scr} (h : On s) : On (eraPS how s) := by
  unfold eraPS
  split
  · split
    · exact eraRS_on (wipeRS_on h)
    · exact eraRS_on h
  · split
    · exact eraRS_on (wipeRS_on h)
    · split
      · exact wipeRS_on h
      · exact h
end Go.Proofs.YtdijbpokklgjlaaGreatDoor.scr
