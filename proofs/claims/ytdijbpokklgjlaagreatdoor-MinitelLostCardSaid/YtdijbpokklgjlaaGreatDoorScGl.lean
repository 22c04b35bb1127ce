/-
  Glyphs: mset.Char, mset.Join by value.
-/
import Derived.Test.YtdijbpokklgjlaaGreatDoorScD
set_option linter.unusedVariables false
namespace Go.Proofs.YtdijbpokklgjlaaGreatDoor.scr
open Go Go.Nx
set_option maxRecDepth 100000

noncomputable def t_plain0 : Con := fun args regs => nfun Tryz.prog [] (fun _ => Option.none) [] Tryz.f112 args regs
theorem k_plain0 : Known Tryz.prog [] 112 t_plain0 := known_inl Tryz.func112 rfl (by kernel_rfl) mixed con_none (by kernel_rfl)
noncomputable def t_french : Con := fun args regs => nfun Tryz.prog [] (fun _ => Option.none) [] Tryz.f113 args regs
theorem k_french : Known Tryz.prog [] 113 t_french := known_inl Tryz.func113 rfl (by kernel_rfl) mixed con_none (by kernel_rfl)
noncomputable def t_mglyph : Con := fun args regs => nfun Tryz.prog [] (fun _ => Option.none) [] Tryz.f49 args regs
theorem k_mglyph : Known Tryz.prog [] 49 t_mglyph := known_inl Tryz.func49 rfl (by kernel_rfl) mixed con_none (by kernel_rfl)
noncomputable def X_special : Cx := { P := Tryz.prog, con := (fun _ => Option.none), glob := [], m := 0, loops := [] }
noncomputable def t_special : Con := fun args regs => if regs.length = 0 then nfun Tryz.prog [] (fun _ => Option.none) [(0, [0, 5, 10, 11, 12], unroll X_special 0 [0, 5, 10, 11, 12] [2, 3] (bodyLoop Tryz.f114 0) 18)] Tryz.f114 args regs else .fail
theorem k_special : Known Tryz.prog [] 114 t_special := known_loops 0 Tryz.func114 rfl (by kernel_rfl) mixed con_none (LAll.one (id := 0) (body := bodyLoop Tryz.f114 0) (by kernel_rfl) rfl (unroll_ok (X := X_special) con_none mixed (LAll.none (by kernel_rfl)) [0, 5, 10, 11, 12] [2, 3] 18))
noncomputable def t_amore : Con := fun args regs => nfun Tryz.prog [] (fun _ => Option.none) [] Tryz.f116 args regs
theorem k_amore : Known Tryz.prog [] 116 t_amore := known_inl Tryz.func116 rfl (by kernel_rfl) mixed con_none (by kernel_rfl)
noncomputable def c_apairs : FuncId → Option Con := conOf [(116, t_amore)]
theorem kc_apairs : ∀ f T, c_apairs f = some T → Known Tryz.prog [] f T := (Knowns.cons k_amore Knowns.nil).get
noncomputable def t_apairs : Con := fun args regs => nfun Tryz.prog [] c_apairs [] Tryz.f115 args regs
theorem k_apairs : Known Tryz.prog [] 115 t_apairs := known_inl Tryz.func115 rfl (by kernel_rfl) mixed kc_apairs (by kernel_rfl)
noncomputable def t_lplain : Con := fun args regs => nfun Tryz.prog [] (fun _ => Option.none) [] Tryz.f111 args regs
theorem k_lplain : Known Tryz.prog [] 111 t_lplain := known_inl Tryz.func111 rfl (by kernel_rfl) mixed con_none (by kernel_rfl)
noncomputable def c_ajoin : FuncId → Option Con := conOf [(115, t_apairs), (111, t_lplain)]
theorem kc_ajoin : ∀ f T, c_ajoin f = some T → Known Tryz.prog [] f T := (Knowns.cons k_apairs (Knowns.cons k_lplain Knowns.nil)).get
noncomputable def X_ajoin : Cx := { P := Tryz.prog, con := c_ajoin, glob := [], m := 0, loops := [] }
noncomputable def t_ajoin : Con := fun args regs => if regs.length = 0 then nfun Tryz.prog [] c_ajoin [(0, [0, 1, 16, 17, 18], unroll X_ajoin 0 [0, 1, 16, 17, 18] [0, 1, 4] (bodyLoop Tryz.f110 0) 22)] Tryz.f110 args regs else .fail
theorem k_ajoin : Known Tryz.prog [] 110 t_ajoin := known_loops 0 Tryz.func110 rfl (by kernel_rfl) mixed kc_ajoin (LAll.one (id := 0) (body := bodyLoop Tryz.f110 0) (by kernel_rfl) rfl (unroll_ok (X := X_ajoin) kc_ajoin mixed (LAll.none (by kernel_rfl)) [0, 1, 16, 17, 18] [0, 1, 4] 22))
noncomputable def t_maccent : Con := fun args regs => nfun Tryz.prog [] (fun _ => Option.none) [] Tryz.f109 args regs
theorem k_maccent : Known Tryz.prog [] 109 t_maccent := known_inl Tryz.func109 rfl (by kernel_rfl) mixed con_none (by kernel_rfl)
noncomputable def c_mchar : FuncId → Option Con := conOf [(112, t_plain0), (113, t_french), (49, t_mglyph), (114, t_special)]
theorem kc_mchar : ∀ f T, c_mchar f = some T → Known Tryz.prog [] f T := (Knowns.cons k_plain0 (Knowns.cons k_french (Knowns.cons k_mglyph (Knowns.cons k_special Knowns.nil)))).get
noncomputable def t_mchar : Con := fun args regs => nfun Tryz.prog [] c_mchar [] Tryz.f107 args regs
theorem k_mchar : Known Tryz.prog [] 107 t_mchar := known_inl Tryz.func107 rfl (by kernel_rfl) mixed kc_mchar (by kernel_rfl)

def gO (n : Int) : Out := ⟨.v (.c (.i .i64 n)), []⟩
theorem sel_val {c : Bool} {R : Int → Prop} {a b : Int} {A B : Prop} (h : R (bif c then a else b)) (ha : R a → A) (hb : R b → B) : sel c A B := by
  cases c
  · exact selF rfl (hb h)
  · exact selT rfl (ha h)
/-! ### choices by a list -/
def valP (ps : List (Int × Int)) (c : Int) (V : Int → Int) (d : Int) : Int := ps.foldr (fun p r => bif p.1 == c then V p.2 else r) d
def runP (ps : List (Int × Int)) (c : Int) (K : Int → Prop) (E : Prop) : Prop := ps.foldr (fun p r => sel (p.1 == c) (K p.2) r) E
theorem runP_in {R : Int → Prop} {c : Int} {V : Int → Int} {d : Int} {K : Int → Prop} {E : Prop} (hK : ∀ g, R (V g) → K g) (hE : R d → E) : ∀ {ps : List (Int × Int)}, R (valP ps c V d) → runP ps c K E
  | [], h => hE h
  | p :: ps, h => sel_val (R := R) (c := p.1 == c) (a := V p.2) (b := valP ps c V d) h (hK p.2) (fun h => runP_in hK hE h)
def valQ (ps : List (Int × Int)) (c : Int) (d : Int) : Int := ps.foldr (fun p r => bif c == p.1 then p.2 else r) d
def runQ (ps : List (Int × Int)) (c : Int) (K : Int → Prop) (E : Prop) : Prop := ps.foldr (fun p r => sel (c == p.1) (K p.2) r) E
theorem runQ_in {R : Int → Prop} {c : Int} {d : Int} {E : Prop} (hE : R d → E) : ∀ {ps : List (Int × Int)}, R (valQ ps c d) → runQ ps c R E
  | [], h => hE h
  | p :: ps, h => sel_val (R := R) (c := c == p.1) (a := p.2) (b := valQ ps c d) h id (fun h => runQ_in hE h)

/-! ### a sign of a set -/
def ps0 : List (Int × Int) := [(94, 8593), (96, 9472), (123, 9615), (125, 9621), (126, 9620), (127, 9632)]
def ps2 : List (Int × Int) := [(0x23, 0xa3), (0x24, 0x24), (0x26, 0x23), (0x27, 0xa7), (0x2c, 0x2190), (0x2d, 0x2191), (0x2e, 0x2192), (0x2f, 0x2193), (0x30, 0xb0), (0x31, 0xb1), (0x38, 0xf7), (0x3c, 0xbc), (0x3d, 0xbd), (0x3e, 0xbe), (0x6a, 0x152), (0x7a, 0x153), (0x7b, 0xdf)]
def b7 (l : Int) : Int := bits .and .u8 l 127
def mos1 (x : Int) : Int := bits .or .i64 1048576 (bits .and .i64 (bits .or .i64 (w64 (bits .and .u8 x 31)) 32) 63)
def mos0 (x : Int) : Int := bits .or .i64 1048576 (bits .and .i64 (w64 (bits .and .u8 x 31)) 63)
def chV (set l : Int) : Int := bif decide (b7 l < 32) then 32 else bif set == 0 then valQ ps0 (b7 l) (w64 (b7 l)) else
  bif set == 1 then (bif decide (b7 (b7 l) < 32) then 1048576 else bif bits .and .u8 (b7 (b7 l)) 64 != 0 then mos1 (b7 (b7 l)) else mos0 (b7 (b7 l))) else
  bif set == 2 then valP ps2 (b7 (b7 l)) id 9632 else 32
theorem char_tree (set l : Int) (R : Out → Prop) : (t_mchar [.c (.i .i64 set), .c (.i .u8 l), .c (.b false)] []).run R =
    sel (decide (b7 l < 32)) (R (gO 32)) (sel (set == 0) (runQ ps0 (b7 l) (fun g => R (gO g)) (R (gO (w64 (b7 l))))) (sel (set == 1)
      (sel (decide (b7 (b7 l) < 32)) (R (gO 1048576)) (sel (bits .and .u8 (b7 (b7 l)) 64 != 0) (R (gO (mos1 (b7 (b7 l))))) (R (gO (mos0 (b7 (b7 l)))))))
      (sel (set == 2) (runP ps2 (b7 (b7 l)) (fun g => R (gO g)) (R (gO 9632))) (R (gO 32))))) := by kernel_rfl
noncomputable def tChar : Con := fun args regs => match args, regs with
  | [.c (.i .i64 set), .c (.i .u8 l), .c (.b false)], [] => .ret (gO (chV set l))
  | _, _ => .fail
theorem kChar : Known Tryz.prog [] 107 tChar := by
  refine k_mchar.less fun args regs R h => Box.out ?_
  unfold tChar at h
  split at h
  case h_2 => exact h.elim
  rename_i set l
  have h : (fun n => R (gO n)) (chV set l) := h
  unfold chV at h
  have sv := fun {c : Bool} {a b : Int} {A B : Prop} => @sel_val c (fun n => R (gO n)) a b A B
  refine Box.of_eq (char_tree set l R) (sv h id fun h => sv h (fun h => runQ_in (R := fun n => R (gO n)) id h) fun h => sv h (fun h => sv h id fun h => sv h id id) fun h => sv h (fun h => runP_in (R := fun n => R (gO n)) (V := id) (fun g h => h) id h) id)

/-! ### a letter with a mark -/
def accC (m : Int) : Nat := bif b7 m == 65 then 1 else bif b7 m == 66 then 2 else bif b7 m == 67 then 3 else bif b7 m == 72 then 4 else bif b7 m == 75 then 5 else 0
def accN (j : Nat) : Int := [0, 1, 2, 3, 8, 11].getD j 0
def accB (j : Nat) : Bool := [false, true, true, true, true, true].getD j false
def accO (n : Int) (b : Bool) : Out := ⟨.tu [.c (.i .i64 n), .c (.b b)], []⟩
theorem acc_tree (m : Int) (R : Out → Prop) : (t_maccent [.c (.i .u8 m)] []).run R =
    (let K := R (accO (w64 (bits .and .u8 (b7 m) 15)) true)
     sel (b7 m == 65) K (sel (b7 m == 66) K (sel (b7 m == 67) K (sel (b7 m == 72) K (sel (b7 m == 75) K (R (accO 0 false))))))) := by kernel_rfl
noncomputable def tAccJ (j : Nat) : Con := fun args regs => match args, regs with
  | [.c (.i .u8 m)], [] => .must (accC m = j) (.ret (accO (accN j) (accB j)))
  | _, _ => .fail
theorem kAccJ (j : Nat) : Known Tryz.prog [] 109 (tAccJ j) := by
  refine k_maccent.less fun args regs R h => Box.out ?_
  unfold tAccJ at h
  split at h
  case h_2 => exact h.elim
  rename_i m
  obtain ⟨hj, h⟩ := h
  have h : R (accO (accN j) (accB j)) := h
  subst hj
  unfold accC at h
  have key : ∀ {v : Int} {n : Nat}, b7 m = v → w64 (bits .and .u8 v 15) = accN n → accB n = true → R (accO (accN n) (accB n)) → R (accO (w64 (bits .and .u8 (b7 m) 15)) true) := fun e1 e2 e3 h => by
    rw [e1, e2, ← e3]; exact h
  refine Box.of_eq (acc_tree m R) (sel_eq (fun e => ?_) fun e1 => sel_eq (fun e => ?_) fun e2 => sel_eq (fun e => ?_) fun e3 => sel_eq (fun e => ?_) fun e4 => sel_eq (fun e => ?_) fun e5 => ?_)
  · rw [bT e] at h; exact key (n := 1) e (by decide +kernel) rfl h
  · rw [bF e1, bT e] at h; exact key (n := 2) e (by decide +kernel) rfl h
  · rw [bF e1, bF e2, bT e] at h; exact key (n := 3) e (by decide +kernel) rfl h
  · rw [bF e1, bF e2, bF e3, bT e] at h; exact key (n := 4) e (by decide +kernel) rfl h
  · rw [bF e1, bF e2, bF e3, bF e4, bT e] at h; exact key (n := 5) e (by decide +kernel) rfl h
  · rw [bF e1, bF e2, bF e3, bF e4, bF e5] at h; exact h
def psA (j : Nat) : List (Int × Int) := match j with
  | 1 => [(65, 0xc0), (69, 0xc8), (73, 0xcc), (79, 0xd2), (85, 0xd9), (97, 0xe0), (101, 0xe8), (105, 0xec), (111, 0xf2), (117, 0xf9)]
  | 2 => [(65, 0xc1), (69, 0xc9), (73, 0xcd), (79, 0xd3), (85, 0xda), (89, 0xdd), (67, 0x106), (78, 0x143), (83, 0x15a), (90, 0x179), (97, 0xe1), (101, 0xe9), (105, 0xed), (111, 0xf3), (117, 0xfa), (121, 0xfd), (99, 0x107), (110, 0x144), (115, 0x15b), (122, 0x17a)]
  | 3 => [(65, 0xc2), (69, 0xca), (73, 0xce), (79, 0xd4), (85, 0xdb), (97, 0xe2), (101, 0xea), (105, 0xee), (111, 0xf4), (117, 0xfb)]
  | 4 => [(65, 0xc4), (69, 0xcb), (73, 0xcf), (79, 0xd6), (85, 0xdc), (97, 0xe4), (101, 0xeb), (105, 0xef), (111, 0xf6), (117, 0xfc), (121, 0xff)]
  | 5 => [(67, 0xc7), (83, 0x15e), (84, 0x162), (99, 0xe7), (115, 0x15f), (116, 0x163)]
  | _ => []
def plV (x : Int) (K : Int → Int) : Int := bif decide (x < 32) then K 32 else bif x == 127 then K 9632 else K (w64 x)
def plR (x : Int) (K : Int → Prop) : Prop := sel (decide (x < 32)) (K 32) (sel (x == 127) (K 9632) (K (w64 x)))
theorem plR_in {R : Int → Prop} {x : Int} {V : Int → Int} {K : Int → Prop} (hK : ∀ p, R (V p) → K p) (h : R (plV x V)) : plR x K :=
  sel_val h (hK _) fun h => sel_val h (hK _) (hK _)
def aftV (l g : Int) : Int := plV (b7 l) fun p => bif g != p then g else chV 0 l
def jnV (j : Nat) (l : Int) : Int := match j with
  | 0 => chV 0 l
  | j => valP (psA j) (b7 l) (aftV l) (plV (b7 (b7 l)) (aftV l))
noncomputable def c_joinJ (j : Nat) : FuncId → Option Con := conOf [(109, tAccJ j), (110, t_ajoin), (111, t_lplain), (107, tChar)]
theorem kc_joinJ (j : Nat) : ∀ f T, c_joinJ j f = some T → Known Tryz.prog [] f T := (Knowns.cons (kAccJ j) (Knowns.cons k_ajoin (Knowns.cons k_lplain (Knowns.cons kChar Knowns.nil)))).get
noncomputable def t_joinJ (j : Nat) : Con := fun args regs => nfun Tryz.prog [] (c_joinJ j) [] Tryz.f106 args regs
theorem k_joinJ (j : Nat) : Known Tryz.prog [] 106 (t_joinJ j) := known_inl Tryz.func106 rfl (by kernel_rfl) mixed (kc_joinJ j) (by kernel_rfl)
def aftR (l g : Int) (R : Out → Prop) : Prop := plR (b7 l) fun p => sel (g != p) (R (gO g)) (R (gO (chV 0 l)))
def tailR (l : Int) (R : Out → Prop) : Prop := plR (b7 (b7 l)) fun g => aftR l g R
def joinR (j : Nat) (m l : Int) (R : Out → Prop) : Prop := accC m = j ∧ runP (psA j) (b7 l) (fun g => aftR l g R) (sel (b7 l == 42) (tailR l R) (tailR l R))
theorem join_0 (m l : Int) (R : Out → Prop) : (t_joinJ 0 [.c (.i .u8 m), .c (.i .u8 l)] []).run R = (accC m = 0 ∧ R (gO (chV 0 l))) := by kernel_rfl
theorem join_1 (m l : Int) (R : Out → Prop) : (t_joinJ 1 [.c (.i .u8 m), .c (.i .u8 l)] []).run R = joinR 1 m l R := by kernel_rfl
theorem join_2 (m l : Int) (R : Out → Prop) : (t_joinJ 2 [.c (.i .u8 m), .c (.i .u8 l)] []).run R = joinR 2 m l R := by kernel_rfl
theorem join_3 (m l : Int) (R : Out → Prop) : (t_joinJ 3 [.c (.i .u8 m), .c (.i .u8 l)] []).run R = joinR 3 m l R := by kernel_rfl
theorem join_4 (m l : Int) (R : Out → Prop) : (t_joinJ 4 [.c (.i .u8 m), .c (.i .u8 l)] []).run R = joinR 4 m l R := by kernel_rfl
theorem join_5 (m l : Int) (R : Out → Prop) : (t_joinJ 5 [.c (.i .u8 m), .c (.i .u8 l)] []).run R = joinR 5 m l R := by kernel_rfl
theorem accC_lt (m : Int) : accC m ≤ 5 := by
  unfold accC
  cases (b7 m == 65) <;> cases (b7 m == 66) <;> cases (b7 m == 67) <;> cases (b7 m == 72) <;> cases (b7 m == 75) <;> decide
theorem aft_in {l g : Int} {R : Out → Prop} (h : R (gO (aftV l g))) : aftR l g R :=
  plR_in (R := fun n => R (gO n)) (V := fun p => bif g != p then g else chV 0 l) (fun p h => sel_val (R := fun n => R (gO n)) h id id) h
theorem tail_in {l : Int} {R : Out → Prop} (h : R (gO (plV (b7 (b7 l)) (aftV l)))) : tailR l R :=
  plR_in (R := fun n => R (gO n)) (V := aftV l) (fun g h => aft_in h) h
theorem join_in {j : Nat} {m l : Int} {R : Out → Prop} (hj : accC m = j) (h : R (gO (valP (psA j) (b7 l) (aftV l) (plV (b7 (b7 l)) (aftV l))))) : joinR j m l R :=
  ⟨hj, runP_in (R := fun n => R (gO n)) (V := aftV l) (fun g h => aft_in h) (fun h => sel_b (fun _ => tail_in h) fun _ => tail_in h) h⟩
theorem Known_pickG {P : Program} {gl : List Nat} {f : FuncId} {ι : Type} {T : ι → Con} (h : ∀ i, Known P gl f (T i)) (p : List NV → List Reg → ι) (i0 : ι) : Known P gl f fun args regs => T (p args regs) args regs :=
  ⟨(h i0).goes, fun args regs R hR => (h (p args regs)).sound args regs R hR⟩
def pickJ : List NV → List Reg → Nat
  | .c (.i _ m) :: _, _ => accC m
  | _, _ => 0
noncomputable def tMJoin : Con := fun args regs => match args, regs with
  | [.c (.i .u8 m), .c (.i .u8 l)], [] => .ret (gO (jnV (accC m) l))
  | _, _ => .fail
theorem kMJoin : Known Tryz.prog [] 106 tMJoin := by
  refine (Known_pickG k_joinJ pickJ 0).less fun args regs R h => Box.out ?_
  unfold tMJoin at h
  split at h
  case h_2 => exact h.elim
  rename_i m l
  have h : R (gO (jnV (accC m) l)) := h
  refine ⟨?_⟩
  show (t_joinJ (accC m) [.c (.i .u8 m), .c (.i .u8 l)] []).run R
  have hb := accC_lt m
  generalize hj : accC m = j at h hb ⊢
  refine Box.out ?_
  match j, hb, h with
  | 0, _, h => exact Box.of_eq (join_0 m l R) ⟨hj, h⟩
  | 1, _, h => exact Box.of_eq (join_1 m l R) (join_in hj h)
  | 2, _, h => exact Box.of_eq (join_2 m l R) (join_in hj h)
  | 3, _, h => exact Box.of_eq (join_3 m l R) (join_in hj h)
  | 4, _, h => exact Box.of_eq (join_4 m l R) (join_in hj h)
  | 5, _, h => exact Box.of_eq (join_5 m l R) (join_in hj h)
  | j + 6, hb, _ => exact absurd hb (by omega)
/-! ### none is below a blank -/
theorem u8_fin (x : Int) (h : 0 ≤ x ∧ x ≤ 255) : ∃ i : Fin 256, x = ((i.val : Nat) : Int) := ⟨⟨x.toNat, by omega⟩, by simp; omega⟩
theorem chV_ge (set l : Int) (h : 0 ≤ l ∧ l ≤ 255) : 32 ≤ chV set l := by
  obtain ⟨i, rfl⟩ := u8_fin l h
  have k0 : ∀ i : Fin 256, 32 ≤ chV 0 ((i.val : Nat) : Int) := by decide +kernel
  have k1 : ∀ i : Fin 256, 32 ≤ chV 1 ((i.val : Nat) : Int) := by decide +kernel
  have k2 : ∀ i : Fin 256, 32 ≤ chV 2 ((i.val : Nat) : Int) := by decide +kernel
  by_cases h0 : set = 0
  · rw [h0]; exact k0 i
  by_cases h1 : set = 1
  · rw [h1]; exact k1 i
  by_cases h2 : set = 2
  · rw [h2]; exact k2 i
  unfold chV
  rw [bF h0, bF h1, bF h2]
  cases decide (b7 ((i.val : Nat) : Int) < 32) <;> (show (32 : Int) ≤ 32; omega)
theorem jnV_ge (m l : Int) (h : 0 ≤ l ∧ l ≤ 255) : 32 ≤ jnV (accC m) l := by
  obtain ⟨i, rfl⟩ := u8_fin l h
  have k0 : ∀ i : Fin 256, 32 ≤ jnV 0 ((i.val : Nat) : Int) := by decide +kernel
  have k1 : ∀ i : Fin 256, 32 ≤ jnV 1 ((i.val : Nat) : Int) := by decide +kernel
  have k2 : ∀ i : Fin 256, 32 ≤ jnV 2 ((i.val : Nat) : Int) := by decide +kernel
  have k3 : ∀ i : Fin 256, 32 ≤ jnV 3 ((i.val : Nat) : Int) := by decide +kernel
  have k4 : ∀ i : Fin 256, 32 ≤ jnV 4 ((i.val : Nat) : Int) := by decide +kernel
  have k5 : ∀ i : Fin 256, 32 ≤ jnV 5 ((i.val : Nat) : Int) := by decide +kernel
  have hb := accC_lt m
  generalize accC m = j at hb ⊢
  match j, hb with
  | 0, _ => exact k0 i
  | 1, _ => exact k1 i
  | 2, _ => exact k2 i
  | 3, _ => exact k3 i
  | 4, _ => exact k4 i
  | 5, _ => exact k5 i
  | j + 6, hb => exact absurd hb (by omega)
end Go.Proofs.YtdijbpokklgjlaaGreatDoor.scr
