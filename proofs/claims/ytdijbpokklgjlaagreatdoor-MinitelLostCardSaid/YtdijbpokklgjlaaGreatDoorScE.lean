/-
  The screen: glyphs; what a sign lays.
-/
import Derived.Test.YtdijbpokklgjlaaGreatDoorScGl
set_option linter.unusedVariables false
namespace Go.Proofs.YtdijbpokklgjlaaGreatDoor.scr
open Go Go.Nx
set_option maxRecDepth 100000

noncomputable def t_mof : Con := fun args regs => nfun Tryz.prog [] (fun _ => Option.none) [] Tryz.f48 args regs
theorem k_mof : Known Tryz.prog [] 48 t_mof := known_inl Tryz.func48 rfl (by kernel_rfl) mixed con_none (by kernel_rfl)
/-- An event. -/
structure Ev where
  k : Int
  a : Int
  b : Int
  c : Int
  d : Int
  set : Int
  code : Int
def evC (e : Ev) : List NC := [.i .i64 e.k, .i .i64 e.a, .i .i64 e.b, .i .i64 e.c, .i .i64 e.d, .i .i64 e.set, .i .i64 e.code]
/-- A sign's glyph. -/
def gvE (e : Ev) : Int := bif e.set == 2 then bif e.a != 0 then jnV (accC (IntKind.u8.wrap e.a)) (IntKind.u8.wrap e.code) else chV e.set (IntKind.u8.wrap e.code) else chV e.set (IntKind.u8.wrap e.code)
def GoodE (_ : Ev) : Prop := True
noncomputable def c_glyph : FuncId → Option Con := conOf [(106, tMJoin), (107, tChar)]
theorem kc_glyph : ∀ f T, c_glyph f = some T → Known Tryz.prog [] f T := (Knowns.cons kMJoin (Knowns.cons kChar Knowns.nil)).get
noncomputable def t_glyph : Con := fun args regs => nfun Tryz.prog [] c_glyph [] Tryz.f99 args regs
theorem k_glyph : Known Tryz.prog [] 99 t_glyph := known_inl Tryz.func99 rfl (by kernel_rfl) mixed kc_glyph (by kernel_rfl)
theorem glyph_tree (e : Ev) (R : Out → Prop) : (t_glyph [.ag (evC e)] []).run R =
    sel (e.set == 2) (sel (e.a != 0) (R (gO (jnV (accC (IntKind.u8.wrap e.a)) (IntKind.u8.wrap e.code)))) (R (gO (chV e.set (IntKind.u8.wrap e.code))))) (R (gO (chV e.set (IntKind.u8.wrap e.code)))) := by kernel_rfl
def c7 (code : Int) : Int := bits .and .u8 (IntKind.u8.wrap code) 127
def c77 (code : Int) : Int := bits .and .u8 (c7 code) 127
def plainG (code : Int) : Int := bif decide (c7 code < 32) then 32 else bif c7 code == 94 then 0x2191 else bif c7 code == 96 then 0x2500 else bif c7 code == 123 then 0x258f else bif c7 code == 125 then 0x2595 else bif c7 code == 126 then 0x2594 else bif c7 code == 127 then 0x25a0 else w64 (c7 code)
theorem gvE_0 {e : Ev} (h : e.set = 0) : GoodE e ∧ gvE e = plainG e.code := by
  refine ⟨trivial, ?_⟩
  unfold gvE
  rw [h]
  rfl
theorem gvE_ge (e : Ev) : 32 ≤ gvE e := by
  have hw : ∀ x : Int, 0 ≤ IntKind.u8.wrap x ∧ IntKind.u8.wrap x ≤ 255 := fun x => by rw [IntKind.wrap_u8]; omega
  unfold gvE
  cases (e.set == 2) <;> cases (e.a != 0)
  · exact chV_ge _ _ (hw _)
  · exact chV_ge _ _ (hw _)
  · exact chV_ge _ _ (hw _)
  · exact jnV_ge _ _ (hw _)
/-- A function that is handed an event. -/
noncomputable def onE (l : List NV) (F : Ev → Tr Out) : Tr Out := match l with
  | [.ag [.i .i64 k, .i .i64 a, .i .i64 b, .i .i64 c, .i .i64 d, .i .i64 set, .i .i64 code]] => F ⟨k, a, b, c, d, set, code⟩
  | _ => .fail
theorem onE_in {l : List NV} {F : Ev → Tr Out} {R : Out → Prop} (h : (onE l F).run R) : ∃ e, l = [.ag (evC e)] ∧ (F e).run R := by
  unfold onE at h
  split at h
  case h_2 => exact h.elim
  exact ⟨_, rfl, h⟩
noncomputable def tGlyph : Con := fun args regs => match regs with
  | [] => onE args fun e => .must (GoodE e) (.ret (gO (gvE e)))
  | _ => .fail
theorem kGlyph : Known Tryz.prog [] 99 tGlyph := by
  refine k_glyph.less fun args regs R h => Box.out ?_
  unfold tGlyph at h
  split at h
  case h_2 => exact h.elim
  obtain ⟨e, rfl, h'⟩ := onE_in h
  have h' : (fun n => R (gO n)) (gvE e) := h'.2
  unfold gvE at h'
  have sv := fun {c : Bool} {a b : Int} {A B : Prop} => @sel_val c (fun n => R (gO n)) a b A B
  exact Box.of_eq (glyph_tree e R) (sv h' (fun h => sv h id id) id)
/-- Is a glyph a mosaic's? -/
def isMos (g : Int) : Bool := !(decide (w64 (g - 1048576) < 0)) && !(decide (w64 (g - 1048576) ≥ 128))
noncomputable def patV (g : Int) : Int := bits .and .i64 (w64 (g - 1048576)) 63
noncomputable def parV (g : Int) : Bool := bits .and .i64 (w64 (g - 1048576)) 64 != 0
theorem of_tree (g : Int) (R : Out → Prop) : (t_mof [.c (.i .i64 g)] []).run R =
    sel (decide (w64 (g - 1048576) < 0)) (R ⟨.tu [.c (.i .i64 0), .c (.b false), .c (.b false)], []⟩) (sel (decide (w64 (g - 1048576) ≥ 128)) (R ⟨.tu [.c (.i .i64 0), .c (.b false), .c (.b false)], []⟩)
      (R ⟨.tu [.c (.i .i64 (patV g)), .c (.b (parV g)), .c (.b true)], []⟩)) := by kernel_rfl
noncomputable def tOf : Con := fun args regs => match args, regs with
  | [.c (.i .i64 g)], [] => .br (isMos g) (.ret ⟨.tu [.c (.i .i64 (patV g)), .c (.b (parV g)), .c (.b true)], []⟩) (.ret ⟨.tu [.c (.i .i64 0), .c (.b false), .c (.b false)], []⟩)
  | _, _ => .fail
theorem kOf : Known Tryz.prog [] 48 tOf := by
  refine k_mof.less fun args regs R h => Box.out ?_
  unfold tOf at h
  split at h
  case h_2 => exact h.elim
  rename_i g
  refine Box.of_eq (of_tree g R) ?_
  have h2 : sel (isMos g) (R ⟨.tu [.c (.i .i64 (patV g)), .c (.b (parV g)), .c (.b true)], []⟩) (R ⟨.tu [.c (.i .i64 0), .c (.b false), .c (.b false)], []⟩) := h
  clear h
  unfold isMos at h2
  refine sel_by (fun e => ?_) fun e => sel_by (fun e2 => ?_) fun e2 => ?_
  · rw [dT e] at h2; exact h2
  · rw [dF e, dT e2] at h2; exact h2
  · rw [dF e, dF e2] at h2; exact h2

/-! ### a slot -/
def space (e : Ev) : Bool := e.set == 0 && bits .and .i64 e.code 127 == 32
noncomputable def marks (s : Scr) (e : Ev) : Bool := s.wt && (isMos (gvE e) || space e)
noncomputable def slotR (s : Scr) (e : Ev) : List Sc := [.i (gvE e), .i s.fg, .b s.fl, .b s.iv, .i 0, .i 0, .b (marks s e), .i (if (isMos (gvE e) || marks s e) = true then s.bg else 0), .b (marks s e && s.un), .b (marks s e && s.co)]
noncomputable def slotS (s : Scr) (e : Ev) : Scr := { s with wt := s.wt && !marks s e }
noncomputable def c_slot : FuncId → Option Con := conOf [(99, tGlyph), (48, tOf)]
theorem kc_slot : ∀ f T, c_slot f = some T → Known Tryz.prog [] f T := (Knowns.cons kGlyph (Knowns.cons kOf Knowns.nil)).get
noncomputable def t_slot : Con := fun args regs => nfun Tryz.prog [] c_slot [] Tryz.f75 args regs
theorem k_slot : Known Tryz.prog [] 75 t_slot := known_inl Tryz.func75 rfl (by kernel_rfl) mixed kc_slot (by kernel_rfl)
noncomputable def sO (g fg : Int) (fl iv mk : Bool) (bg : Int) (un co : Bool) (s : Scr) : Out := ⟨.v (.ag (rowCells KS [.i g, .i fg, .b fl, .b iv, .i 0, .i 0, .b mk, .i bg, .b un, .b co])), [some (scr s)]⟩
theorem slot_tree (s : Scr) (e : Ev) (R : Out → Prop) : (t_slot [.c (.p 0 0 0), .ag (evC e)] [scr s]).run R = (GoodE e ∧
    sel (isMos (gvE e)) (sel s.wt (R (sO (gvE e) s.fg s.fl s.iv true s.bg s.un s.co { s with wt := false })) (R (sO (gvE e) s.fg s.fl s.iv false s.bg false false s)))
      (sel s.wt (sel (e.set == 0) (sel (bits .and .i64 e.code 127 == 32) (R (sO (gvE e) s.fg s.fl s.iv true s.bg s.un s.co { s with wt := false })) (R (sO (gvE e) s.fg s.fl s.iv false 0 false false s)))
        (R (sO (gvE e) s.fg s.fl s.iv false 0 false false s))) (R (sO (gvE e) s.fg s.fl s.iv false 0 false false s)))) := by kernel_rfl
noncomputable def tSlot : Con := fun args regs => onS args regs fun l s => onE l fun e => .must (GoodE e) (.ret ⟨.v (.ag (rowCells KS (slotR s e))), [some (scr (slotS s e))]⟩)
set_option maxRecDepth 100000 in
theorem kSlot : Known Tryz.prog [] 75 tSlot := by
  refine k_slot.less fun args regs R h => Box.out ?_
  obtain ⟨l, s, rfl, rfl, h'⟩ := onS_in h
  clear h
  obtain ⟨e, rfl, h2⟩ := onE_in h'
  clear h'
  obtain ⟨hg, h2⟩ := h2
  have h2 : R ⟨.v (.ag (rowCells KS (slotR s e))), [some (scr (slotS s e))]⟩ := h2
  refine Box.of_eq (slot_tree s e R) ⟨hg, ?_⟩
  have leaf : ∀ {mk : Bool} {bg : Int} {un co : Bool} {s' : Scr}, marks s e = mk → (if (isMos (gvE e) || marks s e) = true then s.bg else 0) = bg → (marks s e && s.un) = un → (marks s e && s.co) = co → slotS s e = s' →
      R (sO (gvE e) s.fg s.fl s.iv mk bg un co s') := by
    intro mk bg un co s' a b c d e'
    unfold slotR at h2
    rw [b, c, d, a, e'] at h2
    exact h2
  have mkT : ∀ {b : Bool}, s.wt = true → (isMos (gvE e) || space e) = b → marks s e = b := fun h1 h2 => by unfold marks; rw [h1, h2]; rfl
  have mkF : s.wt = false → marks s e = false := fun h1 => by unfold marks; rw [h1]; rfl
  have sF : marks s e = false → slotS s e = s := fun h1 => by
    unfold slotS; rw [h1]
    show { s with wt := s.wt && true } = s
    rw [Bool.and_true]
  have sT : marks s e = true → slotS s e = { s with wt := false } := fun h1 => by
    unfold slotS; rw [h1]
    show { s with wt := s.wt && false } = _
    rw [Bool.and_false]
  refine sel_b (fun hm => sel_b (fun hw => ?_) fun hw => ?_) fun hm => sel_b (fun hw => sel_b (fun hz => sel_b (fun hc => ?_) fun hc => ?_) fun hz => ?_) fun hw => ?_
  · have hk := mkT (b := true) hw (by rw [hm]; rfl)
    exact leaf hk (by rw [hm]; rfl) (by rw [hk]; rfl) (by rw [hk]; rfl) (sT hk)
  · have hk := mkF hw
    exact leaf hk (by rw [hm]; rfl) (by rw [hk]; rfl) (by rw [hk]; rfl) (sF hk)
  · have hk := mkT (b := true) hw (by rw [hm]; unfold space; rw [hz, hc]; rfl)
    exact leaf hk (by rw [hm, hk]; rfl) (by rw [hk]; rfl) (by rw [hk]; rfl) (sT hk)
  · have hk := mkT (b := false) hw (by rw [hm]; unfold space; rw [hz, hc]; rfl)
    exact leaf hk (by rw [hm, hk]; rfl) (by rw [hk]; rfl) (by rw [hk]; rfl) (sF hk)
  · have hk := mkT (b := false) hw (by rw [hm]; unfold space; rw [hz]; rfl)
    exact leaf hk (by rw [hm, hk]; rfl) (by rw [hk]; rfl) (by rw [hk]; rfl) (sF hk)
  · have hk := mkF hw
    exact leaf hk (by rw [hm, hk]; rfl) (by rw [hk]; rfl) (by rw [hk]; rfl) (sF hk)

/-! ### laying -/
/-- A slot's row. -/
structure Sl where
  g : Int
  fg : Int
  fl : Bool
  iv : Bool
  h : Int
  w : Int
  mrk : Bool
  bg : Int
  un : Bool
  co : Bool
def slR (x : Sl) (h w : Int) : List Sc := [.i x.g, .i x.fg, .b x.fl, .b x.iv, .i h, .i w, .b x.mrk, .i x.bg, .b x.un, .b x.co]
def layR (sl : List (List Sc)) (r c : Nat) (x : Sl) (h : Int) (wide : Bool) : List (List Sc) :=
  bif wide then (sl.set (r * 40 + c) (slR x h 1)).set (r * 40 + (c + 1)) (slR x h 2) else sl.set (r * 40 + c) (slR x h x.w)
def layS (s : Scr) (x : Sl) (tall wide : Bool) : Scr := { s with sl := bif tall then layR (layR s.sl s.row.toNat s.col.toNat x 2 wide) (s.row.toNat - 1) s.col.toNat x 1 wide else layR s.sl s.row.toNat s.col.toNat x 0 wide }
noncomputable def X_lay : Cx := { P := Tryz.prog, con := (fun _ => Option.none), glob := [], m := 1, loops := [] }
noncomputable def t_lay : Con := fun args regs => if regs.length = 1 then nfun Tryz.prog [] (fun _ => Option.none) [(0, [0, 3, 5, 15, 16, 17], unroll X_lay 0 [0, 3, 5, 15, 16, 17] [3] (bodyLoop Tryz.f76 0) 4)] Tryz.f76 args regs else .fail
theorem k_lay : Known Tryz.prog [] 76 t_lay := known_loops 1 Tryz.func76 rfl (by kernel_rfl) mixed con_none (LAll.one (id := 0) (body := bodyLoop Tryz.f76 0) (by kernel_rfl) rfl (unroll_ok (X := X_lay) con_none mixed (LAll.none (by kernel_rfl)) [0, 3, 5, 15, 16, 17] [3] 4))
def layA (x : Sl) (tall wide : Bool) : List NV := [.c (.p 0 0 0), .ag (rowCells KS (slR x x.h x.w)), .c (.b tall), .c (.b wide)]
/-- A place's checks. -/
def chkP (r c : Int) (A : Prop) : Prop := sel (decide (0 ≤ r)) (sel (decide (r < 25)) (sel (decide (0 ≤ c)) (sel (decide (c < 40)) (sel (decide (r.toNat * 40 + c.toNat + 1 ≤ 1000)) A False) False) False) False) False
theorem chkP_in {r c : Int} {A : Prop} (h1 : 0 ≤ r ∧ r ≤ 24) (h2 : 0 ≤ c ∧ c ≤ 39) (hA : A) : chkP r c A := selT (dT h1.1) (selT (dT (by omega)) (selT (dT h2.1) (selT (dT (by omega)) (selT (dT (by omega)) hA))))
def lO (n : Int) (s : Scr) : Out := ⟨.v (.c (.i .i64 n)), [some (scr s)]⟩
theorem lay_ff (s : Scr) (x : Sl) (R : Out → Prop) : (t_lay (layA x false false) [scr s]).run R =
    chkP (w64 (s.row - 0)) s.col (R (lO 1 { s with sl := s.sl.set ((w64 (s.row - 0)).toNat * 40 + s.col.toNat) (slR x 0 x.w) })) := by kernel_rfl
theorem lay_ft (s : Scr) (x : Sl) (R : Out → Prop) : (t_lay (layA x false true) [scr s]).run R =
    chkP (w64 (s.row - 0)) s.col (chkP (w64 (s.row - 0)) (w64 (s.col + 1)) (R (lO 2 { s with sl := (s.sl.set ((w64 (s.row - 0)).toNat * 40 + s.col.toNat) (slR x 0 1)).set ((w64 (s.row - 0)).toNat * 40 + (w64 (s.col + 1)).toNat) (slR x 0 2) }))) := by kernel_rfl
theorem lay_tf (s : Scr) (x : Sl) (R : Out → Prop) : (t_lay (layA x true false) [scr s]).run R =
    chkP (w64 (s.row - 0)) s.col (chkP (w64 (s.row - 1)) s.col (R (lO 1 { s with sl := (s.sl.set ((w64 (s.row - 0)).toNat * 40 + s.col.toNat) (slR x 2 x.w)).set ((w64 (s.row - 1)).toNat * 40 + s.col.toNat) (slR x 1 x.w) }))) := by kernel_rfl
theorem lay_tt (s : Scr) (x : Sl) (R : Out → Prop) : (t_lay (layA x true true) [scr s]).run R =
    chkP (w64 (s.row - 0)) s.col (chkP (w64 (s.row - 0)) (w64 (s.col + 1)) (chkP (w64 (s.row - 1)) s.col (chkP (w64 (s.row - 1)) (w64 (s.col + 1))
      (R (lO 2 { s with sl := (((s.sl.set ((w64 (s.row - 0)).toNat * 40 + s.col.toNat) (slR x 2 1)).set ((w64 (s.row - 0)).toNat * 40 + (w64 (s.col + 1)).toNat) (slR x 2 2)).set ((w64 (s.row - 1)).toNat * 40 + s.col.toNat) (slR x 1 1)).set ((w64 (s.row - 1)).toNat * 40 + (w64 (s.col + 1)).toNat) (slR x 1 2) }))))) := by kernel_rfl
def layPre (s : Scr) (tall wide : Bool) : Prop := On s ∧ (tall = true → 1 ≤ s.row) ∧ (wide = true → s.col ≤ 38)
noncomputable def tLay : Con := fun args regs => onS args regs fun l s => match l with
  | [.ag [.i .i64 g, .i .i64 fg, .b fl, .b iv, .i .i64 h, .i .i64 w, .b mk, .i .i64 bg, .b un, .b co], .c (.b tall), .c (.b wide)] =>
    .must (layPre s tall wide) (.ret (lO (bif wide then 2 else 1) (layS s ⟨g, fg, fl, iv, h, w, mk, bg, un, co⟩ tall wide)))
  | _ => .fail
theorem kLay : Known Tryz.prog [] 76 tLay := by
  refine k_lay.less fun args regs R h => Box.out ?_
  obtain ⟨l, s, rfl, rfl, h'⟩ := onS_in h
  clear h
  split at h'
  case h_2 => exact h'.elim
  rename_i g fg fl iv h w mk bg un co tall wide
  obtain ⟨⟨ho, h1, h2⟩, hR⟩ := h'
  have hR : R (lO (bif wide then 2 else 1) (layS s ⟨g, fg, fl, iv, h, w, mk, bg, un, co⟩ tall wide)) := hR
  obtain ⟨⟨r0, r1⟩, ⟨c0, c1⟩, -⟩ := ho
  have e0 : w64 (s.row - 0) = s.row := by rw [Int.sub_zero]; exact w64_id (by omega)
  generalize hx : (⟨g, fg, fl, iv, h, w, mk, bg, un, co⟩ : Sl) = x at hR
  have hA : (NV.c (.p 0 0 0) :: [.ag [.i .i64 g, .i .i64 fg, .b fl, .b iv, .i .i64 h, .i .i64 w, .b mk, .i .i64 bg, .b un, .b co], .c (.b tall), .c (.b wide)]) = layA x tall wide := by rw [← hx]; rfl
  rw [hA]
  unfold layS layR at hR
  have e1 : 1 ≤ s.row → w64 (s.row - 1) = s.row - 1 ∧ (s.row - 1).toNat = s.row.toNat - 1 := fun h => ⟨w64_id (by omega), by omega⟩
  have e2 : w64 (s.col + 1) = s.col + 1 ∧ (s.col + 1).toNat = s.col.toNat + 1 := ⟨w64_id (by omega), by omega⟩
  cases tall <;> cases wide
  · refine Box.of_eq (lay_ff s x R) ?_
    rw [e0]
    exact chkP_in ⟨r0, r1⟩ ⟨c0, c1⟩ hR
  · have := h2 rfl
    refine Box.of_eq (lay_ft s x R) ?_
    rw [e0, e2.1, e2.2]
    exact chkP_in ⟨r0, r1⟩ ⟨c0, c1⟩ (chkP_in ⟨r0, r1⟩ ⟨by omega, by omega⟩ hR)
  · have := h1 rfl
    refine Box.of_eq (lay_tf s x R) ?_
    rw [e0, (e1 this).1, (e1 this).2]
    exact chkP_in ⟨r0, r1⟩ ⟨c0, c1⟩ (chkP_in ⟨by omega, by omega⟩ ⟨c0, c1⟩ hR)
  · have h1 := h1 rfl
    have h2 := h2 rfl
    refine Box.of_eq (lay_tt s x R) ?_
    rw [e0, (e1 h1).1, (e1 h1).2, e2.1, e2.2]
    exact chkP_in ⟨r0, r1⟩ ⟨c0, c1⟩ (chkP_in ⟨r0, r1⟩ ⟨by omega, by omega⟩ (chkP_in ⟨by omega, by omega⟩ ⟨c0, c1⟩ (chkP_in ⟨by omega, by omega⟩ ⟨by omega, by omega⟩ hR)))

/-! ### a sign is written -/
def wroteS (s : Scr) (e : Ev) : Scr := { s with e0 := e.k, e1 := e.a, e2 := e.b, e3 := e.c, e4 := e.d, e5 := e.set, e6 := e.code }
noncomputable def slX (s : Scr) (e : Ev) : Sl := ⟨gvE e, s.fg, s.fl, s.iv, 0, 0, marks s e, (if (isMos (gvE e) || marks s e) = true then s.bg else 0), (marks s e && s.un), (marks s e && s.co)⟩
/-- The cursor behind it. -/
def stepW (s : Scr) (wide : Bool) : Scr := if s.col + (bif wide then 2 else 1) ≤ 39 then { s with col := s.col + (bif wide then 2 else 1) } else if s.row = 0 then { s with col := 39 } else { downS { s with col := s.col + (bif wide then 2 else 1) } with col := 0 }
noncomputable def tallB (s : Scr) (e : Ev) : Bool := !isMos (gvE e) && s.ta && decide (s.row > 1)
noncomputable def wideB (s : Scr) (e : Ev) : Bool := !isMos (gvE e) && s.wi && decide (s.col < 39)
noncomputable def writeS (e : Ev) (s : Scr) : Scr := stepW (layS (slotS (wroteS s e) e) (slX (wroteS s e) e) (tallB s e) (wideB s e)) (wideB s e)
noncomputable def c_write : FuncId → Option Con := conOf [(75, tSlot), (48, tOf), (76, tLay), (77, tDown)]
theorem kc_write : ∀ f T, c_write f = some T → Known Tryz.prog [] f T := (Knowns.cons kSlot (Knowns.cons kOf (Knowns.cons kLay (Knowns.cons kDown Knowns.nil)))).get
noncomputable def t_write : Con := fun args regs => nfun Tryz.prog [] c_write [] Tryz.f53 args regs
theorem k_write : Known Tryz.prog [] 53 t_write := known_inl Tryz.func53 rfl (by kernel_rfl) mixed kc_write (by kernel_rfl)
def stepT (s : Scr) (wide : Bool) (R : Out → Prop) : Prop :=
  sel (decide (w64 (s.col + (bif wide then 2 else 1)) ≤ 39)) (R (done { s with col := w64 (s.col + (bif wide then 2 else 1)) })) (sel (s.row == 0) (R (done { s with col := 39 }))
    (RowOk s ∧ R (done { downS { s with col := w64 (s.col + (bif wide then 2 else 1)) } with col := 0 })))
noncomputable def layT (s : Scr) (e : Ev) (tall wide : Bool) (R : Out → Prop) : Prop :=
  layPre (slotS (wroteS s e) e) tall wide ∧ stepT (layS (slotS (wroteS s e) e) (slX (wroteS s e) e) tall wide) wide R
theorem write_tree (s : Scr) (e : Ev) (R : Out → Prop) : (t_write [.c (.p 0 0 0), .ag (evC e)] [scr s]).run R = (GoodE e ∧
    sel (isMos (gvE e)) (layT s e false false R) (sel s.ta (sel s.wi (layT s e (decide (s.row > 1)) (decide (s.col < 39)) R) (layT s e (decide (s.row > 1)) false R)) (sel s.wi (layT s e false (decide (s.col < 39)) R) (layT s e false false R)))) := by kernel_rfl
end Go.Proofs.YtdijbpokklgjlaaGreatDoor.scr
