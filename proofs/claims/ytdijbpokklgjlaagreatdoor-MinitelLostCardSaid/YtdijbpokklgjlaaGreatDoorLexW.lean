/-
  The lexer's functions, with what is begun as any list: sequences with numbers, requests, what is behind an escape.
-/
import Derived.Test.YtdijbpokklgjlaaGreatDoorLexV
set_option linter.unusedVariables false
namespace Go.Proofs.YtdijbpokklgjlaaGreatDoor.lxv
open Go Go.Nx Go.Proofs.YtdijbpokklgjlaaGreatDoor.lex

/-! ### what is ended, by its rows -/
noncomputable def tEndsW : Con := fun args regs => match args, regs with
  | [.c (.p 0 0 0), .c (.h k o n)], _ => t_ends args regs
  | _, _ => .fail
set_option maxRecDepth 100000 in
theorem kEndsW : Known Tryz.prog [] 67 tEndsW := by
  refine k_ends.less fun args regs R h => ?_
  unfold tEndsW at h
  split at h
  case h_2 => exact h.elim
  exact h
/-- What a sequence with numbers says. -/
def endR (ds : List Int) (c : Int) : List Sc :=
  if 65 ≤ c ∧ c ≤ 68 then ev 2 (69 - c) (mx (min99 (nums ds 0 0 0).1)) 0 0 0 0
  else if c = 72 then ev 5 (mx (min99 (nums ds 0 0 0).1)) (mx (min99 (nums ds 0 0 0).2)) 0 0 0 0
  else if c = 74 ∨ c = 75 then ev 11 (c - 73) (min99 (nums ds 0 0 0).1) 0 0 0 0 else ignR
def endO (row : List Sc) : Out := ⟨.v (.c (.h 0 0 1)), [some ⟨7, 75, .recs K7 [row]⟩]⟩
theorem ended_tree (ds : List Int) (c : Int) (R : Out → Prop) : (t_ended [.c (.l .u8 ds), .c (.i .u8 c)] []).run R = ((ds.length ≤ 100 ∧ InBytes ds) ∧
    sel (c == 65) (R (endO (ev 2 (w64 (IntKind.u8.wrap (69 - c))) (mx (min99 (nums ds 0 0 0).1)) 0 0 0 0)))
     (sel (c == 66) (R (endO (ev 2 (w64 (IntKind.u8.wrap (69 - c))) (mx (min99 (nums ds 0 0 0).1)) 0 0 0 0)))
      (sel (c == 67) (R (endO (ev 2 (w64 (IntKind.u8.wrap (69 - c))) (mx (min99 (nums ds 0 0 0).1)) 0 0 0 0)))
       (sel (c == 68) (R (endO (ev 2 (w64 (IntKind.u8.wrap (69 - c))) (mx (min99 (nums ds 0 0 0).1)) 0 0 0 0)))
        (sel (c == 72) (R (endO (ev 5 (mx (min99 (nums ds 0 0 0).1)) (mx (min99 (nums ds 0 0 0).2)) 0 0 0 0)))
         (sel (c == 74) (R (endO (ev 11 (w64 (w64 (IntKind.u8.wrap (c - 74)) + 1)) (min99 (nums ds 0 0 0).1) 0 0 0 0)))
          (sel (c == 75) (R (endO (ev 11 (w64 (w64 (IntKind.u8.wrap (c - 74)) + 1)) (min99 (nums ds 0 0 0).1) 0 0 0 0))) (R (endO ignR))))))))) := by kernel_rfl
noncomputable def tEndedV : Con := fun args regs => match args, regs with
  | [.c (.l .u8 ds), .c (.i .u8 c)], [] => .must (ds.length ≤ 100 ∧ InBytes ds) (.ret (endO (endR ds c)))
  | _, _ => .fail
theorem e68 : ∀ c : Int, 65 ≤ c ∧ c ≤ 68 → w64 (IntKind.u8.wrap (69 - c)) = 69 - c := by
  intro c hc
  have : c = 65 ∨ c = 66 ∨ c = 67 ∨ c = 68 := by omega
  rcases this with rfl | rfl | rfl | rfl <;> decide +kernel
set_option maxRecDepth 100000 in
theorem kEndedV : Known Tryz.prog [] 105 tEndedV := by
  refine k_ended.less fun args regs R h => Box.out ?_
  unfold tEndedV at h
  split at h
  case h_2 => exact h.elim
  rename_i ds c
  have h1 := h.1
  have h2 : R (endO (endR ds c)) := h.2
  clear h
  refine Box.of_eq (ended_tree ds c R) ⟨h1, ?_⟩
  clear h1
  have mv : 65 ≤ c ∧ c ≤ 68 → R (endO (ev 2 (w64 (IntKind.u8.wrap (69 - c))) (mx (min99 (nums ds 0 0 0).1)) 0 0 0 0)) := fun hc => by
    rw [e68 c hc]
    unfold endR at h2
    rw [if_pos hc] at h2
    exact h2
  by_cases h65 : c = 65
  · exact selT (bT h65) (mv (by omega))
  refine selF (bF h65) ?_
  by_cases h66 : c = 66
  · exact selT (bT h66) (mv (by omega))
  refine selF (bF h66) ?_
  by_cases h67 : c = 67
  · exact selT (bT h67) (mv (by omega))
  refine selF (bF h67) ?_
  by_cases h68 : c = 68
  · exact selT (bT h68) (mv (by omega))
  refine selF (bF h68) ?_
  unfold endR at h2
  rw [if_neg (by omega)] at h2
  by_cases h72 : c = 72
  · rw [if_pos h72] at h2
    exact selT (bT h72) h2
  refine selF (bF h72) ?_
  rw [if_neg h72] at h2
  by_cases h74 : c = 74
  · rw [if_pos (.inl h74)] at h2
    subst h74
    exact selT rfl h2
  refine selF (bF h74) ?_
  by_cases h75 : c = 75
  · rw [if_pos (.inr h75)] at h2
    subst h75
    exact selT rfl h2
  refine selF (bF h75) ?_
  rw [if_neg (by omega)] at h2
  exact h2

/-! ### a sequence with numbers -/
noncomputable def c_seqS : FuncId → Option Con := conOf [(96, tGoesS), (67, tEndsW), (105, tEndedV), (68, t_ignored)]
theorem kc_seqS : ∀ f T, c_seqS f = some T → Known Tryz.prog [] f T := (Knowns.cons kGoesS (Knowns.cons kEndsW (Knowns.cons kEndedV (Knowns.cons k_ignored Knowns.nil)))).get
noncomputable def t_seqS : Con := fun args regs => nfun Tryz.prog [] c_seqS [] Tryz.f97 args regs
theorem k_seqS : Known Tryz.prog [] 97 t_seqS := known_inl Tryz.func97 rfl (by kernel_rfl) mixed kc_seqS (by kernel_rfl)
def endH (s : Int) (P : List Int) (row : List Sc) : Out := ⟨.v (.c (.h 2 0 1)), [some (lx .sn s), some (arr P), some ⟨7, 75, .recs K7 [row]⟩]⟩
theorem wk_endH {R : Out → Prop} {s : Int} {P : List Int} {row : List Sc} (h : R (endS s [row])) : wk R (endH s P row) :=
  ⟨_, (Weak.rows (k := 2) (xs := [row]) rfl).trans (Weak.drop (rg' := [some (lx .sn s), none]) fun n g hg => by
    match n, hg with
    | 0, hg => exact hg
    | 1, hg => simp at hg
    | n + 2, hg => simp at hg), h⟩
def seqE (s c : Int) (P : List Int) (R : Out → Prop) : Prop :=
  sel (decide (c < 64)) (R (endH s P ignR)) (sel (c == 127) (R (endH s P ignR)) (sel (decide (0 + Int.toNat 2 + (P.length - Int.toNat 2) ≤ P.length))
    (((List.take (P.length - Int.toNat 2) (List.drop (0 + Int.toNat 2) P)).length ≤ 100 ∧ InBytes (List.take (P.length - Int.toNat 2) (List.drop (0 + Int.toNat 2) P))) ∧ R (endH s P (endR (List.take (P.length - Int.toNat 2) (List.drop (0 + Int.toNat 2) P)) c))) False))
theorem seq_tree (s c : Int) (P : List Int) (R : Out → Prop) : (t_seqS [.c (.p 0 0 0), .c (.i .u8 c)] [lx (.h 1 0 P.length) s, arr P]).run R =
    sel (decide (2 ≤ (P.length : Int))) (sel (decide (c ≥ 48)) (sel (decide (c < 64)) (sel (decide (((P.length - Int.toNat 2 : Nat) : Int) < 7)) (goB s c P R) (seqE s c P R)) (seqE s c P R)) (seqE s c P R)) False := by kernel_rfl
def seqGo (P : List Int) (c : Int) : Bool := decide (48 ≤ c ∧ c < 64 ∧ P.length < 9)
def seqR (P : List Int) (c : Int) : List Sc := if c < 64 ∨ c = 127 then ignR else endR (P.drop 2) c
noncomputable def tSeqS : Con := fun args regs => onB args regs fun c s P => .must ((2 ≤ P.length ∧ P.length ≤ 50) ∧ InBytes P) (.br (seqGo P c) (.ret (went s (P ++ [c]))) (.ret (endS s [seqR P c])))
set_option maxRecDepth 100000 in
theorem kSeqS : Known Tryz.prog [] 97 tSeqS := by
  refine k_seqS.weak fun args regs R h => Box.out ?_
  obtain ⟨c, s, P, rfl, rfl, hq⟩ := onB_in h
  clear h
  have h1 := hq.1
  have h2 : sel (seqGo P c) (R (went s (P ++ [c]))) (R (endS s [seqR P c])) := hq.2
  clear hq
  show Box ((t_seqS [.c (.p 0 0 0), .c (.i .u8 c)] [lx (.h 1 0 P.length) s, arr P]).run (wk R))
  have e2 : Int.toNat 2 = 2 := rfl
  have en : seqGo P c = false → seqE s c P (wk R) := fun hn => by
    rw [hn] at h2
    have h2 : R (endS s [seqR P c]) := h2
    unfold seqR at h2
    unfold seqE
    refine sel_by (fun hc => wk_endH ?_) fun hc => ?_
    · rw [if_pos (.inl hc)] at h2; exact h2
    by_cases hd : c = 127
    · refine selT (bT hd) (wk_endH ?_)
      rw [if_pos (.inr hd)] at h2; exact h2
    · rw [if_neg (fun h => h.elim hc hd)] at h2
      have ht : List.take (P.length - Int.toNat 2) (List.drop (0 + Int.toNat 2) P) = P.drop 2 := by
        rw [e2, Nat.zero_add, show P.length - 2 = (P.drop 2).length by rw [List.length_drop], List.take_length]
      rw [ht]
      refine selF (bF hd) (selT (dT (by omega)) ⟨⟨by rw [List.length_drop]; omega, fun x hx => h1.2 x (List.mem_of_mem_drop hx)⟩, wk_endH h2⟩)
  refine Box.of_eq (seq_tree s c P (wk R)) (selT (dT (by omega)) (sel_by (fun h => sel_by (fun hc => sel_by (fun hl => ?_) fun hl => ?_) fun hc => ?_) fun h => ?_))
  · rw [show seqGo P c = true from dT (by omega)] at h2
    exact ⟨rfl, by omega, wk_refl h2⟩
  · exact en (dF (by omega))
  · exact en (dF (by omega))
  · exact en (dF (by omega))

/-! ### a request -/
theorem asks_1 (s c p : Int) (R : Out → Prop) : (t_asks [.c (.p 0 0 0), .c (.i .u8 c)] [lx (.h 1 0 2) s, arr [p, 57]]).run R = R (endS s [ev 10 1 (w64 c) 0 0 0 0]) := by kernel_rfl
theorem asks_2 (s c p : Int) (R : Out → Prop) : (t_asks [.c (.p 0 0 0), .c (.i .u8 c)] [lx (.h 1 0 2) s, arr [p, 58]]).run R = R ⟨.v (.c .sn), [some (lx (.h 2 0 3) s), none, some (arr [p, 58, c])]⟩ := by kernel_rfl
theorem asks_2r (s c p r : Int) (R : Out → Prop) : (t_asks [.c (.p 0 0 0), .c (.i .u8 c)] [lx (.h 1 0 3) s, arr [p, 58, r]]).run R = R (endS s [ev 10 2 (w64 r) (w64 c) 0 0 0]) := by kernel_rfl
theorem asks_3 (s c p : Int) (R : Out → Prop) : (t_asks [.c (.p 0 0 0), .c (.i .u8 c)] [lx (.h 1 0 2) s, arr [p, 59]]).run R = R ⟨.v (.c .sn), [some (lx (.h 2 0 3) s), none, some (arr [p, 59, c])]⟩ := by kernel_rfl
theorem asks_3r (s c p r : Int) (R : Out → Prop) : (t_asks [.c (.p 0 0 0), .c (.i .u8 c)] [lx (.h 1 0 3) s, arr [p, 59, r]]).run R = R ⟨.v (.c .sn), [some (lx (.h 2 0 4) s), none, some (arr [p, 59, r, c])]⟩ := by kernel_rfl
theorem asks_3rt (s c p r t : Int) (R : Out → Prop) : (t_asks [.c (.p 0 0 0), .c (.i .u8 c)] [lx (.h 1 0 4) s, arr [p, 59, r, t]]).run R = R (endS s [ev 10 3 (w64 r) (w64 t) (w64 c) 0 0]) := by kernel_rfl
def askOk (P : List Int) : Prop := ∃ p r t, P = [p, 57] ∨ P = [p, 58] ∨ P = [p, 58, r] ∨ P = [p, 59] ∨ P = [p, 59, r] ∨ P = [p, 59, r, t]
def askGo (P : List Int) : Bool := decide ((P.length : Int) - 1 < P.getD 1 0 - 56)
def askR (P : List Int) (c : Int) : List Sc := ev 10 (P.getD 1 0 - 56) (w64 ((P ++ [c]).getD 2 0)) (w64 ((P ++ [c]).getD 3 0)) (w64 ((P ++ [c]).getD 4 0)) 0 0
noncomputable def tAsksS : Con := fun args regs => onB args regs fun c s P => .must (askOk P) (.br (askGo P) (.ret (went s (P ++ [c]))) (.ret (endS s [askR P c])))
set_option maxRecDepth 100000 in
theorem kAsksS : Known Tryz.prog [] 98 tAsksS := by
  refine k_asks.less fun args regs R h => Box.out ?_
  obtain ⟨c, s, P, rfl, rfl, hq⟩ := onB_in h
  clear h
  have h1 := hq.1
  have h2 : sel (askGo P) (R (went s (P ++ [c]))) (R (endS s [askR P c])) := hq.2
  clear hq
  have go : askGo P = true → R (went s (P ++ [c])) := fun e => by rw [e] at h2; exact h2
  have en : askGo P = false → R (endS s [askR P c]) := fun e => by rw [e] at h2; exact h2
  clear h2
  obtain ⟨p, r, t, h1⟩ := h1
  rcases h1 with rfl | rfl | rfl | rfl | rfl | rfl
  · exact Box.of_eq (asks_1 s c p R) (en rfl)
  · exact Box.of_eq (asks_2 s c p R) (go rfl)
  · exact Box.of_eq (asks_2r s c p r R) (en rfl)
  · exact Box.of_eq (asks_3 s c p R) (go rfl)
  · exact Box.of_eq (asks_3r s c p r R) (go rfl)
  · exact Box.of_eq (asks_3rt s c p r t R) (en rfl)

/-! ### behind an escape -/
noncomputable def c_escS : FuncId → Option Con := conOf [(97, tSeqS), (98, tAsksS), (96, tGoesS), (67, tEndsW), (68, t_ignored), (71, t_one)]
theorem kc_escS : ∀ f T, c_escS f = some T → Known Tryz.prog [] f T := (Knowns.cons kSeqS (Knowns.cons kAsksS (Knowns.cons kGoesS (Knowns.cons kEndsW (Knowns.cons k_ignored (Knowns.cons k_one Knowns.nil)))))).get
noncomputable def t_escS : Con := fun args regs => nfun Tryz.prog [] c_escS [] Tryz.f74 args regs
theorem k_escS : Known Tryz.prog [] 74 t_escS := known_inl Tryz.func74 rfl (by kernel_rfl) mixed kc_escS (by kernel_rfl)
end Go.Proofs.YtdijbpokklgjlaaGreatDoor.lxv
