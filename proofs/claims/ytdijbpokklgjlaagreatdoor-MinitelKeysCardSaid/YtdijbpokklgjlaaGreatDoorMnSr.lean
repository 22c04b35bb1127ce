/-
  The law MinitelSocket: joined.
-/
import Derived.Test.YtdijbpokklgjlaaGreatDoorMnSq
set_option linter.unusedVariables false
namespace Go.Proofs.YtdijbpokklgjlaaGreatDoor.mtl
open Go Go.Nx Go.Proofs.YtdijbpokklgjlaaGreatDoor.prt
open Go.Proofs.YtdijbpokklgjlaaGreatDoor.lex (arr lx InBytes mkEv K7 kMake)
open Go.Proofs.YtdijbpokklgjlaaGreatDoor.scr (Scr Ev eventS rollsS Ins newS gridG)

theorem qJ_in {j : Int} {M : Mn} {N : Prop} (hj : j = 2 ∨ j = 3) (hM : OkM M) (hN : N) : qJ j M N := ⟨lensR_in M, ⟨hj, ⟨by have := hM.o2; show M.o2.length ≤ 100000; omega, by have := hM.o3; show M.o3.length ≤ 100000; omega⟩⟩, hN⟩
theorem wS_len (text : List Int) : (wS text).length = text.length := by unfold wS; rw [List.length_map]
theorem endM_ok {x y : Bool} {text : List Int} (h : tx30 text) : OkM (endM x y text) := sm_ok (InsS.scS x text ins_newS) (pXY_ok x y) (by
  have := h.1
  cases y with
  | false => show ([] : List Int).length ≤ 5000; decide
  | true => show (wS text).length ≤ 5000; rw [wS_len]; omega)
theorem loopsR_in {x y : Bool} {text : List Int} {N : Prop} (h : tx30 text) (hN : N) : loopsR x y text (SM (pXY x y) newS []) N :=
  ⟨⟨rfl, h⟩, lensR_in _, ⟨by rw [nrm_eq (endM_ok h).p], h, grid_so h⟩, hN⟩
theorem tailT_in {x : Bool} {text : List Int} {R : Out → Prop} (h : tx30 text) (hR : R yesO) : tailT (endM x true text) (wS text) R := by
  have hO : (endM x true text).o2 = wS text := rfl
  refine qJ_in (.inl rfl) (endM_ok h) ?_
  rw [hO]
  exact bytesR_in rfl (by rw [wS_len]; have := h.1; omega) (qJ_in (.inr rfl) (endM_ok h) hR)
theorem tailF_in {x : Bool} {text : List Int} {R : Out → Prop} (h : tx30 text) (hR : R yesO) : tailF (endM x false text) R :=
  qJ_in (.inl rfl) (endM_ok h) (selT rfl ⟨rfl, qJ_in (.inr rfl) (endM_ok h) hR⟩)
theorem askS_in {t : Int} (h : t = 88 ∨ t = 90) : InBytes (askS t) := by
  rcases h with rfl | rfl
  · exact inB_cons (by decide) (inB_cons (by decide) (inB_cons (by decide) (inB_cons (by decide) (inB_cons (by decide) inB_nil))))
  · exact inB_cons (by decide) (inB_cons (by decide) (inB_cons (by decide) (inB_cons (by decide) (inB_cons (by decide) inB_nil))))
theorem q88 : seqM (askS 88) (newM 1000) = SM (pAsk startP 88) newS ((askV startP 10 3 97 88 83).2.map mkEv) :=
  (seq_ask (p := startP) (sc := newS) (O := []) (.inl rfl) (by kernel_rfl) (by kernel_rfl) (by kernel_rfl) (by decide)).trans (by kernel_rfl)
theorem q90 : seqM (askS 90) (newM 1000) = SM (pAsk startP 90) newS ((askV startP 10 3 97 90 83).2.map mkEv) :=
  (seq_ask (p := startP) (sc := newS) (O := []) (.inr rfl) (by kernel_rfl) (by kernel_rfl) (by kernel_rfl) (by decide)).trans (by kernel_rfl)
theorem q8890 : seqM (askS 90) (SM (pAsk startP 88) newS ((askV startP 10 3 97 88 83).2.map mkEv)) = SM (pAsk (pAsk startP 88) 90) newS ((askV startP 10 3 97 88 83).2.map mkEv ++ (askV (pAsk startP 88) 10 3 97 90 83).2.map mkEv) :=
  (seq_ask (p := pAsk startP 88) (sc := newS) (.inr rfl) (by kernel_rfl) (by kernel_rfl) (by kernel_rfl) (by rw [List.length_map]; exact Nat.le_trans (ask_ok startP_ok 10 3 97 88 83).a.len (by decide))).trans (by kernel_rfl)
theorem a88_len : ((askV startP 10 3 97 88 83).2.map mkEv).length ≤ 5 := by rw [List.length_map]; exact (ask_ok startP_ok 10 3 97 88 83).a.len
theorem a90_len : ((askV startP 10 3 97 90 83).2.map mkEv).length ≤ 5 := by rw [List.length_map]; exact (ask_ok startP_ok 10 3 97 90 83).a.len
theorem a8890_len : ((askV (pAsk startP 88) 10 3 97 90 83).2.map mkEv).length ≤ 5 := by rw [List.length_map]; exact (ask_ok (ask_ok startP_ok 10 3 97 88 83).p 10 3 97 90 83).a.len
/-- What waits is taken. -/
theorem took_in {x y : Bool} {p : PS} {O text : List Int} {N : Prop} (hp : pXY x y = p) (hO : O.length ≤ 5000) (h : tx30 text) (hN : N) : qJ 2 (SM p newS O) (loopsR x y text (takeM 2 (nrm (SM p newS O))) N) := by
  subst hp
  have hM : OkM (SM (pXY x y) newS O) := sm_ok ins_newS (pXY_ok x y) hO
  refine qJ_in (.inl rfl) hM ?_
  rw [nrm_eq hM.p]
  exact loopsR_in h hN
theorem cap_in {N : Prop} (h : N) : capR N := ⟨⟨by decide, by decide⟩, h⟩
set_option maxRecDepth 100000 in
theorem so_in (text : List Int) (x y : Bool) (hb : InBytes text) (R : Out → Prop) (hR : R yesO) : Box ((t_so [.c (.l .u8 text), .c (.b x), .c (.b y)] []).run R) := by
  have t3 : ¬ ((text.length : Int) > 30) → tx30 text := fun h => ⟨by omega, hb⟩
  cases x with
  | false =>
    cases y with
    | false => exact Box.of_eq (so_FF text R) (sel_by (fun _ => hR) fun h => cap_in (took_in (p := startP) (O := []) rfl (by decide) (t3 h) (tailF_in (t3 h) hR)))
    | true =>
      refine Box.of_eq (so_FT text R) (sel_by (fun _ => hR) fun h => cap_in (mdRs_in (askS_in (.inr rfl)) (newM_ok (by decide)) ?_))
      rw [q90]
      exact took_in rfl (Nat.le_trans a90_len (by decide)) (t3 h) (tailT_in (t3 h) hR)
  | true =>
    cases y with
    | false =>
      refine Box.of_eq (so_TF text R) (sel_by (fun _ => hR) fun h => cap_in (mdRs_in (askS_in (.inl rfl)) (newM_ok (by decide)) ?_))
      rw [q88]
      exact took_in rfl (Nat.le_trans a88_len (by decide)) (t3 h) (tailF_in (t3 h) hR)
    | true =>
      refine Box.of_eq (so_TT text R) (sel_by (fun _ => hR) fun h => cap_in (mdRs_in (askS_in (.inl rfl)) (newM_ok (by decide)) ?_))
      rw [q88]
      refine mdRs_in (askS_in (.inr rfl)) (sm_ok ins_newS (ask_ok startP_ok 10 3 97 88 83).p (Nat.le_trans a88_len (by decide))) ?_
      rw [q8890]
      exact took_in rfl (by have := a88_len; have := a8890_len; rw [List.length_append]; omega) (t3 h) (tailT_in (t3 h) hR)
theorem GivesS.holds {t : Tr Out} (h : ∀ R : Out → Prop, R yesO → Box (t.run R)) : Holds t fun o => o.res = .v (.c (.b true)) := ⟨Box.out (h _ rfl)⟩
theorem so_holds (text : List Int) (x y : Bool) (hb : InBytes text) : Holds (t_so [.c (.l .u8 text), .c (.b x), .c (.b y)] []) fun o => o.res = .v (.c (.b true)) := GivesS.holds fun R hR => so_in text x y hb R hR
def shsSo : List Sh := [.row .u8, .b, .b]
theorem so_law (xs : List NV) (h : R2 ShOk shsSo xs) : Holds (t_so xs []) fun o => o.res = .v (.c (.b true)) := by
  cases h with
  | cons h1 h =>
    cases h with
    | cons h2 h =>
      cases h with
      | cons h3 h =>
        cases h
        cases h2 with
        | @b x =>
          cases h3 with
          | @b y =>
            cases h1 with
            | @row _ xs hx =>
              refine so_holds xs x y fun z hz => ?_
              have := hx z hz
              simp [Lit.wf, IntKind.min, IntKind.max, IntKind.signed, IntKind.bits] at this
              constructor <;> omega
theorem known_glS {P : Program} {gl : List Nat} {f : FuncId} {T : Con} (h : Known P [] f T) : Known P gl f T :=
  ⟨h.goes, fun args regs R hR Γ w vs hw _ ha ho => h.sound args regs R hR Γ w vs hw ⟨(fun x hx => by cases hx), (fun x hx => by cases hx)⟩ ha ho⟩
def GLS : List Nat := [142, 0]
theorem kSoG : Known Tryz.prog GLS 5 t_so := known_glS k_so
end Go.Proofs.YtdijbpokklgjlaaGreatDoor.mtl
