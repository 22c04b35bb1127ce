/-
  The law MinitelKeys: joined.
-/
import Derived.Test.YtdijbpokklgjlaaGreatDoorMnKc
set_option linter.unusedVariables false
namespace Go.Proofs.YtdijbpokklgjlaaGreatDoor.mtl
open Go Go.Nx Go.Proofs.YtdijbpokklgjlaaGreatDoor.prt
open Go.Proofs.YtdijbpokklgjlaaGreatDoor.lex (arr lx InBytes mkEv K7 kMake)
open Go.Proofs.YtdijbpokklgjlaaGreatDoor.scr (Scr Ev eventS rollsS Ins newS gridG)

theorem endK_ok {x y : Bool} {text : List Int} (h : tx30 text) : OkM (endK x y text) := sm_ok (InsS.scS x text ins_newS) (qXY_ok x y) (by
  have := h.1
  cases y with
  | true => show ([] : List Int).length ≤ 5000; decide
  | false => show (wS text).length ≤ 5000; rw [wS_len]; omega)
theorem grid_ky {x y : Bool} {text : List Int} (h : tx30 text) : gridOk x text (gridM (endK x y text)) := grid_so (x := x) (y := y) h
theorem endR2_in {x y : Bool} {text w : List Int} {R : Out → Prop} (h : tx30 text) (hw : (endK x y text).o2 = w) (hR : R yesO) : endR2 x y text w R := by
  have hl : w.length ≤ 1000 := by
    have := h.1
    rw [← hw]
    cases y with
    | true => show ([] : List Int).length ≤ 1000; decide
    | false => show (wS text).length ≤ 1000; rw [wS_len]; omega
  refine ⟨lensR_in _, ⟨⟨nrm (endK x y text), w, gridM (endK x y text), rfl, rfl, grid_ky h⟩, h⟩, qJ_in (.inl rfl) (endK_ok h) ?_⟩
  rw [hw]
  exact bytesR_in rfl hl ⟨lensR_in _, hR⟩
theorem loopsK_in {x y : Bool} {text : List Int} {N : Prop} (h : tx30 text) (hN : N) : loopsK x y text (SM (qXY x y) newS []) N := ⟨⟨rfl, h⟩, hN⟩
theorem ask3_by {a b : Int} (h : (a = 97 ∧ b = 88) ∨ (a = 96 ∧ b = 90)) : InBytes (ask3 a b) := by
  rcases h with ⟨rfl, rfl⟩ | ⟨rfl, rfl⟩
  · exact inB_cons (by decide) (inB_cons (by decide) (inB_cons (by decide) (inB_cons (by decide) (inB_cons (by decide) inB_nil))))
  · exact inB_cons (by decide) (inB_cons (by decide) (inB_cons (by decide) (inB_cons (by decide) (inB_cons (by decide) inB_nil))))
theorem r88 : seqM (ask3 97 88) (newM 1000) = SM (pA3 startP 97 88) newS ((askV startP 10 3 97 88 81).2.map mkEv) :=
  (seq_ask3 (p := startP) (sc := newS) (O := []) (.inl ⟨rfl, rfl⟩) (by kernel_rfl) (by kernel_rfl) (by kernel_rfl) (by decide)).trans (by kernel_rfl)
theorem r90 : seqM (ask3 96 90) (newM 1000) = SM (pA3 startP 96 90) newS ((askV startP 10 3 96 90 81).2.map mkEv) :=
  (seq_ask3 (p := startP) (sc := newS) (O := []) (.inr ⟨rfl, rfl⟩) (by kernel_rfl) (by kernel_rfl) (by kernel_rfl) (by decide)).trans (by kernel_rfl)
theorem b88_len : ((askV startP 10 3 97 88 81).2.map mkEv).length ≤ 5 := by rw [List.length_map]; exact (ask_ok startP_ok 10 3 97 88 81).a.len
theorem b90_len : ((askV startP 10 3 96 90 81).2.map mkEv).length ≤ 5 := by rw [List.length_map]; exact (ask_ok startP_ok 10 3 96 90 81).a.len
theorem b8890_len : ((askV (pA3 startP 97 88) 10 3 96 90 81).2.map mkEv).length ≤ 5 := by rw [List.length_map]; exact (ask_ok (ask_ok startP_ok 10 3 97 88 81).p 10 3 96 90 81).a.len
theorem r8890 : seqM (ask3 96 90) (SM (pA3 startP 97 88) newS ((askV startP 10 3 97 88 81).2.map mkEv)) = SM (pA3 (pA3 startP 97 88) 96 90) newS ((askV startP 10 3 97 88 81).2.map mkEv ++ (askV (pA3 startP 97 88) 10 3 96 90 81).2.map mkEv) :=
  (seq_ask3 (p := pA3 startP 97 88) (sc := newS) (.inr ⟨rfl, rfl⟩) (by kernel_rfl) (by kernel_rfl) (by kernel_rfl) (Nat.le_trans b88_len (by decide))).trans (by kernel_rfl)
theorem tookK_in {x y : Bool} {p : PS} {O text : List Int} {N : Prop} (hp : qXY x y = p) (hO : O.length ≤ 5000) (h : tx30 text) (hN : N) : qJ 2 (SM p newS O) (loopsK x y text (takeM 2 (nrm (SM p newS O))) N) := by
  subst hp
  have hM : OkM (SM (qXY x y) newS O) := sm_ok ins_newS (qXY_ok x y) hO
  refine qJ_in (.inl rfl) hM ?_
  rw [nrm_eq hM.p]
  exact loopsK_in h hN
set_option maxRecDepth 100000 in
theorem ky_in (text : List Int) (x y : Bool) (hb : InBytes text) (R : Out → Prop) (hR : R yesO) : Box ((t_ky [.c (.l .u8 text), .c (.b x), .c (.b y)] []).run R) := by
  have t3 : ¬ ((text.length : Int) > 20) → tx30 text := fun h => ⟨by omega, hb⟩
  cases x with
  | false =>
    cases y with
    | false => exact Box.of_eq (ky_FF text R) (sel_by (fun _ => hR) fun h => cap_in (tookK_in (p := startP) (O := []) rfl (by decide) (t3 h) (endR2_in (t3 h) rfl hR)))
    | true =>
      refine Box.of_eq (ky_FT text R) (sel_by (fun _ => hR) fun h => cap_in (mdRs_in (ask3_by (.inr ⟨rfl, rfl⟩)) (newM_ok (by decide)) ?_))
      rw [r90]
      exact tookK_in rfl (Nat.le_trans b90_len (by decide)) (t3 h) (endR2_in (t3 h) rfl hR)
  | true =>
    cases y with
    | false =>
      refine Box.of_eq (ky_TF text R) (sel_by (fun _ => hR) fun h => cap_in (mdRs_in (ask3_by (.inl ⟨rfl, rfl⟩)) (newM_ok (by decide)) ?_))
      rw [r88]
      exact tookK_in rfl (Nat.le_trans b88_len (by decide)) (t3 h) (endR2_in (t3 h) rfl hR)
    | true =>
      refine Box.of_eq (ky_TT text R) (sel_by (fun _ => hR) fun h => cap_in (mdRs_in (ask3_by (.inl ⟨rfl, rfl⟩)) (newM_ok (by decide)) ?_))
      rw [r88]
      refine mdRs_in (ask3_by (.inr ⟨rfl, rfl⟩)) (sm_ok ins_newS (ask_ok startP_ok 10 3 97 88 81).p (Nat.le_trans b88_len (by decide))) ?_
      rw [r8890]
      exact tookK_in rfl (by have := b88_len; have := b8890_len; rw [List.length_append]; omega) (t3 h) (endR2_in (t3 h) rfl hR)
theorem ky_holds (text : List Int) (x y : Bool) (hb : InBytes text) : Holds (t_ky [.c (.l .u8 text), .c (.b x), .c (.b y)] []) fun o => o.res = .v (.c (.b true)) := GivesS.holds fun R hR => ky_in text x y hb R hR
theorem ky_law (xs : List NV) (h : R2 ShOk shsSo xs) : Holds (t_ky xs []) fun o => o.res = .v (.c (.b true)) := by
  cases h with
  | cons h1 h =>
    cases h with
    | cons h2 h =>
      cases h with
      | cons h3 h =>
        cases h
        cases h2 with
        | @b x =>
          cases h3 with
          | @b y =>
            cases h1 with
            | @row _ xs hx =>
              refine ky_holds xs x y fun z hz => ?_
              have := hx z hz
              simp [Lit.wf, IntKind.min, IntKind.max, IntKind.signed, IntKind.bits] at this
              constructor <;> omega
theorem kKyG : Known Tryz.prog GLS 6 t_ky := known_glS k_ky
end Go.Proofs.YtdijbpokklgjlaaGreatDoor.mtl
