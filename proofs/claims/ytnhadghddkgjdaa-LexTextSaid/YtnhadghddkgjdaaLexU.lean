/-
  The lexer: the law LexText: its loop, the plain law.
-/
import Derived.Test.YtnhadghddkgjdaaLexT
namespace Go.Proofs.Ytnhadghddkgjdaa.lex
open Go Go.Nx Go.RowKit

theorem letter_all : ∀ n < 256, (32 ≤ letter (Int.ofNat n) ∧ letter (Int.ofNat n) < 128) ∧ isEv (bad4 (Int.ofNat n)) = false ∧ (0 ≤ bad4 (Int.ofNat n) ∧ bad4 (Int.ofNat n) < 256) ∧ bad4 (Int.ofNat n) ≠ 142 ∧ mkEv (letter (Int.ofNat n)) ≠ 142 := by decide +kernel
theorem letter_of {x : Int} (h : 0 ≤ x ∧ x < 256) : (32 ≤ letter x ∧ letter x < 128) ∧ isEv (bad4 x) = false ∧ (0 ≤ bad4 x ∧ bad4 x < 256) ∧ bad4 x ≠ 142 ∧ mkEv (letter x) ≠ 142 := by
  have e : x = Int.ofNat x.toNat := by show x = ((x.toNat : Nat) : Int); omega
  have := letter_all x.toNat (by omega)
  rwa [← e] at this
theorem nF {x y : Int} (h : x = y) : (x != y) = false := by rw [h]; simp
theorem right_in {ok : Bool} {s t x : Int} {R : RO → Prop} {nx : RO} (hx : 0 ≤ x ∧ x < 256) (hs : s = t) (hR : R nx) : right ok s t x R nx := by
  have h := letter_of hx
  have hl := ck_of h.1.1 h.1.2
  have hc : cB (mkEv (letter x)) = letter x := hl.2
  exact selF (dF h.2.2.2.2) (selT hl.1.1.2 ⟨⟨hl.1.1.1, hl.1.2⟩, selF (nF (by rw [hc])) (selF (nF hs) hR)⟩)
theorem both_right {ok : Bool} {s t x : Int} {R : RO → Prop} {nx : RO} (hx : 0 ≤ x ∧ x < 256) (hs : s = t) (hR : R nx) : both false ok s t x (mkEv (letter x)) R nx := by
  have h := letter_of hx
  have hl := ck_of h.1.1 h.1.2
  have hc : cB (mkEv (letter x)) = letter x := hl.2
  exact selF (dF h.2.2.2.2) (selT hl.1.1.2 ⟨⟨hl.1.1.1, hl.1.2⟩, selT rfl (selF (nF (by rw [hc])) (selF (nF hs) (selF rfl hR)))⟩)
theorem both_wrong {ok : Bool} {s t x : Int} {R : RO → Prop} {nx : RO} (hx : 0 ≤ x ∧ x < 256) (hR : R nx) : both true ok s t x (bad4 x) R nx := by
  have h := letter_of hx
  exact selF (dF h.2.2.2.1) (selF h.2.1 ⟨h.2.2.1, selF rfl (selT rfl hR)⟩)
noncomputable def lText : List Leaf × List (List Leaf) → Tr (NExit × St) := fun x => match x with
  | ([.l bs, .r _, .b ok, .i t, .i i], [[.i s]]) => .must (s = t ∧ 0 ≤ i ∧ i ≤ (bs.length : Int) ∧ bs.length ≤ 100 ∧ InBytes bs) (.ret (.normal, dText ok s t))
  | _ => .fail
noncomputable def pText : List Pat := pats 119 [(0, .l .u8), (1, .lr [.b]), (7, .b), (8, .p 0 0 0), (9, .i .i64), (10, .i .i64)]
def rText : List RPat := [.cells 2 43 [.sn, .i .i64]]
set_option maxRecDepth 100000 in
theorem loop_text : LOk Try.prog [] 0 0 (bodyLoop fText 0) (sumP pText rText lText) := by
  refine sumP_ok (X := XText) kcText mixed (LAll.none (by kernel_rfl)) [0, 1, 7, 8, 9, 10] [6, 7, 8, 9] _ _ _ (fun x => match x with
    | ([.l bs, .r _, .b _, .i _, .i i], [[.i _]]) => ((bs.length : Int) - i).toNat
    | _ => 0) ?_
  rintro ⟨p, q⟩ R h
  unfold lText at h
  split at h
  case h_2 => exact h.elim
  rename_i bs ys ok t i s he
  cases he
  have h1 := h.1
  have h2 : R (.normal, dText ok s t) := h.2
  clear h
  obtain ⟨rfl, h0, hle, h100, hb⟩ := h1
  show (roundT XText 0 [0, 1, 7, 8, 9, 10] [6, 7, 8, 9] (bodyLoop fText 0) (sText bs ys ok s s i)).run _
  rw [round_text]
  by_cases hlt : i < (bs.length : Int)
  · have hj : i.toNat < bs.length := by omega
    have hx : 0 ≤ bs.getD i.toNat 0 ∧ bs.getD i.toNat 0 < 256 := by
      rw [List.getD_eq_getElem?_getD, List.getElem?_eq_getElem hj]
      exact hb _ (List.getElem_mem hj)
    have hw : IntKind.i64.wrap (i + 1) = i + 1 := by rw [IntKind.wrap_i64]; omega
    have hl := letter_of hx
    refine selT (dT hlt) (selT (dT h0) (selT (dT hlt) (selT (dT hj) ⟨⟨by omega, by omega⟩, ?_⟩)))
    have go : ∃ y, sText bs ys ok s s (IntKind.i64.wrap (i + 1)) = mkSt pText rText y ∧ (match y with
        | ([.l bs, .r _, .b _, .i _, .i i], [[.i _]]) => ((bs.length : Int) - i).toNat
        | _ => 0) < ((bs.length : Int) - i).toNat ∧ (lText y).run R :=
      ⟨([.l bs, .r ys, .b ok, .i s, .i (i + 1)], [[.i s]]), by rw [hw]; rfl, by simp only; omega, ⟨rfl, by omega, by omega, h100, hb⟩, h2⟩
    by_cases hy : i < (ys.length : Int)
    · refine selT (dT hy) (selT (dT h0) (selT (dT hy) (selT (dT (by omega)) ?_)))
      cases isBad ys i with
      | true => exact selT rfl (both_wrong hx go)
      | false => exact selF rfl (both_right hx rfl go)
    · exact selF (dF hy) (right_in hx rfl go)
  · exact selF (dF hlt) h2
noncomputable def tText : Con := fun args regs => if regs.length = 0 then nfun Try.prog [] cText [(0, [0, 1, 7, 8, 9, 10], sumP pText rText lText)] fText args regs else .fail
theorem kText : Known Try.prog [] 11 tText := known_loops 0 Try.func11 rfl (by kernel_rfl) mixed kcText (LAll.one (id := 0) (body := bodyLoop fText 0) (by kernel_rfl) rfl loop_text)
def mustL (bs : List Int) (s t i : Int) : Prop := s = t ∧ 0 ≤ i ∧ i ≤ (bs.length : Int) ∧ bs.length ≤ 100 ∧ InBytes bs
theorem text_tree (bs : List Int) (ys : List (List Sc)) (sh : Bool) (R : Out → Prop) : (tText [.c (.l .u8 bs), .c (.lr [.b] ys), .c (.b sh)] []).run R =
    sel (decide ((bs.length : Int) > 100)) (R yes) (sel sh (in8 14 ∧ (mustL bs 1 1 0 ∧ R yes)) (mustL bs 0 0 0 ∧ R yes)) := by kernel_rfl
theorem text_true (bs : List Int) (ys : List (List Sc)) (sh : Bool) (hb : InBytes bs) : Holds (tText [.c (.l .u8 bs), .c (.lr [.b] ys), .c (.b sh)] []) fun o => o.res = .v (.c (.b true)) := by
  constructor
  rw [text_tree]
  by_cases h : (bs.length : Int) > 100
  · exact selT (dT h) rfl
  · refine selF (dF h) ?_
    cases sh with
    | true => exact selT rfl ⟨⟨by decide, by decide⟩, ⟨rfl, Int.le_refl _, by omega, by omega, hb⟩, rfl⟩
    | false => exact selF rfl ⟨⟨rfl, Int.le_refl _, by omega, by omega, hb⟩, rfl⟩
theorem text_calls (a : Option Addr) (len cap : Nat) (zs : List Int) (a' : Option Addr) (len' cap' : Nat) (xs : List Bool) (sh : Bool) (w : World) (h : ArgRow .u8 w a len cap zs) (h' : ArgBools w a' len' cap' xs) :
    Calls Try.prog 11 #[.slice a len cap, .slice a' len' cap', .bool sh] w fun e w' => e = .returned (.bool true) ∧ Below w.heap.size w w' := by
  obtain ⟨bs, -, hw, hr⟩ := row_rel (fun _ => Option.none) h
  have hb : InBytes bs := fun x hx => by
    have := hw x hx
    simp [Lit.wf, IntKind.min, IntKind.max, IntKind.signed, IntKind.bits] at this
    constructor <;> omega
  exact kText.lawB (fun _ => Option.none) (globOk_nil _) (R2.cons hr (.cons (bools_rel (fun _ => Option.none) h') (.cons (bool_rel _ sh) .nil))) (text_true bs (bRows xs) sh hb)
end Go.Proofs.Ytnhadghddkgjdaa.lex
