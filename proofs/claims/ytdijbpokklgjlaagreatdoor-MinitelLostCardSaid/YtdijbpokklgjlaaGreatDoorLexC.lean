/-
  The lexer: the two numbers of a sequence.
-/
import Derived.Test.YtdijbpokklgjlaaGreatDoorLexB
namespace Go.Proofs.YtdijbpokklgjlaaGreatDoor.lex
open Go Go.Nx Go.RowKit

noncomputable abbrev fNumbers := Tryz.f108
/-- A number with one digit more, but no more than 100. -/
def more (a c : Int) : Int := if 100 < 10 * a + (c - 48) then 100 else 10 * a + (c - 48)
def nums : List Int → Int → Int → Int → Int × Int
  | [], _, a, b => (a, b)
  | c :: l, k, a, b => if c = 59 then nums l (k + 1) a b else if 48 ≤ c ∧ c ≤ 57 ∧ k < 2 then (if k = 0 then nums l k (more a c) b else nums l k a (more b c)) else nums l k a b
noncomputable def XNumbers : Cx := { P := Tryz.prog, con := fun _ => Option.none, glob := [], m := 0, loops := [] }
noncomputable def sNum (xs : List Int) (k n i a b : Int) : St := { fr := frame 48 [(4, .v (.c (.p 0 0 0))), (5, .v (.c (.i .i64 k))), (8, .v (.c (.l .u8 xs))), (9, .v (.c (.i .i64 n))), (10, .v (.c (.i .i64 i)))], rg := [some ⟨1, 137, .ints .i64 [a, b]⟩] }
noncomputable def dNum (a b : Int) : St := { fr := frame 48 [(4, .v (.c (.p 0 0 0)))], rg := [some ⟨1, 137, .ints .i64 [a, b]⟩] }
noncomputable def newV (a b x : Int) (k : Nat) : Int := bif decide (100 < IntKind.i64.wrap (IntKind.i64.wrap (10 * [a, b].getD (0 + k) 0) + IntKind.i64.wrap (IntKind.u8.wrap (x - 48)))) then 100 else IntKind.i64.wrap (IntKind.i64.wrap (10 * [a, b].getD (0 + k) 0) + IntKind.i64.wrap (IntKind.u8.wrap (x - 48)))
theorem round_num (xs : List Int) (k n i a b : Int) (R : RO → Prop) : (roundT XNumbers 0 [4, 5, 8, 9, 10] [4] (bodyLoop fNumbers 0) (sNum xs k n i a b)).run R =
    sel (decide (i < n)) (sel (decide (0 ≤ i)) (sel (decide (i < (xs.length : Int))) (sel (decide (i.toNat < xs.length))
     (sel (xs.getD i.toNat 0 == 59) (R (RO.next (sNum xs (IntKind.i64.wrap (k + 1)) n (IntKind.i64.wrap (i + 1)) a b)))
      (sel (decide (xs.getD i.toNat 0 ≥ 48))
       (sel (decide (xs.getD i.toNat 0 ≤ 57))
        (sel (decide (k < 2))
         (sel (decide (0 ≤ k)) (sel (decide (k < ((2 : Nat) : Int))) (sel (decide (0 + k.toNat < [a, b].length)) (sel (decide (0 ≤ k)) (sel (decide (k < ((2 : Nat) : Int))) (sel (decide (0 + k.toNat < [a, b].length))
          (R (RO.next (sNum xs k n (IntKind.i64.wrap (i + 1)) (bif 0 + k.toNat == 0 then newV a b (xs.getD i.toNat 0) k.toNat else a) (bif 0 + k.toNat == 1 then newV a b (xs.getD i.toNat 0) k.toNat else b))))
          False) False) False) False) False) False)
         (R (RO.next (sNum xs k n (IntKind.i64.wrap (i + 1)) a b))))
        (R (RO.next (sNum xs k n (IntKind.i64.wrap (i + 1)) a b))))
       (R (RO.next (sNum xs k n (IntKind.i64.wrap (i + 1)) a b))))) False) False) False)
     (R (RO.done NExit.normal (dNum a b))) := by kernel_rfl
noncomputable def lNum : List Leaf × List (List Leaf) → Tr (NExit × St) := fun x => match x with
  | ([.i k, .l xs, .i n, .i i], [[.l [a, b]]]) => .must (n = xs.length ∧ 0 ≤ i ∧ i ≤ n ∧ n ≤ 100 ∧ 0 ≤ k ∧ k ≤ i ∧ 0 ≤ a ∧ a ≤ 100 ∧ 0 ≤ b ∧ b ≤ 100 ∧ ∀ c ∈ xs, 0 ≤ c ∧ c < 256) (.ret (.normal, dNum (nums (xs.drop i.toNat) k a b).1 (nums (xs.drop i.toNat) k a b).2))
  | _ => .fail
noncomputable def pNum : List Pat := pats 48 [(4, .p 0 0 0), (5, .i .i64), (8, .l .u8), (9, .i .i64), (10, .i .i64)]
theorem newV_eq (a b x : Int) (k : Nat) (ha : 0 ≤ [a, b].getD (0 + k) 0 ∧ [a, b].getD (0 + k) 0 ≤ 100) (hx : 48 ≤ x ∧ x ≤ 57) : newV a b x k = more ([a, b].getD (0 + k) 0) x := by
  unfold newV more
  generalize [a, b].getD (0 + k) 0 = y at *
  have h1 : IntKind.u8.wrap (x - 48) = x - 48 := by rw [IntKind.wrap_u8]; omega
  have h2 : IntKind.i64.wrap (x - 48) = x - 48 := by rw [IntKind.wrap_i64]; omega
  have h3 : IntKind.i64.wrap (10 * y) = 10 * y := by rw [IntKind.wrap_i64]; omega
  have h4 : IntKind.i64.wrap (10 * y + (x - 48)) = 10 * y + (x - 48) := by rw [IntKind.wrap_i64]; omega
  rw [h1, h2, h3, h4]
  by_cases c : 100 < 10 * y + (x - 48)
  · rw [if_pos c, decide_eq_true c]; rfl
  · rw [if_neg c, decide_eq_false c]; rfl
theorem more_le (a c : Int) (ha : 0 ≤ a) (hc : 48 ≤ c) : 0 ≤ more a c ∧ more a c ≤ 100 := by
  unfold more
  split <;> omega
set_option maxRecDepth 100000 in
theorem loop_num : LOk Tryz.prog [] 0 0 (bodyLoop fNumbers 0) (sumP pNum [.ints 1 137 .i64] lNum) := by
  refine sumP_ok (X := XNumbers) con_none mixed (LAll.none (by kernel_rfl)) [4, 5, 8, 9, 10] [4] _ _ _ (fun x => match x with
    | ([.i _, .l _, .i n, .i i], [[.l _]]) => (n - i).toNat
    | _ => 0) ?_
  rintro ⟨p, q⟩ R h
  unfold lNum at h
  split at h
  case h_2 => exact h.elim
  rename_i k xs n i a b he
  cases he
  have h1 := h.1
  have h2 : R (.normal, dNum (nums (xs.drop i.toNat) k a b).1 (nums (xs.drop i.toNat) k a b).2) := h.2
  clear h
  obtain ⟨rfl, hi0, hin, hn, hk0, hki, ha0, ha1, hb0, hb1, hx⟩ := h1
  show (roundT XNumbers 0 [4, 5, 8, 9, 10] [4] (bodyLoop fNumbers 0) (sNum xs k xs.length i a b)).run _
  rw [round_num]
  by_cases hlt : i < (xs.length : Int)
  · have hj : i.toNat < xs.length := by omega
    have hd : xs.drop i.toNat = xs.getD i.toNat 0 :: xs.drop (i.toNat + 1) := by
      rw [List.drop_eq_getElem_cons hj, List.getD_eq_getElem?_getD, List.getElem?_eq_getElem hj]; rfl
    have hxm : 0 ≤ xs.getD i.toNat 0 ∧ xs.getD i.toNat 0 < 256 := by
      rw [List.getD_eq_getElem?_getD, List.getElem?_eq_getElem hj]
      exact hx _ (List.getElem_mem hj)
    have hw : IntKind.i64.wrap (i + 1) = i + 1 := by rw [IntKind.wrap_i64]; omega
    have hk1 : IntKind.i64.wrap (k + 1) = k + 1 := by rw [IntKind.wrap_i64]; omega
    have ht : (i + 1).toNat = i.toNat + 1 := by omega
    generalize hx0 : xs.getD i.toNat 0 = x at *
    rw [hd] at h2
    simp only [nums] at h2
    have go : ∀ k' a' b' : Int, 0 ≤ k' → k' ≤ i + 1 → 0 ≤ a' → a' ≤ 100 → 0 ≤ b' → b' ≤ 100 → R (.normal, dNum (nums (xs.drop (i.toNat + 1)) k' a' b').1 (nums (xs.drop (i.toNat + 1)) k' a' b').2) →
        ∃ y, sNum xs k' xs.length (IntKind.i64.wrap (i + 1)) a' b' = mkSt pNum [.ints 1 137 .i64] y ∧ (match y with
          | ([.i _, .l _, .i n, .i i], [[.l _]]) => (n - i).toNat
          | _ => 0) < ((xs.length : Int) - i).toNat ∧ (lNum y).run R := fun k' a' b' g0 g1 g2 g3 g4 g5 g6 =>
      ⟨([.i k', .l xs, .i xs.length, .i (i + 1)], [[.l [a', b']]]), by rw [hw]; rfl, by simp only; omega, ⟨rfl, by omega, by omega, hn, g0, g1, g2, g3, g4, g5, hx⟩, by rw [ht]; exact g6⟩
    refine sel_iff.2 (.inl ⟨decide_eq_true hlt, sel_iff.2 (.inl ⟨decide_eq_true hi0, sel_iff.2 (.inl ⟨decide_eq_true hlt, sel_iff.2 (.inl ⟨decide_eq_true hj, ?_⟩)⟩)⟩)⟩)
    by_cases c59 : x = 59
    · rw [if_pos c59] at h2
      refine sel_iff.2 (.inl ⟨by rw [beq_iff_eq]; exact c59, ?_⟩)
      rw [hk1]
      exact go _ _ _ (by omega) (by omega) ha0 ha1 hb0 hb1 h2
    · rw [if_neg c59] at h2
      refine sel_iff.2 (.inr ⟨by rw [beq_eq_false_iff_ne]; exact c59, ?_⟩)
      by_cases c48 : x ≥ 48
      · refine sel_iff.2 (.inl ⟨decide_eq_true c48, ?_⟩)
        by_cases c57 : x ≤ 57
        · refine sel_iff.2 (.inl ⟨decide_eq_true c57, ?_⟩)
          by_cases ck : k < 2
          · rw [if_pos ⟨c48, c57, ck⟩] at h2
            have hkk : 0 + k.toNat < [a, b].length := by
              show 0 + k.toNat < 2
              omega
            refine sel_iff.2 (.inl ⟨decide_eq_true ck, sel_iff.2 (.inl ⟨decide_eq_true hk0, sel_iff.2 (.inl ⟨decide_eq_true ck, sel_iff.2 (.inl ⟨decide_eq_true hkk, sel_iff.2 (.inl ⟨decide_eq_true hk0, sel_iff.2 (.inl ⟨decide_eq_true ck, sel_iff.2 (.inl ⟨decide_eq_true hkk, ?_⟩)⟩)⟩)⟩)⟩)⟩)⟩)
            have hk01 : k = 0 ∨ k = 1 := by omega
            rcases hk01 with rfl | rfl
            · rw [newV_eq a b x (0 : Int).toNat ⟨ha0, ha1⟩ ⟨c48, c57⟩]
              have hm := more_le a x ha0 c48
              exact go 0 (more a x) b (by omega) (by omega) hm.1 hm.2 hb0 hb1 h2
            · rw [newV_eq a b x (1 : Int).toNat ⟨hb0, hb1⟩ ⟨c48, c57⟩]
              have hm := more_le b x hb0 c48
              exact go 1 a (more b x) (by omega) (by omega) ha0 ha1 hm.1 hm.2 h2
          · rw [if_neg (fun c => ck c.2.2)] at h2
            exact sel_iff.2 (.inr ⟨decide_eq_false ck, go k a b hk0 (by omega) ha0 ha1 hb0 hb1 h2⟩)
        · rw [if_neg (fun c => c57 c.2.1)] at h2
          exact sel_iff.2 (.inr ⟨decide_eq_false c57, go k a b hk0 (by omega) ha0 ha1 hb0 hb1 h2⟩)
      · rw [if_neg (fun c => c48 c.1)] at h2
        exact sel_iff.2 (.inr ⟨decide_eq_false c48, go k a b hk0 (by omega) ha0 ha1 hb0 hb1 h2⟩)
  · have hz : xs.drop i.toNat = [] := List.drop_eq_nil_iff.2 (by omega)
    rw [hz] at h2
    exact sel_iff.2 (.inr ⟨decide_eq_false hlt, h2⟩)
noncomputable def tNumbers0 : Con := fun args regs => if regs.length = 0 then nfun Tryz.prog [] (fun _ => Option.none) [(0, [4, 5, 8, 9, 10], sumP pNum [.ints 1 137 .i64] lNum)] fNumbers args regs else .fail
theorem kNumbers0 : Known Tryz.prog [] 108 tNumbers0 := known_loops 0 Tryz.func108 rfl (by kernel_rfl) mixed con_none (LAll.one (id := 0) (body := bodyLoop fNumbers 0) (by kernel_rfl) rfl loop_num)
def InBytes (xs : List Int) : Prop := ∀ c ∈ xs, 0 ≤ c ∧ c < 256
def min99 (a : Int) : Int := bif decide (99 < a) then 99 else a
theorem numbers_tree (xs : List Int) (R : Out → Prop) : (tNumbers0 [.c (.l .u8 xs)] []).run R =
    (((xs.length : Int) = xs.length ∧ 0 ≤ (0 : Int) ∧ (0 : Int) ≤ xs.length ∧ (xs.length : Int) ≤ 100 ∧ 0 ≤ (0 : Int) ∧ (0 : Int) ≤ 0 ∧ 0 ≤ (0 : Int) ∧ (0 : Int) ≤ 100 ∧ 0 ≤ (0 : Int) ∧ (0 : Int) ≤ 100 ∧ InBytes xs) ∧
      R ⟨.tu [.c (.i .i64 (min99 (nums (xs.drop (0 : Int).toNat) 0 0 0).1)), .c (.i .i64 (min99 (nums (xs.drop (0 : Int).toNat) 0 0 0).2))], []⟩) := by kernel_rfl
noncomputable def tNumbers : Con := fun args regs => match args, regs with
  | [.c (.l .u8 xs)], [] => .must (xs.length ≤ 100 ∧ InBytes xs) (.ret ⟨.tu [.c (.i .i64 (min99 (nums xs 0 0 0).1)), .c (.i .i64 (min99 (nums xs 0 0 0).2))], []⟩)
  | _, _ => .fail
set_option maxRecDepth 100000 in
theorem kNumbers : Known Tryz.prog [] 108 tNumbers := by
  refine kNumbers0.less fun args regs R h => ?_
  unfold tNumbers at h
  split at h
  case h_2 => exact h.elim
  rename_i xs
  have h1 := h.1
  have h2 := h.2
  clear h
  rw [numbers_tree, show xs.drop (0 : Int).toNat = xs from List.drop_zero]
  refine ⟨⟨rfl, Int.le_refl _, Int.natCast_nonneg _, by omega, Int.le_refl _, Int.le_refl _, Int.le_refl _, by omega, Int.le_refl _, by omega, h1.2⟩, h2⟩
end Go.Proofs.YtdijbpokklgjlaaGreatDoor.lex
