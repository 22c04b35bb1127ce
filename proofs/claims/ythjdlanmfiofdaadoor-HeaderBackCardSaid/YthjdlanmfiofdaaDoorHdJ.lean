/-
  HeaderBack: the loop that turns bits: its round.
-/
import Derived.Test.YthjdlanmfiofdaaDoorHdH
namespace Go.Nx
open Go
theorem LAll.three {X : Cx} {c : Code} {i1 i2 i3 : Nat} {b1 b2 b3 : Code} {l1 l2 l3 : List Nat} {L1 L2 L3 : St → Tr (NExit × St)} (hl : loopsIn c = [(i1, b1), (i2, b2), (i3, b3)]) (hx : X.loops = [(i1, l1, L1), (i2, l2, L2), (i3, l3, L3)]) (hne : i1 ≠ i2 ∧ i1 ≠ i3 ∧ i2 ≠ i3)
    (h1 : LOk X.P X.glob X.m i1 b1 L1) (h2 : LOk X.P X.glob X.m i2 b2 L2) (h3 : LOk X.P X.glob X.m i3 b3 L3) : LAll X c :=
  LAll.list hl fun p hp x hf => by
    rw [hx] at hf
    simp only [List.mem_cons, List.not_mem_nil, or_false] at hp
    rcases hp with rfl | rfl | rfl
    · simp at hf; subst hf; exact h1
    · simp [hne.1] at hf; subst hf; exact h2
    · simp [hne.2.1, hne.2.2] at hf; subst hf; exact h3
end Go.Nx
namespace Go.Proofs.YthjdlanmfiofdaaDoor.hd
open Go Go.Nx Go.Proofs.YthjdlanmfiofdaaDoor.pk Go.Proofs.YthjdlanmfiofdaaDoor.ln

/-- From place i on, each by g. -/
def mapF (g : Nat → Int → Int) (i : Nat) : Nat → List Int → List Int
  | _, [] => []
  | k, x :: xs => (bif Nat.blt k i then x else g k x) :: mapF g i (k + 1) xs
theorem blt_t {k i : Nat} (h : k < i) : Nat.blt k i = true := by rw [Nat.blt_eq]; exact h
theorem blt_f {k i : Nat} (h : ¬ k < i) : Nat.blt k i = false := by rw [← Bool.not_eq_true, Nat.blt_eq]; exact h
theorem mapF_over (g : Nat → Int → Int) (i i2 : Nat) : ∀ (k : Nat) (xs : List Int), i ≤ k → i2 ≤ k → mapF g i k xs = mapF g i2 k xs
  | _, [], _, _ => rfl
  | k, x :: xs, h, h2 => by
    show (bif Nat.blt k i then _ else _) :: _ = (bif Nat.blt k i2 then _ else _) :: _
    rw [mapF_over g i i2 (k + 1) xs (by omega) (by omega), blt_f (by omega), blt_f (by omega)]
theorem mapF_set (g : Nat → Int → Int) (i : Nat) (y : Int) : ∀ (k : Nat) (xs : List Int) (j : Nat), k + j = i → j < xs.length → y = g i (xs.getD j 0) → mapF g (i + 1) k (xs.set j y) = mapF g i k xs
  | _, [], _, _, h, _ => by simp at h
  | k, x :: xs, 0, h, _, hy => by
    have e : k = i := by omega
    subst e
    have hy : y = g k x := hy
    show (bif Nat.blt k (k + 1) then y else _) :: mapF g (k + 1) (k + 1) xs = (bif Nat.blt k k then _ else g k x) :: mapF g k (k + 1) xs
    rw [blt_t (by omega), blt_f (by omega), mapF_over g (k + 1) k (k + 1) xs (by omega) (by omega), hy]
    rfl
  | k, x :: xs, j + 1, h, hl, hy => by
    have h1 := mapF_set g i y (k + 1) xs j (by omega) (by simpa using hl) (by simpa using hy)
    show (bif Nat.blt k (i + 1) then x else _) :: mapF g (i + 1) (k + 1) (xs.set j y) = (bif Nat.blt k i then x else _) :: _
    rw [h1, blt_t (by omega), blt_t (by omega)]
theorem mapF_skip (g : Nat → Int → Int) (i : Nat) (hg : ∀ x, g i x = x) : ∀ (k : Nat) (xs : List Int), mapF g (i + 1) k xs = mapF g i k xs
  | _, [] => rfl
  | k, x :: xs => by
    show (bif Nat.blt k (i + 1) then x else _) :: _ = (bif Nat.blt k i then x else _) :: _
    rw [mapF_skip g i hg (k + 1) xs]
    by_cases h : k < i
    · rw [blt_t (by omega), blt_t h]
    · by_cases h2 : k = i
      · subst h2
        rw [blt_t (by omega), blt_f (by omega), hg x]
        rfl
      · rw [blt_f (by omega), blt_f (by omega)]
theorem mapF_end (g : Nat → Int → Int) (i : Nat) (hg : ∀ k, i ≤ k → ∀ x, g k x = x) : ∀ (k : Nat) (xs : List Int), mapF g i k xs = xs
  | _, [] => rfl
  | k, x :: xs => by
    show (bif Nat.blt k i then x else _) :: _ = _
    rw [mapF_end g i hg (k + 1) xs]
    by_cases h : k < i
    · rw [blt_t h]; rfl
    · rw [blt_f h, hg k (by omega)]; rfl
theorem mapF_length (g : Nat → Int → Int) (i : Nat) : ∀ (k : Nat) (xs : List Int), (mapF g i k xs).length = xs.length
  | _, [] => rfl
  | k, x :: xs => by show (mapF g i (k + 1) xs).length + 1 = _; rw [mapF_length g i (k + 1) xs]; rfl
theorem mapF_get (g : Nat → Int → Int) : ∀ (k : Nat) (xs : List Int) (j : Nat), j < xs.length → (mapF g 0 k xs).getD j 0 = g (k + j) (xs.getD j 0)
  | _, [], _, h => by simp at h
  | k, x :: xs, 0, _ => by show (bif Nat.blt k 0 then x else g k x) = _; rw [blt_f (by omega)]; rfl
  | k, x :: xs, j + 1, h => by
    show (mapF g 0 (k + 1) xs).getD j 0 = g (k + (j + 1)) (xs.getD j 0)
    rw [mapF_get g (k + 1) xs j (by simpa using h), show k + 1 + j = k + (j + 1) by omega]
noncomputable abbrev fHBack := Tryd.f6
noncomputable def XTurn : Cx := { P := Tryd.prog, con := fun _ => Option.none, glob := GL, m := 0, loops := [] }
noncomputable def sTurn (m2 p2 s2 o : Int) (c0 c1 c2 c3 c4 c5 c6 c7 c8 c9 c10 : Bool) (T bs : List Int) (ok : Bool) (A : List Int) (qa : Nat) (i : Int) : St := { fr := frame 145 [(4, .v (.c (.l .u8 T))), (5, .v (.c (.l .i64 bs))), (13, .v (.c (.b ok))), (14, .v (.c (.p 0 0 0))), (16, .v (.c (.h 1 0 qa))), (18, .v (.c (.i .i64 i)))], rg := [some ⟨15, 57, .cells [.i .i64 m2, .i .i64 p2, .i .i64 s2, .b c0, .b c1, .b c2, .b c3, .b c4, .b c5, .b c6, .b c7, .b c8, .b c9, .b c10, .i .i64 o]⟩, some ⟨1, 5, .ints .u8 A⟩] }
noncomputable def dTurn (m2 p2 s2 o : Int) (c0 c1 c2 c3 c4 c5 c6 c7 c8 c9 c10 : Bool) (T : List Int) (ok : Bool) (A : List Int) (qa : Nat) : St := { fr := frame 145 [(4, .v (.c (.l .u8 T))), (13, .v (.c (.b ok))), (14, .v (.c (.p 0 0 0))), (16, .v (.c (.h 1 0 qa)))], rg := [some ⟨15, 57, .cells [.i .i64 m2, .i .i64 p2, .i .i64 s2, .b c0, .b c1, .b c2, .b c3, .b c4, .b c5, .b c6, .b c7, .b c8, .b c9, .b c10, .i .i64 o]⟩, some ⟨1, 5, .ints .u8 A⟩] }
noncomputable def bit8 (x b : Int) : Int := x8 x (shlv .u8 1 (IntKind.u64.wrap (aI b 7)))
theorem round_turn (m2 p2 s2 o : Int) (c0 c1 c2 c3 c4 c5 c6 c7 c8 c9 c10 : Bool) (T bs : List Int) (ok : Bool) (A : List Int) (qa : Nat) (i : Int) (R : RO → Prop) : (roundT XTurn 2 [4, 5, 13, 14, 16, 18] [4, 13, 14, 16] (bodyLoop fHBack 2) (sTurn m2 p2 s2 o c0 c1 c2 c3 c4 c5 c6 c7 c8 c9 c10 T bs ok A qa i)).run R =
    sel (decide (i < 10)) (sel (decide (i < (bs.length : Int))) (sel (decide (0 ≤ i)) (sel (decide (i < (bs.length : Int))) (sel (decide (i.toNat < bs.length)) (sel (aI (bs.getD i.toNat 0) 8 == 0)
      (sel (decide (0 ≤ i)) (sel (decide (i < (qa : Int))) (sel (decide (0 + i.toNat < A.length)) (sel (decide (0 ≤ i)) (sel (decide (i < (bs.length : Int))) (sel (decide (i.toNat < bs.length)) (sel (decide (0 ≤ IntKind.u64.wrap (aI (bs.getD i.toNat 0) 7))) (sel (decide (0 ≤ i)) (sel (decide (i < (qa : Int))) (sel (decide (0 + i.toNat < A.length))
        (R (.next (sTurn m2 p2 s2 o c0 c1 c2 c3 c4 c5 c6 c7 c8 c9 c10 T bs ok (setI A (0 + i.toNat) (bit8 (A.getD (0 + i.toNat) 0) (bs.getD i.toNat 0)) 0) qa (IntKind.i64.wrap (i + 1))))) False) False) False) False) False) False) False) False) False) False)
      (R (.next (sTurn m2 p2 s2 o c0 c1 c2 c3 c4 c5 c6 c7 c8 c9 c10 T bs ok A qa (IntKind.i64.wrap (i + 1)))))) False) False) False)
      (R (.done .normal (dTurn m2 p2 s2 o c0 c1 c2 c3 c4 c5 c6 c7 c8 c9 c10 T ok A qa)))) (R (.done .normal (dTurn m2 p2 s2 o c0 c1 c2 c3 c4 c5 c6 c7 c8 c9 c10 T ok A qa))) := by kernel_rfl
/-- A byte of a header, as it is turned. -/
noncomputable def tbk (bs : List Int) (k : Nat) (x : Int) : Int := bif decide (k < 10) && decide (k < bs.length) then (bif aI (bs.getD k 0) 8 == 0 then bit8 x (bs.getD k 0) else x) else x
noncomputable def pTurn : List Pat := pats 145 [(4, .l .u8), (5, .l .i64), (13, .b), (14, .p 0 0 0), (16, .h 1 0), (18, .i .i64)]
def rTurn : List RPat := [.cells 15 57 [.i .i64, .i .i64, .i .i64, .b, .b, .b, .b, .b, .b, .b, .b, .b, .b, .b, .i .i64], .ints 1 5 .u8]
noncomputable def lTurn : List Leaf × List (List Leaf) → Tr (NExit × St) := fun x => match x with
  | ([.l T, .l bs, .b ok, .n qa, .i i], [[.i m2, .i p2, .i s2, .b c0, .b c1, .b c2, .b c3, .b c4, .b c5, .b c6, .b c7, .b c8, .b c9, .b c10, .i o], [.l A]]) => .must (A.length = 42 ∧ qa = 42 ∧ 0 ≤ i ∧ i ≤ 10) (.ret (.normal, dTurn m2 p2 s2 o c0 c1 c2 c3 c4 c5 c6 c7 c8 c9 c10 T ok (mapF (tbk bs) i.toNat 0 A) qa))
  | _ => .fail
def muTurn : List Leaf × List (List Leaf) → Nat := fun x => match x with
  | ([.l _, .l _, .b _, .n _, .i i], _) => (10 - i).toNat
  | _ => 0
theorem u64_7 (b : Int) : 0 ≤ IntKind.u64.wrap (aI b 7) ∧ IntKind.u64.wrap (aI b 7) < 8 := by
  rw [aI_7, IntKind.wrap_u64]
  omega
set_option maxRecDepth 100000 in
theorem loop_turn : LOk Tryd.prog GL 0 2 (bodyLoop fHBack 2) (sumP pTurn rTurn lTurn) := by
  refine sumP_ok (X := XTurn) con_none mixed (LAll.none (by kernel_rfl)) [4, 5, 13, 14, 16, 18] [4, 13, 14, 16] _ _ _ muTurn ?_
  rintro ⟨a, b⟩ R h
  unfold lTurn at h
  split at h
  case h_2 => exact h.elim
  rename_i T bs ok qa i m2 p2 s2 c0 c1 c2 c3 c4 c5 c6 c7 c8 c9 c10 o A he
  cases he
  have h1 := h.1
  have h2 : R (.normal, dTurn m2 p2 s2 o c0 c1 c2 c3 c4 c5 c6 c7 c8 c9 c10 T ok (mapF (tbk bs) i.toNat 0 A) qa) := h.2
  clear h
  obtain ⟨hA, rfl, hi0, hi⟩ := h1
  show (roundT XTurn 2 [4, 5, 13, 14, 16, 18] [4, 13, 14, 16] (bodyLoop fHBack 2) (sTurn m2 p2 s2 o c0 c1 c2 c3 c4 c5 c6 c7 c8 c9 c10 T bs ok A 42 i)).run _
  rw [round_turn]
  have fin : (∀ k, i.toNat ≤ k → ∀ x, tbk bs k x = x) → R (.normal, dTurn m2 p2 s2 o c0 c1 c2 c3 c4 c5 c6 c7 c8 c9 c10 T ok A 42) := fun hg => by
    rw [mapF_end (tbk bs) i.toNat hg] at h2
    exact h2
  refine sel_by (fun hlt => sel_by (fun hb => ?_) fun hb => ?_) fun hge => ?_
  · have w2 : IntKind.i64.wrap (i + 1) = i + 1 := by rw [IntKind.wrap_i64]; omega
    have hx : i.toNat < A.length := by omega
    have hy : i.toNat < bs.length := by omega
    have et : (i + 1).toNat = i.toNat + 1 := by omega
    rw [w2, Nat.zero_add]
    refine selT (dT hi0) (selT (dT hb) (selT (dT hy) ?_))
    have go : ∀ A2 : List Int, A2.length = 42 → mapF (tbk bs) (i.toNat + 1) 0 A2 = mapF (tbk bs) i.toNat 0 A → ∃ y, sTurn m2 p2 s2 o c0 c1 c2 c3 c4 c5 c6 c7 c8 c9 c10 T bs ok A2 42 (i + 1) = mkSt pTurn rTurn y ∧ muTurn y < muTurn ([.l T, .l bs, .b ok, .n 42, .i i], [[.i m2, .i p2, .i s2, .b c0, .b c1, .b c2, .b c3, .b c4, .b c5, .b c6, .b c7, .b c8, .b c9, .b c10, .i o], [.l A]]) ∧ (lTurn y).run R := by
      intro A2 hl hm
      refine ⟨([.l T, .l bs, .b ok, .n 42, .i (i + 1)], [[.i m2, .i p2, .i s2, .b c0, .b c1, .b c2, .b c3, .b c4, .b c5, .b c6, .b c7, .b c8, .b c9, .b c10, .i o], [.l A2]]), rfl, by show (10 - (i + 1)).toNat < (10 - i).toNat; omega, ⟨hl, rfl, by omega, by omega⟩, ?_⟩
      show R (.normal, dTurn m2 p2 s2 o c0 c1 c2 c3 c4 c5 c6 c7 c8 c9 c10 T ok (mapF (tbk bs) (i + 1).toNat 0 A2) 42)
      rw [et, hm]
      exact h2
    have ht : ∀ x, tbk bs i.toNat x = (bif aI (bs.getD i.toNat 0) 8 == 0 then bit8 x (bs.getD i.toNat 0) else x) := fun x => by
      unfold tbk
      rw [dT (show i.toNat < 10 by omega), dT hy]
      rfl
    cases hq : (aI (bs.getD i.toNat 0) 8 == 0) with
    | true =>
      refine selT rfl (selT (dT hi0) (selT (dT (by omega)) (selT (dT hx) (selT (dT hi0) (selT (dT hb) (selT (dT hy) (selT (dT (u64_7 _).1) (selT (dT hi0) (selT (dT (by omega)) (selT (dT hx) ?_))))))))))
      refine go _ ?_ ?_
      · rw [setI_set, List.length_set]; exact hA
      · rw [setI_set]
        refine mapF_set (tbk bs) i.toNat _ 0 A i.toNat (by omega) hx ?_
        rw [ht, hq]
        rfl
    | false =>
      refine selF rfl (go A hA (mapF_skip (tbk bs) i.toNat (fun x => ?_) 0 A))
      rw [ht, hq]
      rfl
  · refine fin fun k hk x => ?_
    unfold tbk
    rw [dF (show ¬ k < bs.length by omega), Bool.and_false]
    rfl
  · refine fin fun k hk x => ?_
    unfold tbk
    rw [dF (show ¬ k < 10 by omega), Bool.false_and]
    rfl
end Go.Proofs.YthjdlanmfiofdaaDoor.hd
