/-
  Lists, changed from a place on; three loops.
-/
import Derived.Test.YthjdlanmfiofdaaDoorEng24
namespace Go.Nx
open Go
/-- A tree along a road: 'some b' is a fork that goes to b, 'none' one that is left. -/
def Tr.follow {α : Type} : Tr α → List (Option Bool) → Tr α
  | .ret a, _ => .ret a
  | .must p x, bs => .must p (x.follow bs)
  | .br c x y, [] => .br c x y
  | .br c x y, none :: bs => .br c (x.follow bs) (y.follow bs)
  | .br c x _, some true :: bs => .must (c = true) (x.follow bs)
  | .br c _ y, some false :: bs => .must (c = false) (y.follow bs)
  | .all p h f, _ => .all p h f
  | .fail, _ => .fail
theorem Tr.follow_run {α : Type} {R : α → Prop} : ∀ (t : Tr α) (bs : List (Option Bool)), (t.follow bs).run R → t.run R
  | .ret _, _, h => h
  | .must _ x, bs, h => ⟨h.1, follow_run x bs h.2⟩
  | .br _ _ _, [], h => h
  | .br c x y, none :: bs, h => by
    rcases sel_iff.1 h with ⟨hc, h⟩ | ⟨hc, h⟩
    · exact sel_iff.2 (.inl ⟨hc, follow_run x bs h⟩)
    · exact sel_iff.2 (.inr ⟨hc, follow_run y bs h⟩)
  | .br _ x _, some true :: bs, h => sel_iff.2 (.inl ⟨h.1, follow_run x bs h.2⟩)
  | .br _ _ y, some false :: bs, h => sel_iff.2 (.inr ⟨h.1, follow_run y bs h.2⟩)
  | .all _ _ _, _, h => h
  | .fail, _, h => h
/-- So many forks that are left. -/
def skips (n : Nat) (l : List (Option Bool)) : List (Option Bool) := List.replicate n none ++ l
theorem LAll.three {X : Cx} {c : Code} {i1 i2 i3 : Nat} {b1 b2 b3 : Code} {l1 l2 l3 : List Nat} {L1 L2 L3 : St → Tr (NExit × St)} (hl : loopsIn c = [(i1, b1), (i2, b2), (i3, b3)]) (hx : X.loops = [(i1, l1, L1), (i2, l2, L2), (i3, l3, L3)]) (hne : i1 ≠ i2 ∧ i1 ≠ i3 ∧ i2 ≠ i3)
    (h1 : LOk X.P X.glob X.m i1 b1 L1) (h2 : LOk X.P X.glob X.m i2 b2 L2) (h3 : LOk X.P X.glob X.m i3 b3 L3) : LAll X c :=
  LAll.list hl fun p hp x hf => by
    rw [hx] at hf
    simp only [List.mem_cons, List.not_mem_nil, or_false] at hp
    rcases hp with rfl | rfl | rfl
    · simp at hf; subst hf; exact h1
    · simp [hne.1] at hf; subst hf; exact h2
    · simp [hne.2.1, hne.2.2] at hf; subst hf; exact h3
end Go.Nx
namespace Go.Proofs.YthjdlanmfiofdaaDoor.hd
open Go Go.Nx

/-- From place i on, each by g. -/
def mapF (g : Nat → Int → Int) (i : Nat) : Nat → List Int → List Int
  | _, [] => []
  | k, x :: xs => (bif Nat.blt k i then x else g k x) :: mapF g i (k + 1) xs
theorem blt_t {k i : Nat} (h : k < i) : Nat.blt k i = true := by rw [Nat.blt_eq]; exact h
theorem blt_f {k i : Nat} (h : ¬ k < i) : Nat.blt k i = false := by rw [← Bool.not_eq_true, Nat.blt_eq]; exact h
theorem mapF_over (g : Nat → Int → Int) (i i2 : Nat) : ∀ (k : Nat) (xs : List Int), i ≤ k → i2 ≤ k → mapF g i k xs = mapF g i2 k xs
  | _, [], _, _ => rfl
  | k, x :: xs, h, h2 => by
    show (bif Nat.blt k i then _ else _) :: _ = (bif Nat.blt k i2 then _ else _) :: _
    rw [mapF_over g i i2 (k + 1) xs (by omega) (by omega), blt_f (by omega), blt_f (by omega)]
theorem mapF_set (g : Nat → Int → Int) (i : Nat) (y : Int) : ∀ (k : Nat) (xs : List Int) (j : Nat), k + j = i → j < xs.length → y = g i (xs.getD j 0) → mapF g (i + 1) k (xs.set j y) = mapF g i k xs
  | _, [], _, _, h, _ => by simp at h
  | k, x :: xs, 0, h, _, hy => by
    have e : k = i := by omega
    subst e
    have hy : y = g k x := hy
    show (bif Nat.blt k (k + 1) then y else _) :: mapF g (k + 1) (k + 1) xs = (bif Nat.blt k k then _ else g k x) :: mapF g k (k + 1) xs
    rw [blt_t (by omega), blt_f (by omega), mapF_over g (k + 1) k (k + 1) xs (by omega) (by omega), hy]
    rfl
  | k, x :: xs, j + 1, h, hl, hy => by
    have h1 := mapF_set g i y (k + 1) xs j (by omega) (by simpa using hl) (by simpa using hy)
    show (bif Nat.blt k (i + 1) then x else _) :: mapF g (i + 1) (k + 1) (xs.set j y) = (bif Nat.blt k i then x else _) :: _
    rw [h1, blt_t (by omega), blt_t (by omega)]
theorem mapF_skip (g : Nat → Int → Int) (i : Nat) (hg : ∀ x, g i x = x) : ∀ (k : Nat) (xs : List Int), mapF g (i + 1) k xs = mapF g i k xs
  | _, [] => rfl
  | k, x :: xs => by
    show (bif Nat.blt k (i + 1) then x else _) :: _ = (bif Nat.blt k i then x else _) :: _
    rw [mapF_skip g i hg (k + 1) xs]
    by_cases h : k < i
    · rw [blt_t (by omega), blt_t h]
    · by_cases h2 : k = i
      · subst h2
        rw [blt_t (by omega), blt_f (by omega), hg x]
        rfl
      · rw [blt_f (by omega), blt_f (by omega)]
theorem mapF_end (g : Nat → Int → Int) (i : Nat) (hg : ∀ k, i ≤ k → ∀ x, g k x = x) : ∀ (k : Nat) (xs : List Int), mapF g i k xs = xs
  | _, [] => rfl
  | k, x :: xs => by
    show (bif Nat.blt k i then x else _) :: _ = _
    rw [mapF_end g i hg (k + 1) xs]
    by_cases h : k < i
    · rw [blt_t h]; rfl
    · rw [blt_f h, hg k (by omega)]; rfl
theorem mapF_length (g : Nat → Int → Int) (i : Nat) : ∀ (k : Nat) (xs : List Int), (mapF g i k xs).length = xs.length
  | _, [] => rfl
  | k, x :: xs => by show (mapF g i (k + 1) xs).length + 1 = _; rw [mapF_length g i (k + 1) xs]; rfl
theorem mapF_get (g : Nat → Int → Int) : ∀ (k : Nat) (xs : List Int) (j : Nat), j < xs.length → (mapF g 0 k xs).getD j 0 = g (k + j) (xs.getD j 0)
  | _, [], _, h => by simp at h
  | k, x :: xs, 0, _ => by show (bif Nat.blt k 0 then x else g k x) = _; rw [blt_f (by omega)]; rfl
  | k, x :: xs, j + 1, h => by
    show (mapF g 0 (k + 1) xs).getD j 0 = g (k + (j + 1)) (xs.getD j 0)
    rw [mapF_get g (k + 1) xs j (by simpa using h), show k + 1 + j = k + (j + 1) by omega]
theorem mapF_append (g : Nat → Int → Int) : ∀ (k : Nat) (xs ys : List Int), mapF g 0 k (xs ++ ys) = mapF g 0 k xs ++ mapF g 0 (k + xs.length) ys
  | _, [], _ => rfl
  | k, x :: xs, ys => by
    show _ :: mapF g 0 (k + 1) (xs ++ ys) = _ :: (mapF g 0 (k + 1) xs ++ _)
    rw [mapF_append g (k + 1) xs ys, show k + 1 + xs.length = k + (xs.length + 1) by omega]
    rfl
theorem mapF_id (g : Nat → Int → Int) : ∀ (k : Nat) (xs : List Int), (∀ j, k ≤ j → ∀ x, g j x = x) → mapF g 0 k xs = xs
  | _, [], _ => rfl
  | k, x :: xs, h => by
    show (bif Nat.blt k 0 then x else g k x) :: mapF g 0 (k + 1) xs = _
    rw [mapF_id g (k + 1) xs fun j hj => h j (by omega), blt_f (by omega), h k (Nat.le_refl _)]
    rfl
end Go.Proofs.YthjdlanmfiofdaaDoor.hd
