/-
  A packet's parts: so many bytes of it.
-/
import Derived.Test.YthjdlanmfiofdaaDoorHdB
namespace Go.Proofs.YthjdlanmfiofdaaDoor.hd
open Go Go.Nx Go.Proofs.YthjdlanmfiofdaaDoor.pk Go.Proofs.YthjdlanmfiofdaaDoor.ln

noncomputable abbrev fPart := Tryd.f62
noncomputable def cPart : FuncId → Option Con := conOf [(85, tAt)]
theorem kcPart : ∀ f T, cPart f = some T → Known Tryd.prog GL f T := (Knowns.cons kAt .nil).get
noncomputable def XPart : Cx := { P := Tryd.prog, con := cPart, glob := GL, m := 0, loops := [] }
noncomputable def sPart (fr m r k c : Int) (ds xs : List Int) (q : Nat) (n i : Int) : St := { fr := frame 26 [(1, .v (.c (.i .i64 fr))), (3, .v (.c (.p 0 0 0))), (7, .v (.c (.h 1 0 q))), (12, .v (.c (.i .i64 n))), (13, .v (.c (.i .i64 i)))], rg := [some ⟨5, 28, .cells [.i .i64 m, .i .i64 r, .i .i64 k, .i .i64 c, .l .u8 ds]⟩, some ⟨1, 5, .ints .u8 xs⟩] }
noncomputable def dPart (xs : List Int) (q : Nat) : St := { fr := frame 26 [(7, .v (.c (.h 0 0 q)))], rg := [some ⟨1, 5, .ints .u8 xs⟩] }
theorem round_part (fr m r k c : Int) (ds xs : List Int) (q : Nat) (n i : Int) (R : RO → Prop) : (roundT XPart 0 [1, 3, 7, 12, 13] [7] (bodyLoop fPart 0) (sPart fr m r k c ds xs q n i)).run R =
    sel (decide (i < n)) ((0 ≤ IntKind.i64.wrap (fr + i) ∧ IntKind.i64.wrap (fr + i) < (ds.length : Int)) ∧ sel (decide (0 ≤ i)) (sel (decide (i < (q : Int))) (sel (decide (0 + i.toNat < xs.length)) (R (.next (sPart fr m r k c ds (setI xs (0 + i.toNat) (ds.getD (IntKind.i64.wrap (fr + i)).toNat 0) 0) q n (IntKind.i64.wrap (i + 1))))) False) False) False)
    (R (.done .normal (dPart xs q))) := by kernel_rfl
noncomputable def pPart : List Pat := pats 26 [(1, .i .i64), (3, .p 0 0 0), (7, .h 1 0), (12, .i .i64), (13, .i .i64)]
def rPart : List RPat := [.cells 5 28 [.i .i64, .i .i64, .i .i64, .i .i64, .l .u8], .ints 1 5 .u8]
/-- From place i on, what stands behind f. -/
def fillP (ds : List Int) (f i : Nat) : Nat → List Int → List Int
  | _, [] => []
  | k, x :: xs => (match Nat.blt k i with | true => x | false => ds.getD (f + k) 0) :: fillP ds f i (k + 1) xs
theorem fill_set (ds : List Int) (f i : Nat) : ∀ (k : Nat) (xs : List Int) (j : Nat), k + j = i → j < xs.length → fillP ds f (i + 1) k (xs.set j (ds.getD (f + i) 0)) = fillP ds f i k xs
  | _, [], _, _, h => by simp at h
  | k, x :: xs, 0, h, _ => by
    have e : k = i := by omega
    subst e
    show (match Nat.blt k (k + 1) with | true => _ | false => _) :: _ = (match Nat.blt k k with | true => _ | false => _) :: _
    rw [show Nat.blt k (k + 1) = true by simp [Nat.blt_eq], show Nat.blt k k = false by rw [← Bool.not_eq_true, Nat.blt_eq]; omega]
    congr 1
    exact fill_over ds f (k + 1) k (k + 1) xs (by omega) (by omega)
  | k, x :: xs, j + 1, h, hl => by
    have h1 := fill_set ds f i (k + 1) xs j (by omega) (by simpa using hl)
    show (match Nat.blt k (i + 1) with | true => x | false => _) :: fillP ds f (i + 1) (k + 1) (xs.set j (ds.getD (f + i) 0)) = (match Nat.blt k i with | true => x | false => _) :: _
    rw [h1, show Nat.blt k (i + 1) = true by rw [Nat.blt_eq]; omega, show Nat.blt k i = true by rw [Nat.blt_eq]; omega]
where
  fill_over (ds : List Int) (f i i2 : Nat) : ∀ (k : Nat) (xs : List Int), i ≤ k → i2 ≤ k → fillP ds f i k xs = fillP ds f i2 k xs
  | _, [], _, _ => rfl
  | k, x :: xs, h, h2 => by
    show (match Nat.blt k i with | true => _ | false => _) :: _ = (match Nat.blt k i2 with | true => _ | false => _) :: _
    rw [fill_over ds f i i2 (k + 1) xs (by omega) (by omega), show Nat.blt k i = false by rw [← Bool.not_eq_true, Nat.blt_eq]; omega, show Nat.blt k i2 = false by rw [← Bool.not_eq_true, Nat.blt_eq]; omega]
theorem fill_end (ds : List Int) (f i : Nat) : ∀ (k : Nat) (xs : List Int), k + xs.length ≤ i → fillP ds f i k xs = xs
  | _, [], _ => rfl
  | k, x :: xs, h => by
    have h : k + (xs.length + 1) ≤ i := h
    show (match Nat.blt k i with | true => _ | false => _) :: _ = _
    rw [fill_end ds f i (k + 1) xs (by omega), show Nat.blt k i = true by rw [Nat.blt_eq]; omega]
theorem fill_length (ds : List Int) (f i : Nat) : ∀ (k : Nat) (xs : List Int), (fillP ds f i k xs).length = xs.length
  | _, [] => rfl
  | k, x :: xs => by show (fillP ds f i (k + 1) xs).length + 1 = _; rw [fill_length ds f i (k + 1) xs]; rfl
noncomputable def lPart : List Leaf × List (List Leaf) → Tr (NExit × St) := fun x => match x with
  | ([.i fr, .n q, .i n, .i i], [[.i _, .i _, .i _, .i _, .l ds], [.l xs]]) => .must (n = (q : Int) ∧ q = xs.length ∧ 0 ≤ i ∧ i ≤ n ∧ 0 ≤ fr ∧ fr + n ≤ (ds.length : Int) ∧ fr + n < 1000000) (.ret (.normal, dPart (fillP ds fr.toNat i.toNat 0 xs) q))
  | _ => .fail
def muPart : List Leaf × List (List Leaf) → Nat := fun x => match x with
  | ([.i _, .n _, .i n, .i i], _) => (n - i).toNat
  | _ => 0
set_option maxRecDepth 100000 in
theorem loop_part : LOk Tryd.prog GL 0 0 (bodyLoop fPart 0) (sumP pPart rPart lPart) := by
  refine sumP_ok (X := XPart) kcPart mixed (LAll.none (by kernel_rfl)) [1, 3, 7, 12, 13] [7] _ _ _ muPart ?_
  rintro ⟨a, b⟩ R h
  unfold lPart at h
  split at h
  case h_2 => exact h.elim
  rename_i fr q n i m r k c ds xs he
  cases he
  have h1 := h.1
  have h2 : R (.normal, dPart (fillP ds fr.toNat i.toNat 0 xs) q) := h.2
  clear h
  obtain ⟨rfl, hq, hi0, hin, hf, hd, hs⟩ := h1
  show (roundT XPart 0 [1, 3, 7, 12, 13] [7] (bodyLoop fPart 0) (sPart fr m r k c ds xs q q i)).run _
  rw [round_part]
  refine sel_by (fun hlt => ?_) fun hge => ?_
  · have w1 : IntKind.i64.wrap (fr + i) = fr + i := by rw [IntKind.wrap_i64]; omega
    have w2 : IntKind.i64.wrap (i + 1) = i + 1 := by rw [IntKind.wrap_i64]; omega
    rw [w1, w2]
    refine ⟨by omega, selT (dT hi0) (selT (dT hlt) (selT (dT (by omega)) ?_))⟩
    refine ⟨([.i fr, .n q, .i q, .i (i + 1)], [[.i m, .i r, .i k, .i c, .l ds], [.l (setI xs (0 + i.toNat) (ds.getD (fr + i).toNat 0) 0)]]), rfl, by show ((q : Int) - (i + 1)).toNat < ((q : Int) - i).toNat; omega, ?_⟩
    rw [setI_set, Nat.zero_add]
    refine ⟨⟨rfl, by rw [List.length_set]; exact hq, by omega, by omega, hf, hd, hs⟩, ?_⟩
    show R (.normal, dPart (fillP ds fr.toNat (i + 1).toNat 0 (xs.set i.toNat (ds.getD (fr + i).toNat 0))) q)
    rw [show (i + 1).toNat = i.toNat + 1 by omega, show (fr + i).toNat = fr.toNat + i.toNat by omega, fill_set ds fr.toNat i.toNat 0 xs i.toNat (by omega) (by omega)]
    exact h2
  · rw [fill_end ds fr.toNat i.toNat 0 xs (by omega)] at h2
    exact h2
noncomputable def t_part : Con := fun args regs => if regs.length = 0 then nfun Tryd.prog GL cPart [(0, [1, 3, 7, 12, 13], sumP pPart rPart lPart)] fPart args regs else .fail
theorem k_part : Known Tryd.prog GL 62 t_part := known_loops 0 Tryd.func62 rfl (by kernel_rfl) mixed kcPart (LAll.one (id := 0) (body := bodyLoop fPart 0) (by kernel_rfl) rfl loop_part)
end Go.Proofs.YthjdlanmfiofdaaDoor.hd
