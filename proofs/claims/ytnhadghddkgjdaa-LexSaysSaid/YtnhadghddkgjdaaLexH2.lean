/-
  The document's lexer: its functions with numbers.
-/
import Derived.Test.YtnhadghddkgjdaaLexH1
set_option linter.unusedVariables false
namespace Go.Proofs.Ytnhadghddkgjdaa.lxr
open Go Go.Nx Go.Proofs.Ytnhadghddkgjdaa.lex Go.Proofs.Ytnhadghddkgjdaa.lxv

noncomputable abbrev fBra := Try.f68
noncomputable def XBra : Cx := { P := Try.prog, con := fun _ => Option.none, glob := [], m := 0, loops := [] }
def evC (l : List Int) : Reg := ⟨7, 49, .cells (l.map fun x => .i .i64 x)⟩
noncomputable def sBra (Q : List Int) (v k i x y z : Int) : St := { fr := frame 103 [(0, .v (.c (.l .u8 Q))), (2, .v (.c (.p 0 0 0))), (4, .v (.c (.p 1 0 0))), (5, .v (.c (.i .u8 v))), (6, .v (.c (.p 2 0 0))), (7, .v (.c (.i .i64 k))), (8, .v (.c (.i .i64 i)))], rg := [some (evC [0, 0, 0, 0, 0, 0, 0]), some (evC [12, 0, 0, 0, 0, 0, 0]), some ⟨1, 101, .ints .i64 [x, y, z]⟩] }
noncomputable def rndBra (s : St) : Tr RO := roundT XBra 0 [0, 2, 4, 5, 6, 7, 8] [2, 4, 5, 6] (bodyLoop fBra 0) s
noncomputable def dBra (v x y z : Int) : St := { fr := frame 103 [(2, .v (.c (.p 0 0 0))), (4, .v (.c (.p 1 0 0))), (5, .v (.c (.i .u8 v))), (6, .v (.c (.p 2 0 0)))], rg := [some (evC [0, 0, 0, 0, 0, 0, 0]), some (evC [12, 0, 0, 0, 0, 0, 0]), some ⟨1, 101, .ints .i64 [x, y, z]⟩] }
noncomputable def newW (x y z c : Int) (k : Nat) : Int := bif decide (99 < IntKind.i64.wrap (IntKind.i64.wrap (10 * [x, y, z].getD (0 + k) 0) + IntKind.i64.wrap (IntKind.u8.wrap (c - 48)))) then 99 else IntKind.i64.wrap (IntKind.i64.wrap (10 * [x, y, z].getD (0 + k) 0) + IntKind.i64.wrap (IntKind.u8.wrap (c - 48)))
noncomputable def p2w (k : Int) : Int := bif decide (2 < IntKind.i64.wrap (k + 1)) then 2 else IntKind.i64.wrap (k + 1)
def ix (i : Int) (Q : List Int) (A : Prop) : Prop := sel (decide (0 ≤ i)) (sel (decide (i < (Q.length : Int))) (sel (decide (i.toNat < Q.length)) A False) False) False
def ik (k : Int) (l : List Int) (A : Prop) : Prop := sel (decide (0 ≤ k)) (sel (decide (k < ((3 : Nat) : Int))) (sel (decide (0 + k.toNat < l.length)) A False) False) False
noncomputable def treeBra (Q : List Int) (v k i x y z : Int) (R : RO → Prop) : Prop :=
    sel (decide (i < IntKind.i64.wrap ((Q.length : Int) - 1))) (ix i Q
     (sel (Q.getD i.toNat 0 == 59) (R (RO.next (sBra Q v (p2w k) (w64 (i + 1)) x y z)))
      (ix i Q (sel (decide (Q.getD i.toNat 0 ≤ 57)) (ik k [x, y, z] (ix i Q (ik k [x, y, z]
        (R (RO.next (sBra Q v k (w64 (i + 1)) (bif 0 + k.toNat == 0 then newW x y z (Q.getD i.toNat 0) k.toNat else x) (bif 0 + k.toNat == 1 then newW x y z (Q.getD i.toNat 0) k.toNat else y) (bif 0 + k.toNat == 2 then newW x y z (Q.getD i.toNat 0) k.toNat else z)))))))
        (R (RO.next (sBra Q v k (w64 (i + 1)) x y z)))))))
     (R (RO.done NExit.normal (dBra v x y z)))
theorem round_bra (Q : List Int) (v k i x y z : Int) (R : RO → Prop) : (rndBra (sBra Q v k i x y z)).run R = treeBra Q v k i x y z R := by kernel_rfl
/-- A number with one digit more, but no more than 99. -/
def more9 (a c : Int) : Int := if 99 < 10 * a + (c - 48) then 99 else 10 * a + (c - 48)
def p2 (k : Int) : Int := if 2 < k + 1 then 2 else k + 1
structure N3 where
  x : Int
  y : Int
  z : Int
def N3.up (n : N3) (k c : Int) : N3 := if k = 0 then ⟨more9 n.x c, n.y, n.z⟩ else if k = 1 then ⟨n.x, more9 n.y c, n.z⟩ else ⟨n.x, n.y, more9 n.z c⟩
def numsR : List Int → Int → N3 → N3
  | [], _, n => n
  | c :: l, k, n => if c = 59 then numsR l (p2 k) n else if c ≤ 57 then numsR l k (n.up k c) else numsR l k n
def ok3 (n : N3) : Prop := (0 ≤ n.x ∧ n.x ≤ 99) ∧ (0 ≤ n.y ∧ n.y ≤ 99) ∧ (0 ≤ n.z ∧ n.z ≤ 99)
def okQ (Q : List Int) : Prop := 3 ≤ Q.length ∧ Q.length ≤ 100 ∧ ∀ j, 2 ≤ j → j + 1 < Q.length → 48 ≤ Q.getD j 0 ∧ Q.getD j 0 < 256
theorem newW_eq (x y z c : Int) (k : Nat) (ha : 0 ≤ [x, y, z].getD (0 + k) 0 ∧ [x, y, z].getD (0 + k) 0 ≤ 99) (hx : 48 ≤ c ∧ c ≤ 57) : newW x y z c k = more9 ([x, y, z].getD (0 + k) 0) c := by
  unfold newW more9
  generalize [x, y, z].getD (0 + k) 0 = a at *
  have h1 : IntKind.u8.wrap (c - 48) = c - 48 := by rw [IntKind.wrap_u8]; omega
  have h2 : IntKind.i64.wrap (c - 48) = c - 48 := by rw [IntKind.wrap_i64]; omega
  have h3 : IntKind.i64.wrap (10 * a) = 10 * a := by rw [IntKind.wrap_i64]; omega
  have h4 : IntKind.i64.wrap (10 * a + (c - 48)) = 10 * a + (c - 48) := by rw [IntKind.wrap_i64]; omega
  rw [h1, h2, h3, h4]
  by_cases c : 99 < 10 * a + (c - 48)
  · rw [if_pos c, decide_eq_true c]; rfl
  · rw [if_neg c, decide_eq_false c]; rfl
theorem more9_le (a c : Int) (ha : 0 ≤ a) (hc : 48 ≤ c) : 0 ≤ more9 a c ∧ more9 a c ≤ 99 := by
  unfold more9
  split <;> omega
structure AR where
  Q : List Int
  v : Int
  k : Int
  i : Int
  n : N3
noncomputable def hBra (a : AR) : St := sBra a.Q a.v a.k a.i a.n.x a.n.y a.n.z
noncomputable def endBra (v : Int) (n : N3) : NExit × St := (.normal, dBra v n.x n.y n.z)
def preBra (a : AR) (R : NExit × St → Prop) : Prop := (okQ a.Q ∧ (2 ≤ a.i ∧ a.i + 1 ≤ (a.Q.length : Int)) ∧ (0 ≤ a.k ∧ a.k ≤ 2) ∧ ok3 a.n) ∧ R (endBra a.v (numsR (a.Q.dropLast.drop a.i.toNat) a.k a.n))
def nxtB (a : AR) (R : NExit × St → Prop) (o : RO) : Prop := match o with
  | .next s => ∃ y, s = hBra y ∧ ((y.Q.length : Int) - y.i).toNat < ((a.Q.length : Int) - a.i).toNat ∧ preBra y R
  | .done e s => R (e, s)
def rdB (s : St) : Option (List Int × Int) := match s.fr[(0 : Nat)]?, s.fr[(5 : Nat)]? with
  | some (.v (.c (.l _ Q))), some (.v (.c (.i _ v))) => some (Q, v)
  | _, _ => none
noncomputable def lBra (s : St) : Tr (NExit × St) := match rdB s with
  | some (Q, v) => .must (s = sBra Q v 0 2 0 0 0 ∧ okQ Q) (.ret (endBra v (numsR (Q.dropLast.drop 2) 0 ⟨0, 0, 0⟩)))
  | none => .fail
theorem ix_in {i : Int} {Q : List Int} {A : Prop} (h : 0 ≤ i ∧ i < (Q.length : Int)) (hA : A) : ix i Q A := selT (dT h.1) (selT (dT h.2) (selT (dT (by omega)) hA))
theorem ik_in {k x y z : Int} {A : Prop} (h : 0 ≤ k ∧ k ≤ 2) (hA : A) : ik k [x, y, z] A := selT (dT h.1) (selT (dT (by omega)) (selT (dT (by simp only [List.length_cons, List.length_nil]; omega)) hA))
set_option maxRecDepth 100000 in
theorem round_bra_in (Q : List Int) (v k i : Int) (n : N3) (R : NExit × St → Prop) (h : preBra ⟨Q, v, k, i, n⟩ R) : treeBra Q v k i n.x n.y n.z (nxtB ⟨Q, v, k, i, n⟩ R) := by
  obtain ⟨⟨⟨h3, h100, hQ⟩, hi, hk, hn⟩, hR⟩ := h
  simp only at hi hk hn hR h3 h100 hQ
  have hw : w64 (i + 1) = i + 1 := by unfold w64; rw [IntKind.wrap_i64]; omega
  have hl : IntKind.i64.wrap ((Q.length : Int) - 1) = (Q.length : Int) - 1 := by rw [IntKind.wrap_i64]; omega
  unfold treeBra
  rw [hl]
  refine sel_by (fun hlt => ix_in (by omega) ?_) fun hlt => ?_
  · have hx := hQ i.toNat (by omega) (by omega)
    have hj : i.toNat < Q.dropLast.length := by rw [List.length_dropLast]; omega
    have hd : Q.dropLast.drop i.toNat = Q.getD i.toNat 0 :: Q.dropLast.drop (i.toNat + 1) := by
      rw [List.drop_eq_getElem_cons hj, List.getD_eq_getElem?_getD, List.getElem?_eq_getElem (by omega), List.getElem_dropLast]; rfl
    have ht : (i + 1).toNat = i.toNat + 1 := by omega
    rw [hd] at hR
    generalize Q.getD i.toNat 0 = c at *
    have go : ∀ (k' : Int) (n' : N3), (0 ≤ k' ∧ k' ≤ 2) → ok3 n' → R (endBra v (numsR (Q.dropLast.drop (i.toNat + 1)) k' n')) →
        nxtB ⟨Q, v, k, i, n⟩ R (RO.next (sBra Q v k' (w64 (i + 1)) n'.x n'.y n'.z)) := fun k' n' g1 g2 g3 =>
      ⟨⟨Q, v, k', i + 1, n'⟩, by rw [hw]; rfl, by simp only; omega, ⟨⟨h3, h100, hQ⟩, by simp only; omega, g1, g2⟩, by show R (endBra v (numsR (Q.dropLast.drop (i + 1).toNat) k' n')); rw [ht]; exact g3⟩
    by_cases c59 : c = 59
    · refine selT (bT c59) ?_
      have hp : p2w k = p2 k := by
        unfold p2w p2
        rw [show IntKind.i64.wrap (k + 1) = k + 1 by rw [IntKind.wrap_i64]; omega]
        by_cases hk2 : 2 < k + 1
        · rw [if_pos hk2, dT hk2]; rfl
        · rw [if_neg hk2, dF hk2]; rfl
      rw [hp]
      refine go (p2 k) n ?_ hn ?_
      · unfold p2; split <;> omega
      · unfold numsR at hR; rw [if_pos c59] at hR; exact hR
    · refine selF (bF c59) (ix_in (by omega) (sel_by (fun h57 => ik_in hk (ix_in (by omega) (ik_in hk ?_))) fun h57 => ?_))
      · unfold numsR at hR
        rw [if_neg c59, if_pos h57] at hR
        have hk3 : k = 0 ∨ k = 1 ∨ k = 2 := by omega
        rcases hk3 with rfl | rfl | rfl
        · rw [newW_eq n.x n.y n.z c (0 : Int).toNat hn.1 ⟨hx.1, h57⟩]
          exact go 0 ⟨more9 n.x c, n.y, n.z⟩ (by omega) ⟨more9_le _ _ hn.1.1 hx.1, hn.2⟩ hR
        · rw [newW_eq n.x n.y n.z c (1 : Int).toNat hn.2.1 ⟨hx.1, h57⟩]
          exact go 1 ⟨n.x, more9 n.y c, n.z⟩ (by omega) ⟨hn.1, more9_le _ _ hn.2.1.1 hx.1, hn.2.2⟩ hR
        · rw [newW_eq n.x n.y n.z c (2 : Int).toNat hn.2.2 ⟨hx.1, h57⟩]
          exact go 2 ⟨n.x, n.y, more9 n.z c⟩ (by omega) ⟨hn.1, hn.2.1, more9_le _ _ hn.2.2.1 hx.1⟩ hR
      · unfold numsR at hR
        rw [if_neg c59, if_neg h57] at hR
        exact go k n hk hn hR
  · have hz : Q.dropLast.drop i.toNat = [] := List.drop_eq_nil_iff.2 (by rw [List.length_dropLast]; omega)
    rw [hz] at hR
    exact hR
set_option maxRecDepth 100000 in
theorem loop_bra : LOk Try.prog [] 0 0 (bodyLoop fBra 0) lBra := by
  refine loop_ok (X := XBra) con_none mixed (LAll.none (by kernel_rfl)) [0, 2, 4, 5, 6, 7, 8] [2, 4, 5, 6] hBra (fun a => ((a.Q.length : Int) - a.i).toNat) preBra ?_ ?_
  · intro s R h
    unfold lBra at h
    split at h
    case h_2 => exact h.elim
    rename_i Q v hrd
    obtain ⟨⟨hs, hQ⟩, hR⟩ := h
    exact ⟨⟨Q, v, 0, 2, ⟨0, 0, 0⟩⟩, hs, ⟨hQ, ⟨by simp only; omega, by have := hQ.1; simp only; omega⟩, by simp only; omega, by unfold ok3; simp only; omega⟩, hR⟩
  · intro a R h
    obtain ⟨Q, v, k, i, n⟩ := a
    have := (Box.of_eq (round_bra Q v k i n.x n.y n.z (nxtB ⟨Q, v, k, i, n⟩ R)) (round_bra_in Q v k i n R h)).out
    refine Tr.run_mono _ (fun o ho => ?_) this
    exact ho
noncomputable def t_bra : Con := fun args regs => if regs.length = 0 then nfun Try.prog [] (fun _ => Option.none) [(0, [0, 2, 4, 5, 6, 7, 8], lBra)] fBra args regs else .fail
theorem k_bra : Known Try.prog [] 68 t_bra := known_loops 0 Try.func68 rfl (by kernel_rfl) mixed con_none (LAll.one (id := 0) (body := bodyLoop fBra 0) (by kernel_rfl) rfl loop_bra)
end Go.Proofs.Ytnhadghddkgjdaa.lxr
