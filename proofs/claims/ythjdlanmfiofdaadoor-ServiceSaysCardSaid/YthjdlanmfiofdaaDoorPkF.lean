/-
  Packets: rows of bytes that are the same.
-/
import Derived.Test.YthjdlanmfiofdaaDoorPkE
namespace Go.Nx
open Go
/-- A loop by either of two trees, by the state. -/
def orL (p : St → Bool) (L1 L2 : St → Tr (NExit × St)) (s : St) : Tr (NExit × St) :=
  match p s with
  | true => L1 s
  | false => L2 s
theorem orL_ok {P : Program} {gl : List Nat} {m id : Nat} {body : Code} {p : St → Bool} {L1 L2 : St → Tr (NExit × St)} (h1 : LOk P gl m id body L1) (h2 : LOk P gl m id body L2) : LOk P gl m id body (orL p L1 L2) := by
  intro Γ0 w0 h0 s Γ a w R Q hI hE hW hL hK
  unfold orL at hL
  split at hL
  · exact h1 Γ0 w0 h0 s Γ a w R Q hI hE hW hL hK
  · exact h2 Γ0 w0 h0 s Γ a w R Q hI hE hW hL hK
def St.isNil (s : St) (j : Nat) : Bool :=
  match s.fr[j]? with
  | some (.v (.c .sn)) => true
  | _ => false
end Go.Nx
namespace Go.Proofs.YthjdlanmfiofdaaDoor.pk
open Go Go.Nx

noncomputable abbrev fSame := Tryd.f23
noncomputable def XSame : Cx := { P := Tryd.prog, con := fun _ => Option.none, glob := [], m := 0, loops := [] }
noncomputable def sSame (xs ys : List Int) (i : Int) : St := { fr := frame 29 [(0, .v (.c (.l .u8 xs))), (1, .v (.c (.l .u8 ys))), (5, .v (.c (.i .i64 i)))], rg := [] }
noncomputable def dSameF : St := { fr := frame 29 [(4, .v (.c (.b false)))], rg := [] }
noncomputable def dSameT : St := { fr := frame 29 [], rg := [] }
theorem round_same (xs ys : List Int) (i : Int) (R : RO → Prop) : (roundT XSame 0 [0, 1, 5] [4] (bodyLoop fSame 0) (sSame xs ys i)).run R =
    sel (decide (i < (xs.length : Int))) (sel (decide (0 ≤ i)) (sel (decide (i < (xs.length : Int))) (sel (decide (i.toNat < xs.length)) (sel (decide (0 ≤ i)) (sel (decide (i < (ys.length : Int))) (sel (decide (i.toNat < ys.length))
      (sel (!(xs.getD i.toNat 0 == ys.getD i.toNat 0)) (R (.done .ret dSameF)) (R (.next (sSame xs ys (IntKind.i64.wrap (i + 1)))))) False) False) False) False) False) False) (R (.done .normal dSameT)) := by kernel_rfl
noncomputable def pSame : List Pat := pats 29 [(0, .l .u8), (1, .l .u8), (5, .i .i64)]
noncomputable def lSame : List Leaf × List (List Leaf) → Tr (NExit × St) := fun a => match a with
  | ([.l xs, .l ys, .i i], []) => .must (xs.length = ys.length ∧ xs.length ≤ 1000000 ∧ 0 ≤ i ∧ i ≤ (xs.length : Int)) (.br (xs.drop i.toNat == ys.drop i.toNat) (.ret (.normal, dSameT)) (.ret (.ret, dSameF)))
  | _ => .fail
def muSame : List Leaf × List (List Leaf) → Nat := fun a => match a with
  | ([.l xs, .l _, .i i], _) => ((xs.length : Int) - i).toNat
  | _ => 0
set_option maxRecDepth 100000 in
theorem loop_same : LOk Tryd.prog [] 0 0 (bodyLoop fSame 0) (sumP pSame [] lSame) := by
  refine sumP_ok (X := XSame) con_none mixed (LAll.none (by kernel_rfl)) [0, 1, 5] [4] _ _ _ muSame ?_
  rintro ⟨a, b⟩ R hh
  unfold lSame at hh
  split at hh
  case h_2 => exact hh.elim
  rename_i xs ys i he
  cases he
  have h1 := hh.1
  have h2 := sel_iff.1 hh.2
  clear hh
  obtain ⟨hl, hm, i0, il⟩ := h1
  show (roundT XSame 0 [0, 1, 5] [4] (bodyLoop fSame 0) (sSame xs ys i)).run _
  rw [round_same]
  refine sel_by (fun hlt => ?_) fun hge => ?_
  · have hx : i.toNat < xs.length := by omega
    have hy : i.toNat < ys.length := by omega
    have ex : xs.drop i.toNat = xs.getD i.toNat 0 :: xs.drop (i.toNat + 1) := by
      rw [List.drop_eq_getElem_cons hx, List.getD_eq_getElem?_getD, List.getElem?_eq_getElem hx]; rfl
    have ey : ys.drop i.toNat = ys.getD i.toNat 0 :: ys.drop (i.toNat + 1) := by
      rw [List.drop_eq_getElem_cons hy, List.getD_eq_getElem?_getD, List.getElem?_eq_getElem hy]; rfl
    have hw : IntKind.i64.wrap (i + 1) = i + 1 := by rw [IntKind.wrap_i64]; omega
    refine selT (dT i0) (selT (dT hlt) (selT (dT hx) (selT (dT i0) (selT (dT (by omega)) (selT (dT hy) ?_)))))
    have e : (xs.drop i.toNat == ys.drop i.toNat) = (xs.getD i.toNat 0 == ys.getD i.toNat 0 && xs.drop (i.toNat + 1) == ys.drop (i.toNat + 1)) := by rw [ex, ey, List.cons_beq_cons]
    rw [e] at h2
    cases hq : (xs.getD i.toNat 0 == ys.getD i.toNat 0) with
    | false =>
      rw [hq] at h2
      rcases h2 with ⟨h, -⟩ | ⟨-, h⟩
      · cases h
      · exact selT rfl h
    | true =>
      rw [hq, Bool.true_and] at h2
      refine selF rfl ⟨([.l xs, .l ys, .i (i + 1)], []), by rw [hw]; rfl, by show ((xs.length : Int) - (i + 1)).toNat < ((xs.length : Int) - i).toNat; omega, ⟨hl, hm, by omega, by omega⟩, ?_⟩
      have et : (i + 1).toNat = i.toNat + 1 := by omega
      show sel (xs.drop (i + 1).toNat == ys.drop (i + 1).toNat) _ _
      rw [et]
      exact sel_iff.2 h2
  · have ex : xs.drop i.toNat = [] := List.drop_eq_nil_iff.2 (by omega)
    have ey : ys.drop i.toNat = [] := List.drop_eq_nil_iff.2 (by omega)
    rw [ex, ey] at h2
    rcases h2 with ⟨-, h⟩ | ⟨h, -⟩
    · exact h
    · cases h
noncomputable def LSame : St → Tr (NExit × St) := orL (fun s => s.isNil 0 || s.isNil 1) (unroll XSame 0 [0, 1, 5] [4] (bodyLoop fSame 0) 1) (sumP pSame [] lSame)
theorem loop_same2 : LOk Tryd.prog [] 0 0 (bodyLoop fSame 0) LSame := orL_ok (unroll_ok (X := XSame) con_none mixed (LAll.none (by kernel_rfl)) [0, 1, 5] [4] 1) loop_same
noncomputable def tSame0 : Con := fun args regs => if regs.length = 0 then nfun Tryd.prog [] (fun _ => Option.none) [(0, [0, 1, 5], LSame)] fSame args regs else .fail
theorem kSame0 : Known Tryd.prog [] 23 tSame0 := known_loops 0 Tryd.func23 rfl (by kernel_rfl) mixed con_none (LAll.one (id := 0) (body := bodyLoop fSame 0) (by kernel_rfl) rfl loop_same2)
def oB (x : Bool) : Out := ⟨.v (.c (.b x)), []⟩
theorem same_tree (xs ys : List Int) (R : Out → Prop) : (tSame0 [.c (.l .u8 xs), .c (.l .u8 ys)] []).run R =
    sel ((xs.length : Int) != (ys.length : Int)) (R (oB false)) ((xs.length = ys.length ∧ xs.length ≤ 1000000 ∧ 0 ≤ (0 : Int) ∧ (0 : Int) ≤ (xs.length : Int)) ∧ sel (xs.drop (0 : Int).toNat == ys.drop (0 : Int).toNat) (R (oB true)) (R (oB false))) := by kernel_rfl
theorem same_nn (R : Out → Prop) : (tSame0 [.c .sn, .c .sn] []).run R = R (oB true) := by kernel_rfl
theorem same_nl (ys : List Int) (R : Out → Prop) : (tSame0 [.c .sn, .c (.l .u8 ys)] []).run R = sel ((0 : Int) != (ys.length : Int)) (R (oB false)) (R (oB true)) := by kernel_rfl
theorem same_ln (xs : List Int) (R : Out → Prop) : (tSame0 [.c (.l .u8 xs), .c .sn] []).run R = sel ((xs.length : Int) != 0) (R (oB false)) (sel (decide (0 < (xs.length : Int))) (sel (decide (0 ≤ (0 : Int))) (sel (decide (0 < (xs.length : Int))) (sel (decide ((0 : Int).toNat < xs.length)) False False) False) False) (R (oB true))) := by kernel_rfl
end Go.Proofs.YthjdlanmfiofdaaDoor.pk
