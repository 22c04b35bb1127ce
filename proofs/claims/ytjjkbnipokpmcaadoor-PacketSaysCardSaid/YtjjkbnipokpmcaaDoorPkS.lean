/-
  Packets: the document's copy of bytes, its kinds.
-/
import Derived.Test.YtjjkbnipokpmcaaDoorPkR
namespace Go.Proofs.YtjjkbnipokpmcaaDoor.pk
open Go Go.Nx

noncomputable abbrev fCopy := Tryd.f23
noncomputable def XCopy : Cx := { P := Tryd.prog, con := fun _ => Option.none, glob := [], m := 0, loops := [] }
noncomputable def sCopy (xs ys : List Int) (n : Nat) (i : Int) : St := { fr := frame 22 [(0, .v (.c (.l .u8 xs))), (3, .v (.c (.h 0 0 n))), (4, .v (.c (.i .i64 i)))], rg := [some ⟨1, 5, .ints .u8 ys⟩] }
noncomputable def dCopy (ys : List Int) (n : Nat) : St := { fr := frame 22 [(3, .v (.c (.h 0 0 n)))], rg := [some ⟨1, 5, .ints .u8 ys⟩] }
theorem round_copy (xs ys : List Int) (n : Nat) (i : Int) (R : RO → Prop) : (roundT XCopy 0 [0, 3, 4] [3] (bodyLoop fCopy 0) (sCopy xs ys n i)).run R =
    sel (decide (i < (xs.length : Int))) (sel (decide (0 ≤ i)) (sel (decide (i < (xs.length : Int))) (sel (decide (i.toNat < xs.length)) (sel (decide (0 + n ≤ ys.length)) (sel (decide ((n + 1) * bytesT Tryd.prog 5 ≤ 140737488355328)) (sel (decide (n + 1 ≤ 9223372036854775807))
      (R (.next (sCopy xs (List.take n (List.drop 0 ys) ++ [xs.getD i.toNat 0]) (n + 1) (IntKind.i64.wrap (i + 1))))) False) False) False) False) False) False) (R (.done .normal (dCopy ys n))) := by kernel_rfl
noncomputable def pCopy : List Pat := pats 22 [(0, .l .u8), (3, .h 0 0), (4, .i .i64)]
def rCopy : List RPat := [.ints 1 5 .u8]
noncomputable def lCopy : List Leaf × List (List Leaf) → Tr (NExit × St) := fun a => match a with
  | ([.l xs, .n n, .i i], [[.l ys]]) => .must (n = ys.length ∧ i = (ys.length : Int) ∧ ys.length ≤ xs.length ∧ xs.length ≤ 1000000 ∧ ys = xs.take ys.length) (.ret (.normal, dCopy xs xs.length))
  | _ => .fail
def muCopy : List Leaf × List (List Leaf) → Nat := fun a => match a with
  | ([.l xs, .n _, .i i], _) => ((xs.length : Int) - i).toNat
  | _ => 0
set_option maxRecDepth 100000 in
theorem loop_copy : LOk Tryd.prog [] 0 0 (bodyLoop fCopy 0) (sumP pCopy rCopy lCopy) := by
  refine sumP_ok (X := XCopy) con_none mixed (LAll.none (by kernel_rfl)) [0, 3, 4] [3] _ _ _ muCopy ?_
  rintro ⟨a, b⟩ R hh
  unfold lCopy at hh
  split at hh
  case h_2 => exact hh.elim
  rename_i xs n i ys he
  cases he
  have h1 := hh.1
  have h2 : R (.normal, dCopy xs xs.length) := hh.2
  clear hh
  obtain ⟨rfl, rfl, hl, hm, hy⟩ := h1
  show (roundT XCopy 0 [0, 3, 4] [3] (bodyLoop fCopy 0) (sCopy xs ys ys.length ys.length)).run _
  rw [round_copy, bytes1]
  have et : ((ys.length : Nat) : Int).toNat = ys.length := by simp
  rw [et]
  refine sel_by (fun hlt => ?_) fun hge => ?_
  · have hx : ys.length < xs.length := by omega
    have hw : IntKind.i64.wrap ((ys.length : Int) + 1) = (((ys.length + 1 : Nat)) : Int) := by rw [IntKind.wrap_i64]; omega
    refine selT (dT (by omega)) (selT (dT hlt) (selT (dT hx) (selT (dT (by omega)) (selT (dT (by omega)) (selT (dT (by omega)) ?_)))))
    have ey : List.take ys.length (List.drop 0 ys) = ys := by rw [List.drop_zero, List.take_length]
    have eg : xs.getD ys.length 0 = xs[ys.length] := by rw [List.getD_eq_getElem?_getD, List.getElem?_eq_getElem hx]; rfl
    rw [ey, hw]
    have elen : (ys ++ [xs.getD ys.length 0]).length = ys.length + 1 := by simp
    refine ⟨([.l xs, .n (ys.length + 1), .i ((ys.length + 1 : Nat) : Int)], [[.l (ys ++ [xs.getD ys.length 0])]]), rfl, by show ((xs.length : Int) - ((ys.length + 1 : Nat) : Int)).toNat < ((xs.length : Int) - (ys.length : Int)).toNat; omega, ⟨elen.symm, by rw [elen], by rw [elen]; omega, hm, ?_⟩, h2⟩
    rw [elen, eg, List.take_add_one, ← hy, List.getElem?_eq_getElem hx]
    rfl
  · have e : ys.length = xs.length := by omega
    have e2 : ys = xs := by rw [hy, e, List.take_length]
    rw [e2]
    exact h2
noncomputable def tCopy0 : Con := fun args regs => if regs.length = 0 then nfun Tryd.prog [] (fun _ => Option.none) [(0, [0, 3, 4], sumP pCopy rCopy lCopy)] fCopy args regs else .fail
theorem kCopy0 : Known Tryd.prog [] 23 tCopy0 := known_loops 0 Tryd.func23 rfl (by kernel_rfl) mixed con_none (LAll.one (id := 0) (body := bodyLoop fCopy 0) (by kernel_rfl) rfl loop_copy)
theorem copy_tree (xs : List Int) (R : Out → Prop) : (tCopy0 [.c (.l .u8 xs)] []).run R =
    sel (decide ((xs.length : Int) * ((bytesT Tryd.prog 5 : Nat) : Int) ≤ 140737488355328)) (sel (decide ((xs.length : Int) ≤ 9223372036854775807))
      ((0 = ([] : List Int).length ∧ (0 : Int) = (([] : List Int).length : Int) ∧ ([] : List Int).length ≤ xs.length ∧ xs.length ≤ 1000000 ∧ [] = xs.take ([] : List Int).length) ∧ R (oL xs)) False) False := by kernel_rfl
noncomputable def tCopy : Con := fun args regs => match args, regs with
  | [.c (.l .u8 ds)], [] => .must (ds.length ≤ 1000000) (.ret (oL ds))
  | _, _ => .fail
theorem copy_in {xs : List Int} {R : Out → Prop} (h1 : xs.length ≤ 1000000) (h2 : R (oL xs)) : Box ((tCopy0 [.c (.l .u8 xs)] []).run R) := by
  refine Box.of_eq (copy_tree xs R) ?_
  rw [bytes1]
  exact selT (dT (by omega)) (selT (dT (by omega)) ⟨⟨rfl, rfl, Nat.zero_le _, h1, rfl⟩, h2⟩)
set_option maxRecDepth 100000 in
theorem kCopy : Known Tryd.prog [] 23 tCopy := by
  refine kCopy0.less fun args regs R h => Box.out ?_
  unfold tCopy at h
  split at h
  case h_2 => exact h.elim
  exact copy_in h.1 h.2
theorem rkind_tree (row : Int) (R : Out → Prop) : (t_rkind [.c (.i .i64 row)] []).run R =
    sel (row == 0) (R ⟨.v (.c (.i .i64 1)), []⟩) (sel (decide (row ≥ 1)) (sel (decide (row ≤ 24)) (R ⟨.v (.c (.i .i64 2)), []⟩) (sel (decide (row ≥ 26)) (sel (decide (row ≤ 30)) (R ⟨.v (.c (.i .i64 (IntKind.i64.wrap (IntKind.i64.wrap (row - 26) + 3)))), []⟩) (R ⟨.v (.c (.i .i64 0)), []⟩)) (R ⟨.v (.c (.i .i64 0)), []⟩)))
      (sel (decide (row ≥ 26)) (sel (decide (row ≤ 30)) (R ⟨.v (.c (.i .i64 (IntKind.i64.wrap (IntKind.i64.wrap (row - 26) + 3)))), []⟩) (R ⟨.v (.c (.i .i64 0)), []⟩)) (R ⟨.v (.c (.i .i64 0)), []⟩))) := by kernel_rfl
theorem rkind_in {row : Int} {R : Out → Prop} (h : R ⟨.v (.c (.i .i64 (kindF row))), []⟩) : Box ((t_rkind [.c (.i .i64 row)] []).run R) := by
  refine Box.of_eq (rkind_tree row R) ?_
  unfold kindF at h
  have key : R ⟨.v (.c (.i .i64 (bif decide (row ≥ 26) && decide (row ≤ 30) then row - 23 else 0))), []⟩ → sel (decide (row ≥ 26)) (sel (decide (row ≤ 30)) (R ⟨.v (.c (.i .i64 (IntKind.i64.wrap (IntKind.i64.wrap (row - 26) + 3)))), []⟩) (R ⟨.v (.c (.i .i64 0)), []⟩)) (R ⟨.v (.c (.i .i64 0)), []⟩) := by
    intro h
    refine sel_by (fun h1 => sel_by (fun h2 => ?_) fun h2 => ?_) fun h1 => ?_
    · have w1 : IntKind.i64.wrap (row - 26) = row - 26 := by rw [IntKind.wrap_i64]; omega
      have w2 : IntKind.i64.wrap (row - 26 + 3) = row - 23 := by rw [IntKind.wrap_i64]; omega
      rw [dT h1, dT h2] at h
      rw [w1, w2]
      exact h
    · rw [dT h1, dF h2] at h; exact h
    · rw [dF h1] at h; exact h
  by_cases h0 : row = 0
  · subst h0; exact h
  · rw [dF h0] at h
    refine selF (by simpa using h0) (sel_by (fun h1 => sel_by (fun h2 => ?_) fun h2 => ?_) fun h1 => ?_)
    · rw [dT h1, dT h2] at h; exact h
    · rw [dT h1, dF h2] at h; exact key h
    · rw [dF h1] at h; exact key h
set_option maxRecDepth 100000 in
theorem kRKind : Known Tryd.prog [] 14 tKind := by
  refine k_rkind.less fun args regs R h => Box.out ?_
  unfold tKind at h
  split at h
  case h_2 => exact h.elim
  exact rkind_in h
noncomputable def c_rread : FuncId → Option Con := conOf [(22, tGet), (23, tCopy), (14, tKind)]
theorem kc_rread : ∀ f T, c_rread f = some T → Known Tryd.prog [] f T := (Knowns.cons kRGet (.cons kCopy (.cons kRKind .nil))).get
noncomputable def t_rread : Con := fun args regs => nfun Tryd.prog [] c_rread [] Tryd.f9 args regs
theorem k_rread : Known Tryd.prog [] 9 t_rread := known_inl Tryd.func9 rfl (by kernel_rfl) mixed kc_rread (by kernel_rfl)
end Go.Proofs.YtjjkbnipokpmcaaDoor.pk
