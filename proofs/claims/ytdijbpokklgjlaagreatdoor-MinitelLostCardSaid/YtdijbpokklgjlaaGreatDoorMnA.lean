/-
  The Minitel: bytes as they go out.
-/
import Derived.Test.YtdijbpokklgjlaaGreatDoorLexH1
import Derived.Test.YtdijbpokklgjlaaGreatDoorPrC
set_option linter.unusedVariables false
namespace Go.Proofs.YtdijbpokklgjlaaGreatDoor.mtl
open Go Go.Nx Go.Proofs.YtdijbpokklgjlaaGreatDoor.prt
open Go.Proofs.YtdijbpokklgjlaaGreatDoor.lex (arr lx InBytes mkEv tab c7 c7_all tab_size t_podd k_podd)

/-! ### a byte with its parity -/
noncomputable def c_pmo : FuncId → Option Con := conOf [(65, t_podd)]
theorem kc_pmo : ∀ f T, c_pmo f = some T → Known Tryz.prog [] f T := (Knowns.cons k_podd Knowns.nil).get
noncomputable def t_pmo : Con := fun args regs => nfun Tryz.prog [] c_pmo [] Tryz.f50 args regs
theorem k_pmo : Known Tryz.prog [] 50 t_pmo := known_inl Tryz.func50 rfl (by kernel_rfl) mixed kc_pmo (by kernel_rfl)
noncomputable def c_pme : FuncId → Option Con := conOf [(50, t_pmo)]
theorem kc_pme : ∀ f T, c_pme f = some T → Known Tryz.prog [] f T := (Knowns.cons k_pmo Knowns.nil).get
noncomputable def t_pme : Con := fun args regs => nfun Tryz.prog [] c_pme [] Tryz.f37 args regs
theorem k_pme : Known Tryz.prog [] 37 t_pme := known_inl Tryz.func37 rfl (by kernel_rfl) mixed kc_pme (by kernel_rfl)
theorem pme_tree (b : Int) (R : Out → Prop) : (t_pme [.c (.i .u8 b)] []).run R = sel (decide (0 ≤ c7 b)) (sel (decide (c7 b < (tab.size : Int))) (sel ((IntKind.i64.wrap (byteAt tab (c7 b).toNat)).tmod 2 == 1)
    (R (nO (bits .xor .u8 (c7 b) 128))) (R (nO (bits .xor .u8 (bits .or .u8 (c7 b) 128) 128)))) False) False := by kernel_rfl
theorem pm_all : ∀ n < 256, (bif (IntKind.i64.wrap (byteAt tab (n % 128))).tmod 2 == 1 then bits .xor .u8 (Int.ofNat (n % 128)) 128 else bits .xor .u8 (bits .or .u8 (Int.ofNat (n % 128)) 128) 128) = mkEv (Int.ofNat n) := by decide +kernel
noncomputable def tMkE : Con := fun args regs => match args, regs with
  | [.c (.i .u8 b)], [] => .must (0 ≤ b ∧ b < 256) (.ret (nO (mkEv b)))
  | _, _ => .fail
set_option maxRecDepth 100000 in
theorem kMkE : Known Tryz.prog [] 37 tMkE := by
  refine k_pme.less fun args regs R h => Box.out ?_
  unfold tMkE at h
  split at h
  case h_2 => exact h.elim
  rename_i b
  have h1 : 0 ≤ b ∧ b < 256 := h.1
  have h2 : R (nO (mkEv b)) := h.2
  clear h
  have e : b = Int.ofNat b.toNat := by show b = ((b.toNat : Nat) : Int); omega
  have hn : b.toNat < 256 := by omega
  generalize b.toNat = n at *
  subst e
  have hm := pm_all n hn
  refine Box.of_eq (pme_tree _ R) ?_
  rw [tab_size, c7_all n hn]
  have hl : n % 128 < 128 := Nat.mod_lt _ (by decide)
  refine selT (dT (by show (0 : Int) ≤ ((n % 128 : Nat) : Int); omega)) (selT (dT (by show ((n % 128 : Nat) : Int) < 256; omega)) ?_)
  show sel ((IntKind.i64.wrap (byteAt tab (n % 128))).tmod 2 == 1) _ _
  cases hb : (IntKind.i64.wrap (byteAt tab (n % 128))).tmod 2 == 1 with
  | true =>
    rw [hb] at hm
    have hm : bits .xor .u8 (Int.ofNat (n % 128)) 128 = mkEv (Int.ofNat n) := hm
    refine selT rfl ?_
    rw [hm]; exact h2
  | false =>
    rw [hb] at hm
    have hm : bits .xor .u8 (bits .or .u8 (Int.ofNat (n % 128)) 128) 128 = mkEv (Int.ofNat n) := hm
    refine selF rfl ?_
    rw [hm]; exact h2
theorem mkEv_in : ∀ n < 256, 0 ≤ mkEv (Int.ofNat n) ∧ mkEv (Int.ofNat n) < 256 := by decide +kernel
theorem mkEv_byte {b : Int} (h : 0 ≤ b ∧ b < 256) : 0 ≤ mkEv b ∧ mkEv b < 256 := by
  have e : b = Int.ofNat b.toNat := by show b = ((b.toNat : Nat) : Int); omega
  rw [e]
  exact mkEv_in _ (by omega)

/-! ### all bytes -/
def ix (i : Int) (Q : List Int) (A : Prop) : Prop := sel (decide (0 ≤ i)) (sel (decide (i < (Q.length : Int))) (sel (decide (i.toNat < Q.length)) A False) False) False
theorem ix_in {i : Int} {Q : List Int} {A : Prop} (h : 0 ≤ i ∧ i < (Q.length : Int)) (hA : A) : ix i Q A := selT (dT h.1) (selT (dT h.2) (selT (dT (by omega)) hA))
noncomputable def c_line : FuncId → Option Con := conOf [(37, tMkE)]
theorem kc_line : ∀ f T, c_line f = some T → Known Tryz.prog [] f T := (Knowns.cons kMkE Knowns.nil).get
noncomputable abbrev f_line := Tryz.f28
noncomputable def X_line : Cx := { P := Tryz.prog, con := c_line, glob := [], m := 0, loops := [] }
noncomputable def s_line (xs out : List Int) (n : Nat) (i : Int) : St := { fr := frame 19 [(3, .v (.c (.hz 0 n))), (6, .v (.c (.l .u8 xs))), (7, .v (.c (.i .i64 xs.length))), (8, .v (.c (.i .i64 i)))], rg := [some (arr out)] }
noncomputable def e_line (out : List Int) (n : Nat) : St := { fr := frame 19 [(3, .v (.c (.hz 0 n)))], rg := [some (arr out)] }
def ap8 (n m : Nat) (A : Prop) : Prop := sel (decide (n ≤ m)) (sel (decide ((n + 1) * 1 ≤ 140737488355328)) (sel (decide (n + 1 ≤ 9223372036854775807)) A False) False) False
theorem ap8_in {n m : Nat} {A : Prop} (h : n ≤ m) (hn : n ≤ 1000000) (hA : A) : ap8 n m A := selT (dT h) (selT (dT (by omega)) (selT (dT (by omega)) hA))
theorem round_line (xs out : List Int) (i : Int) (R : RO → Prop) : (roundT X_line 0 [3, 6, 7, 8] [3] (bodyLoop f_line 0) (s_line xs out out.length i)).run R =
    sel (decide (i < (xs.length : Int))) (ix i xs ((0 ≤ xs.getD i.toNat 0 ∧ xs.getD i.toNat 0 < 256) ∧ ap8 out.length out.length (R (.next (s_line xs (List.take out.length out ++ [mkEv (xs.getD i.toNat 0)]) (out.length + 1) (w64 (i + 1)))))))
      (R (.done .normal (e_line out out.length))) := by kernel_rfl
structure AL where
  xs : List Int
  out : List Int
  i : Int
noncomputable def hLn (a : AL) : St := s_line a.xs a.out a.out.length a.i
def preLn (a : AL) (R : NExit × St → Prop) : Prop := (0 ≤ a.i ∧ a.i ≤ (a.xs.length : Int)) ∧ a.xs.length ≤ 1000 ∧ a.out.length ≤ 1000 + a.i ∧ InBytes a.xs ∧
  R (.normal, e_line (a.out ++ (a.xs.drop a.i.toNat).map mkEv) (a.out ++ (a.xs.drop a.i.toNat).map mkEv).length)
def rdLn (s : St) : Option (List Int) := match s.fr[(6 : Nat)]? with
  | some (.v (.c (.l _ xs))) => some xs
  | _ => none
noncomputable def l_line (s : St) : Tr (NExit × St) := match rdLn s with
  | some xs => .must (s = s_line xs [] 0 0 ∧ xs.length ≤ 1000 ∧ InBytes xs) (.ret (.normal, e_line (xs.map mkEv) xs.length))
  | none => .fail
theorem drop_get {xs : List Int} {i : Int} (h : 0 ≤ i ∧ i < (xs.length : Int)) : xs.drop i.toNat = xs.getD i.toNat 0 :: xs.drop (i + 1).toNat := by
  have hj : i.toNat < xs.length := by omega
  rw [show (i + 1).toNat = i.toNat + 1 by omega, List.getD_eq_getElem?_getD, List.getElem?_eq_getElem hj]
  exact List.drop_eq_getElem_cons hj
theorem get_byte {xs : List Int} {i : Int} (hb : InBytes xs) (h : 0 ≤ i ∧ i < (xs.length : Int)) : 0 ≤ xs.getD i.toNat 0 ∧ xs.getD i.toNat 0 < 256 := by
  have hj : i.toNat < xs.length := by omega
  rw [List.getD_eq_getElem?_getD, List.getElem?_eq_getElem hj]
  exact hb _ (List.getElem_mem hj)
set_option maxRecDepth 100000 in
theorem loop_line : LOk Tryz.prog [] 0 0 (bodyLoop f_line 0) l_line := by
  refine loop_ok (X := X_line) kc_line mixed (LAll.none (by kernel_rfl)) [3, 6, 7, 8] [3] hLn (fun a => ((a.xs.length : Int) - a.i).toNat) preLn ?_ ?_
  · intro s R h
    unfold l_line at h
    split at h
    case h_2 => exact h.elim
    rename_i xs hrd
    obtain ⟨⟨hs, hl, hb⟩, hR⟩ := h
    refine ⟨⟨xs, [], 0⟩, hs, ⟨by simp only; omega, by simp only; omega⟩, hl, by simp, hb, ?_⟩
    show R (.normal, e_line ([] ++ (xs.drop 0).map mkEv) ([] ++ (xs.drop 0).map mkEv).length)
    rw [List.drop_zero, List.nil_append, List.length_map]
    exact hR
  · intro a R h
    obtain ⟨xs, out, i⟩ := a
    obtain ⟨hi, hl, ho, hb, hR⟩ := h
    simp only at hi hl ho hb hR
    refine Tr.run_mono _ (fun o ho => ho) (Box.of_eq (round_line xs out i _) (sel_by (fun hlt => ix_in ⟨hi.1, hlt⟩ ⟨get_byte hb ⟨hi.1, hlt⟩, ap8_in (Nat.le_refl _) (by omega) ?_⟩) fun hlt => ?_)).out
    · have hw : w64 (i + 1) = i + 1 := w64_id (by omega)
      rw [List.take_length, hw]
      rw [drop_get ⟨hi.1, hlt⟩, List.map_cons] at hR
      refine ⟨⟨xs, out ++ [mkEv (xs.getD i.toNat 0)], i + 1⟩, ?_, by simp only; omega, ⟨by simp only; omega, by simp only; omega⟩, hl, by simp only [List.length_append, List.length_singleton]; omega, hb, ?_⟩
      · show s_line _ _ (out.length + 1) _ = s_line _ _ (out ++ [mkEv (xs.getD i.toNat 0)]).length _
        rw [List.length_append]; rfl
      · show R (.normal, e_line ((out ++ [mkEv (xs.getD i.toNat 0)]) ++ (xs.drop (i + 1).toNat).map mkEv) _)
        rw [List.append_assoc]
        exact hR
    · rw [List.drop_eq_nil_iff.2 (by omega), List.map_nil, List.append_nil] at hR
      exact hR
noncomputable def t_line : Con := fun args regs => if regs.length = 0 then nfun Tryz.prog [] c_line [(0, [3, 6, 7, 8], canonL [(3, arr [])] [] 0 [3, 6, 7, 8] l_line)] f_line args regs else .fail
theorem k_line : KnownF Tryz.prog [] 28 t_line := known_loopsF 0 Tryz.func28 rfl (by kernel_rfl) mixed kc_line (LAll.one (id := 0) (body := bodyLoop f_line 0) (by kernel_rfl) rfl (loop_line.canon [(3, arr [])] [] [3, 6, 7, 8]))
theorem line_tree (xs : List Int) (R : Out → Prop) : (t_line [.c (.l .u8 xs)] []).run R = ((s_line xs [] 0 0 = s_line xs [] 0 0 ∧ xs.length ≤ 1000 ∧ InBytes xs) ∧ R ⟨.v (.c (.hz 0 xs.length)), [some (arr (xs.map mkEv))]⟩) := by kernel_rfl
noncomputable def tLine : Con := fun args regs => match args, regs with
  | [.c (.l .u8 xs)], [] => .must (xs.length ≤ 1000 ∧ InBytes xs) (.ret ⟨.v (.c (.hz 0 xs.length)), [some (arr (xs.map mkEv))]⟩)
  | _, _ => .fail
set_option maxRecDepth 100000 in
theorem kLine : Known Tryz.prog [] 28 tLine := by
  refine k_line.known.less fun args regs R h => Box.out ?_
  unfold tLine at h
  split at h
  case h_2 => exact h.elim
  rename_i xs
  obtain ⟨h1, h2⟩ : (xs.length ≤ 1000 ∧ InBytes xs) ∧ R ⟨.v (.c (.hz 0 xs.length)), [some (arr (xs.map mkEv))]⟩ := h
  exact Box.of_eq (line_tree xs R) ⟨⟨rfl, h1⟩, h2⟩
end Go.Proofs.YtdijbpokklgjlaaGreatDoor.mtl
