/-
  A terminal of nothing: its grid, its shot, what it refuses; the whole answers.
-/
import Derived.Test.YtjfgphfdaghilaaGreatDoorVnB
set_option linter.unusedVariables false
namespace Go.Proofs.YtjfgphfdaghilaaGreatDoor.vn
open Go Go.Nx Go.Proofs.YtjfgphfdaghilaaGreatDoor.pk Go.Proofs.YtjfgphfdaghilaaGreatDoor.ac

theorem kgScNew : Known Tryz.prog GL 34 scr.tNew := known_gl scr.kNew
theorem kgPStart : Known Tryz.prog GL 35 prt.tPStart := known_gl prt.kPStart
noncomputable def c_mtNew : FuncId → Option Con := conOf [(34, scr.tNew), (35, prt.tPStart)]
theorem kc_mtNew : ∀ f T, c_mtNew f = some T → Known Tryz.prog GL f T := (Knowns.cons kgScNew (.cons kgPStart .nil)).get
noncomputable def t_mtNew : Con := fun args regs => nfun Tryz.prog GL c_mtNew [] Tryz.f10 args regs
theorem k_mtNew : Known Tryz.prog GL 10 t_mtNew := known_inl Tryz.func10 rfl (by kernel_rfl) mixed kc_mtNew (by kernel_rfl)
noncomputable def c_vtNew2 : FuncId → Option Con := conOf [(48, t_tlNew), (10, t_mtNew)]
theorem kc_vtNew2 : ∀ f T, c_vtNew2 f = some T → Known Tryz.prog GL f T := (Knowns.cons k_tlNew (.cons k_mtNew .nil)).get
noncomputable def t_vtNew2 : Con := fun args regs => nfun Tryz.prog GL c_vtNew2 [] Tryz.f25 args regs
theorem k_vtNew2 : Known Tryz.prog GL 25 t_vtNew2 := known_inl Tryz.func25 rfl (by kernel_rfl) mixed kc_vtNew2 (by kernel_rfl)
/-- A grid's cell of nothing. -/
def blC : List Sc := [.i 32, .i 7, .i 0, .b false, .b false, .b false, .b false, .b false, .i 0, .i 0]
def blK : List CK := [.i .i64, .i .i64, .i .i64, .b, .b, .b, .b, .b, .i .i64, .i .i64]
def oRow : Out := ⟨.v (.sg [.recs blK 40 (List.replicate 40 blC)]), []⟩
theorem row_tree (R : Out → Prop) : (t_rdRow [] []).run R = R oRow := by kernel_rfl
noncomputable def tRow : Con := fun args regs => match args, regs with
  | [], [] => .ret oRow
  | _, _ => .fail
theorem kRow : Known Tryz.prog GL 130 tRow := by
  refine k_rdRow.less fun args regs R h => Box.out ?_
  unfold tRow at h
  split at h
  case h_2 => exact h.elim
  exact Box.of_eq (row_tree R) h
noncomputable def c_rdEmpty : FuncId → Option Con := conOf [(130, tRow)]
theorem kc_rdEmpty : ∀ f T, c_rdEmpty f = some T → Known Tryz.prog GL f T := (Knowns.cons kRow .nil).get
noncomputable def X_rdEmpty : Cx := { P := Tryz.prog, con := c_rdEmpty, glob := GL, m := 0, loops := [] }
noncomputable def t_rdEmpty : Con := fun args regs => if regs.length = 0 then nfun Tryz.prog GL c_rdEmpty [(0, [0, 1, 3], unroll X_rdEmpty 0 [0, 1, 3] [0, 1] (bodyLoop Tryz.f92 0) 26)] Tryz.f92 args regs else .fail
theorem k_rdEmpty : Known Tryz.prog GL 92 t_rdEmpty := known_loops 0 Tryz.func92 rfl (by kernel_rfl) mixed kc_rdEmpty (LAll.one (id := 0) (body := bodyLoop Tryz.f92 0) (by kernel_rfl) rfl (unroll_ok (X := X_rdEmpty) kc_rdEmpty mixed (LAll.none (by kernel_rfl)) [0, 1, 3] [0, 1] 26))
def oEmp : Out := ⟨.v (.sg [.recs blK 1000 (List.replicate 1000 blC)]), []⟩
theorem emp_tree (R : Out → Prop) : (t_rdEmpty [] []).run R = R oEmp := by kernel_rfl
noncomputable def tEmp : Con := fun args regs => match args, regs with
  | [], [] => .ret oEmp
  | _, _ => .fail
theorem kEmp : Known Tryz.prog GL 92 tEmp := by
  refine k_rdEmpty.less fun args regs R h => Box.out ?_
  unfold tEmp at h
  split at h
  case h_2 => exact h.elim
  exact Box.of_eq (emp_tree R) h
noncomputable def c_rdWords : FuncId → Option Con := conOf [(129, t_rdBlank)]
theorem kc_rdWords : ∀ f T, c_rdWords f = some T → Known Tryz.prog GL f T := (Knowns.cons k_rdBlank .nil).get
noncomputable def X_rdWords : Cx := { P := Tryz.prog, con := c_rdWords, glob := GL, m := 0, loops := [] }
noncomputable def t_rdWords : Con := fun args regs => if regs.length = 0 then nfun Tryz.prog GL c_rdWords [(0, [1, 2, 3, 4, 8, 9], unroll X_rdWords 0 [1, 2, 3, 4, 8, 9] [4, 8] (bodyLoop Tryz.f91 0) 9)] Tryz.f91 args regs else .fail
theorem k_rdWords : Known Tryz.prog GL 91 t_rdWords := known_loops 0 Tryz.func91 rfl (by kernel_rfl) mixed kc_rdWords (LAll.one (id := 0) (body := bodyLoop Tryz.f91 0) (by kernel_rfl) rfl (unroll_ok (X := X_rdWords) kc_rdWords mixed (LAll.none (by kernel_rfl)) [1, 2, 3, 4, 8, 9] [4, 8] 9))
def glC (b : Int) : List Sc := [.i b, .i 7, .i 0, .b false, .b false, .b false, .b false, .b false, .i 0, .i 0]
/-- A row of words in a grid. -/
def wv (G : List (List Sc)) : Nat → List Int → List (List Sc)
  | _, [] => G
  | k, b :: l => wv (spl G k 1 [glC b]) (k + 1) l
def p100 : ByteArray := ⟨#[80, 49, 48, 48, 32, 32, 32, 32]⟩
def L100 : List Int := [80, 49, 48, 48, 32, 32, 32, 32]
def oGr (G : List (List Sc)) : Out := ⟨.v (.sg [.recs blK 1000 G]), []⟩
theorem words8_tree (G : List (List Sc)) (R : Out → Prop) : (t_rdWords [.sg [.recs blK 1000 G], .c (.i .i64 0), .c (.i .i64 0), .c (.s p100)] []).run R = R (oGr (wv G 0 L100)) := by kernel_rfl
theorem words0_tree (G : List (List Sc)) (R : Out → Prop) : (t_rdWords [.sg [.recs blK 1000 G], .c (.i .i64 0), .c (.i .i64 8), .c (.s ⟨#[]⟩)] []).run R = R (oGr G) := by kernel_rfl
noncomputable def tWords : Con := fun args regs => match args, regs with
  | [.sg [.recs k m G], .c (.i .i64 r), .c (.i .i64 0), .c (.s t)], [] => .must (k = blK ∧ m = 1000 ∧ r = 0 ∧ t = p100) (.ret (oGr (wv G 0 L100)))
  | [.sg [.recs k m G], .c (.i .i64 r), .c (.i .i64 8), .c (.s t)], [] => .must (k = blK ∧ m = 1000 ∧ r = 0 ∧ t = ⟨#[]⟩) (.ret (oGr G))
  | _, _ => .fail
set_option maxRecDepth 100000 in
theorem kWords : Known Tryz.prog GL 91 tWords := by
  refine k_rdWords.less fun args regs R h => Box.out ?_
  unfold tWords at h
  split at h
  case h_3 => exact h.elim
  · obtain ⟨⟨rfl, rfl, rfl, rfl⟩, h⟩ := h
    exact Box.of_eq (words8_tree _ R) h
  · obtain ⟨⟨rfl, rfl, rfl, rfl⟩, h⟩ := h
    exact Box.of_eq (words0_tree _ R) h
def oLn : Out := ⟨.v (.c (.s p100)), []⟩
theorem line_tree (R : Out → Prop) : (t_rLine [.ag rmZ] []).run R = R oLn := by kernel_rfl
noncomputable def tLine : Con := fun args regs => match args, regs with
  | [.ag l], [] => .must (l = rmZ) (.ret oLn)
  | _, _ => .fail
set_option maxRecDepth 100000 in
theorem kLine : Known Tryz.prog GL 93 tLine := by
  refine k_rLine.less fun args regs R h => Box.out ?_
  unfold tLine at h
  split at h
  case h_2 => exact h.elim
  obtain ⟨rfl, h⟩ := h
  exact Box.of_eq (line_tree R) h
noncomputable def c_tlGrid : FuncId → Option Con := conOf [(90, t_acLast), (92, tEmp), (91, tWords), (93, tLine), (94, t_tlText)]
theorem kc_tlGrid : ∀ f T, c_tlGrid f = some T → Known Tryz.prog GL f T := (Knowns.cons k_acLast (.cons kEmp (.cons kWords (.cons kLine (.cons k_tlText .nil))))).get
noncomputable def t_tlGrid : Con := fun args regs => nfun Tryz.prog GL c_tlGrid [] Tryz.f51 args regs
theorem k_tlGrid : Known Tryz.prog GL 51 t_tlGrid := known_inl Tryz.func51 rfl (by kernel_rfl) mixed kc_tlGrid (by kernel_rfl)
noncomputable def c_tlStatus2 : FuncId → Option Con := conOf [(93, tLine), (96, t_acPages)]
theorem kc_tlStatus2 : ∀ f T, c_tlStatus2 f = some T → Known Tryz.prog GL f T := (Knowns.cons kLine (.cons k_acPages .nil)).get
noncomputable def t_tlStatus2 : Con := fun args regs => nfun Tryz.prog GL c_tlStatus2 [] Tryz.f52 args regs
theorem k_tlStatus2 : Known Tryz.prog GL 52 t_tlStatus2 := known_inl Tryz.func52 rfl (by kernel_rfl) mixed kc_tlStatus2 (by kernel_rfl)
/-- A receiver of nothing, its machine, its store. -/
noncomputable def rgT (n : Int) : List Reg := [rcReg 1 rmZ pgZ .sn false 0, mcReg 2 (fun _ => mgZ) infZ, stReg n 3 .sn 0 0 0 false, mpReg []]
def same {α : Type} (x : α) (N : Prop) : Prop := x = x ∧ N
noncomputable def same3 (k : Nat) (n : Int) (N : Prop) : Prop := same (some (mcReg (k + 2) (fun _ => mgZ) infZ)) (same (some (stReg n (k + 3) .sn 0 0 0 false)) (same (some (mpReg [])) N))
noncomputable def same4 (k : Nat) (n : Int) (N : Prop) : Prop := same (some (rcReg (k + 1) rmZ pgZ .sn false 0)) (same3 k n N)
def okW1 : Prop := blK = blK ∧ 1000 = 1000 ∧ (0 : Int) = 0 ∧ p100 = p100
def okW2 : Prop := blK = blK ∧ 1000 = 1000 ∧ (0 : Int) = 0 ∧ (⟨#[]⟩ : ByteArray) = ⟨#[]⟩
theorem okW1_in : okW1 := ⟨rfl, rfl, rfl, rfl⟩
theorem okW2_in : okW2 := ⟨rfl, rfl, rfl, rfl⟩
def gV : List (List Sc) := wv (List.replicate 1000 blC) 0 L100
noncomputable def oGrid (n : Int) : Out := ⟨.v (.sg [.recs blK 1000 gV]), (rgT n).map some⟩
set_option maxRecDepth 100000 in
theorem grid_tree (n : Int) (R : Out → Prop) : (t_tlGrid [.c (.p 0 0 0)] (rgT n)).run R = same3 0 n (same rmZ (okW1 ∧ (okW2 ∧ R (oGrid n)))) := by kernel_rfl
noncomputable def onT (regs : List Reg) (F : Int → Tr Out) : Tr Out := match regs with
  | [a, b, ⟨_, _, .cells (.i .i64 n :: _)⟩, d] => .must (regs = rgT n) (F n)
  | _ => .fail
noncomputable def tGridZ : Con := fun args regs => match args with
  | [.c (.p 0 0 0)] => onT regs fun n => .ret (oGrid n)
  | _ => .fail
theorem onT_in {regs : List Reg} {F : Int → Tr Out} {R : Out → Prop} (h : (onT regs F).run R) : ∃ n, regs = rgT n ∧ (F n).run R := by
  unfold onT at h
  split at h
  · exact ⟨_, h.1, h.2⟩
  · exact h.elim
theorem same_in {α : Type} {x : α} {N : Prop} (h : N) : same x N := And.intro rfl h
theorem same3_in {k : Nat} {n : Int} {N : Prop} (h : N) : same3 k n N := by
  unfold same3
  exact same_in (same_in (same_in h))
theorem same4_in {k : Nat} {n : Int} {N : Prop} (h : N) : same4 k n N := by
  unfold same4
  exact same_in (same3_in h)
theorem regs_eq {T : Con} {args : List NV} {regs regs' : List Reg} {R : Out → Prop} {Q : Prop} (e : regs = regs') (h : (T args regs').run R = Q) : (T args regs).run R = Q := by rw [e]; exact h
section
attribute [local irreducible] t_tlGrid
theorem kGridZ : Known Tryz.prog GL 51 tGridZ := by
  refine k_tlGrid.less fun args regs R h => Box.out ?_
  unfold tGridZ at h
  split at h
  case h_2 => exact h.elim
  obtain ⟨n, e, h⟩ := onT_in h
  have h2 : R (oGrid n) := h
  clear h
  refine Box.of_eq (regs_eq e (grid_tree n R)) ?_
  exact same3_in (same_in (And.intro okW1_in (And.intro okW2_in h2)))
end
/-- A terminal: a receiver of nothing, a Minitel of nothing. -/
noncomputable def trReg : Reg := ⟨3, 119, .cells [.p 1 0 0, .p 5 0 0, .b false]⟩
noncomputable def mn0 (m : Int) : Reg := ⟨37, 106, .cells ([.i .i64 m, .p 6 0 0] ++ prt.pC prt.startP ++ [.sn, .i .i64 0, .sn, .i .i64 0, .sn, .i .i64 0, .sn, .i .i64 0, .sn, .sn, .sn, .sn, .i .i64 0])⟩
noncomputable def rgVt (n m : Int) : List Reg := [trReg, rcReg 2 rmZ pgZ .sn false 0, mcReg 3 (fun _ => mgZ) infZ, stReg n 4 .sn 0 0 0 false, mpReg [], mn0 m, scr.scr scr.newS]
noncomputable def oVt (n m : Int) : Out := ⟨.tu [.c (.p 0 0 0), .c .en], (rgVt n m).map some⟩
theorem vt_tree (n m : Int) (R : Out → Prop) : (t_vtNew2 [.c (.i .i64 n), .c (.i .i64 m)] []).run R = sel (decide (n < 1)) (R eR) (sel (decide (n > 800)) (R eR) (sel (decide (m < 1)) (R eR) (sel (decide (m > 4096)) (R eR) (R (oVt n m))))) := by kernel_rfl
end Go.Proofs.YtjfgphfdaghilaaGreatDoor.vn
