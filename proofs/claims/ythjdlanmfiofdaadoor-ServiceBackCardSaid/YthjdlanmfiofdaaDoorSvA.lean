/-
  Who sends, when: the functions by their code.
-/
import Derived.Test.YthjdlanmfiofdaaDoorLbA
namespace Go.Proofs.YthjdlanmfiofdaaDoor.sv
open Go Go.Nx Go.Proofs.YthjdlanmfiofdaaDoor.pk Go.Proofs.YthjdlanmfiofdaaDoor.ln Go.Proofs.YthjdlanmfiofdaaDoor.hd Go.Proofs.YthjdlanmfiofdaaDoor.lb

/-- A number below m: this one. -/
def tNumJ (m j : Int) : Con := fun args regs => match args, regs with
  | [.c (.i .i64 n), .c (.i .i64 k)], [] => .must (k = m ∧ 0 < m ∧ m < 4611686018427387904 ∧ n % m = j) (.ret ⟨.v (.c (.i .i64 j)), []⟩)
  | _, _ => .fail
set_option maxRecDepth 100000 in
theorem kNumJ (m j : Int) : Known Tryd.prog [] 26 (tNumJ m j) := by
  refine num.kNumV.less fun args regs R h => ?_
  unfold tNumJ at h
  split at h
  case h_2 => exact h.elim
  rename_i n k
  have h : (k = m ∧ 0 < m ∧ m < 4611686018427387904 ∧ n % m = j) ∧ R ⟨.v (.c (.i .i64 j)), []⟩ := h
  obtain ⟨⟨rfl, h1, h1b, h2⟩, h3⟩ := h
  refine ⟨⟨h1, h1b⟩, ?_⟩
  show R ⟨.v (.c (.i .i64 (n % k))), []⟩
  rw [h2]; exact h3
noncomputable def t_rev8 : Con := fun args regs => nfun Tryd.prog GL (fun _ => Option.none) [] Tryd.f109 args regs
theorem k_rev8 : Known Tryd.prog GL 109 t_rev8 := known_inl Tryd.func109 rfl (by kernel_rfl) mixed con_none (by kernel_rfl)
noncomputable def c_pturn : FuncId → Option Con := conOf [(109, t_rev8)]
theorem kc_pturn : ∀ f T, c_pturn f = some T → Known Tryd.prog GL f T := (Knowns.cons k_rev8 .nil).get
noncomputable def t_pturn : Con := fun args regs => nfun Tryd.prog GL c_pturn [] Tryd.f84 args regs
theorem k_pturn : Known Tryd.prog GL 84 t_pturn := known_inl Tryd.func84 rfl (by kernel_rfl) mixed kc_pturn (by kernel_rfl)
noncomputable def c_mkodd : FuncId → Option Con := conOf [(121, t_podd)]
theorem kc_mkodd : ∀ f T, c_mkodd f = some T → Known Tryd.prog GL f T := (Knowns.cons (known_gl k_podd) .nil).get
noncomputable def t_mkodd : Con := fun args regs => nfun Tryd.prog GL c_mkodd [] Tryd.f114 args regs
theorem k_mkodd : Known Tryd.prog GL 114 t_mkodd := known_inl Tryd.func114 rfl (by kernel_rfl) mixed kc_mkodd (by kernel_rfl)
noncomputable def c_ptext : FuncId → Option Con := conOf [(121, t_podd)]
theorem kc_ptext : ∀ f T, c_ptext f = some T → Known Tryd.prog GL f T := (Knowns.cons (known_gl k_podd) .nil).get
noncomputable def X_ptext : Cx := { P := Tryd.prog, con := c_ptext, glob := GL, m := 0, loops := [] }
noncomputable def t_ptext : Con := fun args regs => if regs.length = 0 then nfun Tryd.prog GL c_ptext [(0, [4, 5, 8, 9, 10], unroll X_ptext 0 [4, 5, 8, 9, 10] [4, 5] (bodyLoop Tryd.f111 0) 21)] Tryd.f111 args regs else .fail
theorem k_ptext : Known Tryd.prog GL 111 t_ptext := known_loops 0 Tryd.func111 rfl (by kernel_rfl) mixed kc_ptext (LAll.one (id := 0) (body := bodyLoop Tryd.f111 0) (by kernel_rfl) rfl (unroll_ok (X := X_ptext) kc_ptext mixed (LAll.none (by kernel_rfl)) [4, 5, 8, 9, 10] [4, 5] 21))
noncomputable def t_sfair : Con := fun args regs => nfun Tryd.prog GL (fun _ => Option.none) [] Tryd.f92 args regs
theorem k_sfair : Known Tryd.prog GL 92 t_sfair := known_inl Tryd.func92 rfl (by kernel_rfl) mixed con_none (by kernel_rfl)
noncomputable def t_stwo : Con := fun args regs => nfun Tryd.prog GL (fun _ => Option.none) [] Tryd.f93 args regs
theorem k_stwo : Known Tryd.prog GL 93 t_stwo := known_inl Tryd.func93 rfl (by kernel_rfl) mixed con_none (by kernel_rfl)
noncomputable def c_stext : FuncId → Option Con := conOf [(114, t_mkodd)]
theorem kc_stext : ∀ f T, c_stext f = some T → Known Tryd.prog GL f T := (Knowns.cons k_mkodd .nil).get
noncomputable def X_stext : Cx := { P := Tryd.prog, con := c_stext, glob := GL, m := 0, loops := [] }
noncomputable def t_stext : Con := fun args regs => if regs.length = 0 then nfun Tryd.prog GL c_stext [(0, [0, 4, 10], unroll X_stext 0 [0, 4, 10] [2, 3, 4] (bodyLoop Tryd.f91 0) 21)] Tryd.f91 args regs else .fail
theorem k_stext : Known Tryd.prog GL 91 t_stext := known_loops 0 Tryd.func91 rfl (by kernel_rfl) mixed kc_stext (LAll.one (id := 0) (body := bodyLoop Tryd.f91 0) (by kernel_rfl) rfl (unroll_ok (X := X_stext) kc_stext mixed (LAll.none (by kernel_rfl)) [0, 4, 10] [2, 3, 4] 21))
noncomputable def X_digits : Cx := { P := Tryd.prog, con := (fun _ => Option.none), glob := GL, m := 0, loops := [] }
noncomputable def t_digits : Con := fun args regs => if regs.length = 0 then nfun Tryd.prog GL (fun _ => Option.none) [(0, [0, 6, 7], unroll X_digits 0 [0, 6, 7] [4, 5, 6] (bodyLoop Tryd.f110 0) 7)] Tryd.f110 args regs else .fail
theorem k_digits : Known Tryd.prog GL 110 t_digits := known_loops 0 Tryd.func110 rfl (by kernel_rfl) mixed con_none (LAll.one (id := 0) (body := bodyLoop Tryd.f110 0) (by kernel_rfl) rfl (unroll_ok (X := X_digits) con_none mixed (LAll.none (by kernel_rfl)) [0, 6, 7] [4, 5, 6] 7))
noncomputable def c_words : FuncId → Option Con := conOf [(111, t_ptext)]
theorem kc_words : ∀ f T, c_words f = some T → Known Tryd.prog GL f T := (Knowns.cons k_ptext .nil).get
noncomputable def X_words : Cx := { P := Tryd.prog, con := c_words, glob := GL, m := 0, loops := [] }
noncomputable def t_words : Con := fun args regs => if regs.length = 0 then nfun Tryd.prog GL c_words [(0, [3, 4, 12, 13], unroll X_words 0 [3, 4, 12, 13] [3] (bodyLoop Tryd.f87 0) 21)] Tryd.f87 args regs else .fail
theorem k_words : Known Tryd.prog GL 87 t_words := known_loops 0 Tryd.func87 rfl (by kernel_rfl) mixed kc_words (LAll.one (id := 0) (body := bodyLoop Tryd.f87 0) (by kernel_rfl) rfl (unroll_ok (X := X_words) kc_words mixed (LAll.none (by kernel_rfl)) [3, 4, 12, 13] [3] 21))
noncomputable def c_partU : FuncId → Option Con := conOf [(85, t_at)]
theorem kc_partU : ∀ f T, c_partU f = some T → Known Tryd.prog GL f T := (Knowns.cons k_at .nil).get
noncomputable def X_partU : Cx := { P := Tryd.prog, con := c_partU, glob := GL, m := 0, loops := [] }
noncomputable def t_partU : Con := fun args regs => if regs.length = 0 then nfun Tryd.prog GL c_partU [(0, [1, 3, 7, 12, 13], unroll X_partU 0 [1, 3, 7, 12, 13] [7] (bodyLoop Tryd.f62 0) 21)] Tryd.f62 args regs else .fail
theorem k_partU : Known Tryd.prog GL 62 t_partU := known_loops 0 Tryd.func62 rfl (by kernel_rfl) mixed kc_partU (LAll.one (id := 0) (body := bodyLoop Tryd.f62 0) (by kernel_rfl) rfl (unroll_ok (X := X_partU) kc_partU mixed (LAll.none (by kernel_rfl)) [1, 3, 7, 12, 13] [7] 21))
noncomputable def c_clock : FuncId → Option Con := conOf [(62, t_partU), (110, t_digits), (92, t_sfair)]
theorem kc_clock : ∀ f T, c_clock f = some T → Known Tryd.prog GL f T := (Knowns.cons k_partU (.cons k_digits (.cons k_sfair .nil))).get
noncomputable def X_clock : Cx := { P := Tryd.prog, con := c_clock, glob := GL, m := 1, loops := [] }
noncomputable def t_clock : Con := fun args regs => if regs.length = 1 then nfun Tryd.prog GL c_clock [] Tryd.f86 args regs else .fail
theorem k_clock : Known Tryd.prog GL 86 t_clock := known_loops 1 Tryd.func86 rfl (by kernel_rfl) mixed kc_clock (LAll.none (by kernel_rfl))
noncomputable def c_sread : FuncId → Option Con := conOf [(62, t_partU), (58, tOpn), (63, t_of), (64, tLMag), (84, t_pturn), (85, t_at), (86, t_clock), (87, t_words)]
theorem kc_sread : ∀ f T, c_sread f = some T → Known Tryd.prog GL f T := (Knowns.cons k_partU (.cons kOpn (.cons k_of (.cons kLMag (.cons k_pturn (.cons k_at (.cons k_clock (.cons k_words .nil)))))))).get
noncomputable def t_sread : Con := fun args regs => nfun Tryd.prog GL c_sread [] Tryd.f49 args regs
theorem k_sread : Known Tryd.prog GL 49 t_sread := known_inl Tryd.func49 rfl (by kernel_rfl) mixed kc_sread (by kernel_rfl)
noncomputable def c_concat4 : FuncId → Option Con := conOf [(101, t_grow)]
theorem kc_concat4 : ∀ f T, c_concat4 f = some T → Known Tryd.prog GL f T := (Knowns.cons (known_gl k_grow) .nil).get
noncomputable def X_concat4 : Cx := { P := Tryd.prog, con := c_concat4, glob := GL, m := 5, loops := [] }
noncomputable def t_concat4 : Con := fun args regs => if regs.length = 5 then nfun Tryd.prog GL c_concat4 [(0, [0, 3, 9, 10, 11], unroll X_concat4 0 [0, 3, 9, 10, 11] [0, 3] (bodyLoop Tryd.f72 0) 5), (2, [6, 25, 26, 27], unroll X_concat4 2 [6, 25, 26, 27] [6] (bodyLoop Tryd.f72 2) 5)] Tryd.f72 args regs else .fail
theorem k_concat4 : Known Tryd.prog GL 72 t_concat4 := known_loops 5 Tryd.func72 rfl (by kernel_rfl) mixed kc_concat4 (LAll.two (i1 := 0) (i2 := 2) (b1 := bodyLoop Tryd.f72 0) (b2 := bodyLoop Tryd.f72 2) (by kernel_rfl) rfl (by decide) (unroll_ok (X := X_concat4) kc_concat4 mixed (LAll.none (by kernel_rfl)) [0, 3, 9, 10, 11] [0, 3] 5) (unroll_ok (X := X_concat4) kc_concat4 mixed (LAll.none (by kernel_rfl)) [6, 25, 26, 27] [6] 5))
noncomputable def c_sbytes : FuncId → Option Con := conOf [(91, t_stext), (70, tFairB), (92, t_sfair), (69, t_row7), (71, t_nib), (84, t_pturn), (93, t_stwo), (72, t_concat4), (28, tBytes)]
theorem kc_sbytes : ∀ f T, c_sbytes f = some T → Known Tryd.prog GL f T := (Knowns.cons k_stext (.cons kFairB (.cons k_sfair (.cons k_row7 (.cons k_nib (.cons k_pturn (.cons k_stwo (.cons k_concat4 (.cons kBytes .nil))))))))).get
noncomputable def t_sbytes : Con := fun args regs => nfun Tryd.prog GL c_sbytes [] Tryd.f53 args regs
theorem k_sbytes : Known Tryd.prog GL 53 t_sbytes := known_inl Tryd.func53 rfl (by kernel_rfl) mixed kc_sbytes (by kernel_rfl)
noncomputable def t_with : Con := fun args regs => nfun Tryd.prog GL (fun _ => Option.none) [] Tryd.f56 args regs
theorem k_with : Known Tryd.prog GL 56 t_with := known_inl Tryd.func56 rfl (by kernel_rfl) mixed con_none (by kernel_rfl)
noncomputable def t_got : Con := fun args regs => nfun Tryd.prog GL (fun _ => Option.none) [] Tryd.f57 args regs
theorem k_got : Known Tryd.prog GL 57 t_got := known_inl Tryd.func57 rfl (by kernel_rfl) mixed con_none (by kernel_rfl)
noncomputable def c_first11 : FuncId → Option Con := conOf [(28, tBytes), (15, tRead), (49, t_sread), (19, t_is)]
theorem kc_first11 : ∀ f T, c_first11 f = some T → Known Tryd.prog GL f T := (Knowns.cons kBytes (.cons kRead (.cons k_sread (.cons k_is .nil)))).get
noncomputable def t_first11 : Con := fun args regs => nfun Tryd.prog GL c_first11 [] Tryd.f48 args regs
theorem k_first11 : Known Tryd.prog GL 48 t_first11 := known_inl Tryd.func48 rfl (by kernel_rfl) mixed kc_first11 (by kernel_rfl)
end Go.Proofs.YthjdlanmfiofdaaDoor.sv
