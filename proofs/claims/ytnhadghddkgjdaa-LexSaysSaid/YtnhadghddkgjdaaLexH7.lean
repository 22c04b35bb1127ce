/-
  The document's lexer: a byte is the program's.
-/
import Derived.Test.YtnhadghddkgjdaaLexH6
set_option linter.unusedVariables false
namespace Go.Proofs.Ytnhadghddkgjdaa.lxr
open Go Go.Nx Go.Proofs.Ytnhadghddkgjdaa.lex Go.Proofs.Ytnhadghddkgjdaa.lxv

theorem endsR_ev {P : List Int} {c : Int} : ∃ k a b d t st code, endsR P c = ev k a b d t st code := by
  have ign : ∃ k a b d t st code, ignR = ev k a b d t st code := ⟨_, _, _, _, _, _, _, rfl⟩
  have one : ∀ k a b d t st code, ∃ k' a' b' d' t' st' code', ev k a b d t st code = ev k' a' b' d' t' st' code' := fun _ _ _ _ _ _ _ => ⟨_, _, _, _, _, _, _, rfl⟩
  unfold endsR
  split
  · exact one ..
  split
  · unfold signR; exact one ..
  split
  · unfold placeR
    split
    · exact ign
    · exact one ..
  unfold escR
  split
  · unfold seqR
    split
    · exact ign
    unfold endR
    split
    · exact one ..
    split
    · exact one ..
    split
    · exact one ..
    exact ign
  split
  · unfold askR; exact one ..
  split
  · exact one ..
  exact ign
theorem sev_end {P : List Int} {c : Int} (e : goOn P c = false) : sevR (rE P c) = endsR P c := by
  obtain ⟨k, a, b, d, t, st, code, he⟩ := endsR_ev (P := P) (c := c)
  unfold rE
  rw [e, if_neg (fun h => by cases h), he]
  rfl
theorem rgo_in {s c : Int} {P : List Int} {R : Out → Prop} (hP : okR P) (hne : P ≠ []) (hl : P.length ≤ 100) (hc : 32 ≤ c ∧ c < 128) (h : R (outR P s c)) : rgoC s c P (List.take P.length P) (wf R) := by
  have h32 : ¬ c < 32 := by omega
  have es : shft s c = s := by unfold shft; rw [if_neg (fun h => h32 h.1)]
  have hlen : (P ++ [c]).length = P.length + 1 := by rw [List.length_append]; rfl
  unfold rgoC
  rw [List.take_length, List.drop_zero, List.take_length, List.drop_zero, List.take_of_length_le (l := P ++ [c]) (by omega)]
  unfold rgo
  rw [List.dropLast_concat, getD_last]
  refine selT (dT (by omega)) ⟨hl, selT (dT (by omega)) (selT (dT (by omega)) (selT (dT (by omega)) (selT (dT (by omega)) ⟨⟨hP, by simp, hc⟩, ?_⟩)))⟩
  unfold outR at h
  cases hg : goOn P c with
  | true =>
    have e : pend P c = P ++ [c] := by unfold pend; rw [if_neg h32, if_neg hne, if_pos hg]
    have ev : evts P s c = [] := by unfold evts; rw [if_neg h32, if_neg hne, if_pos hg]
    rw [e, ev, es] at h
    rw [← hlen]
    exact wfN (rfB (P := P ++ [c]) (Nat.le_of_ble_eq_true rfl) rfl rfl h)
  | false =>
    have e : pend P c = [] := by unfold pend; rw [if_neg h32, if_neg hne, hg]; rfl
    have ev : evts P s c = [endsR P c] := by unfold evts; rw [if_neg h32, if_neg hne, hg]; rfl
    rw [e, ev, es] at h
    rw [sev_end hg]
    exact wfR (k := 2) (l := [endsR P c]) rfl (rfA (Nat.le_of_ble_eq_true rfl) rfl h)
theorem okR_len {P : List Int} (h : okR P) : P ≠ [] ∧ P.length ≤ 15 := by
  cases h <;> simp <;> omega
noncomputable def tByteR : Con := fun args regs => match args, regs with
  | [.c (.p 0 0 0), .c (.i .u8 b)], [⟨2, 65, .cells [.hz 1 n, .i .i64 s]⟩, ⟨1, 5, .ints .u8 P⟩] => .must (n = P.length ∧ (0 ≤ b ∧ b < 256) ∧ (P = [] ∨ okR P)) (.ret (outR P s (cc b)))
  | _, _ => .fail
set_option maxRecDepth 100000 in
theorem kByteR : KnownF Try.prog [] 31 tByteR := by
  refine k_rbyte.weak fun args regs R h => Box.out ?_
  unfold tByteR at h
  split at h
  case h_2 => exact h.elim
  rename_i b n s P
  have h1 := h.1
  have h2 : R (outR P s (cc b)) := h.2
  clear h
  obtain ⟨rfl, hb, hP⟩ := h1
  show Box ((t_rbyte [.c (.p 0 0 0), .c (.i .u8 b)] [rx (.hz 1 P.length) s, arr P]).run (wf R))
  refine Box.of_eq (rbyte_tree s b P (wf R)) ⟨hb, ?_⟩
  have hc := cB_of hb
  cases he : isEv b with
  | false => exact selT rfl (rctl_in ⟨by decide, by decide⟩ (ccF he ▸ h2))
  | true =>
    rw [ccT he] at h2
    refine selF rfl (sel_by (fun hl => rctl_in ⟨hc.1, hl⟩ h2) fun hl => ?_)
    rcases hP with rfl | hP
    · have e : pend [] (cB b) = [] := by unfold pend; rw [if_neg hl, if_pos rfl]
      have ev : evts [] s (cB b) = [ev 1 0 0 0 0 s (w64 (cB b))] := by unfold evts; rw [if_neg hl, if_pos rfl]
      have es : shft s (cB b) = s := by unfold shft; rw [if_neg (fun h => hl h.1)]
      unfold outR at h2
      rw [e, ev, es] at h2
      exact selT rfl (wfR (k := 2) (l := [lxv.ev 1 0 0 0 0 s (w64 (cB b))]) rfl (rfZ (P := []) (Nat.le_of_ble_eq_true rfl) rfl rfl h2))
    · obtain ⟨h0, h15⟩ := okR_len hP
      have := List.length_pos_iff.2 h0
      exact selF (bF (by omega)) (rgo_in hP h0 (by omega) ⟨by omega, hc.2⟩ h2)
/-! ### what may be begun stays so -/
theorem okR_okP {P : List Int} (h : okR P) : okP P := by
  obtain ⟨h0, h15⟩ := okR_len h
  refine ⟨h0, by omega, ?_, ?_⟩
  · intro x hx
    cases h with
    | brk ds hl hd => simp only [List.mem_cons] at hx; rcases hx with rfl | rfl | hx
                      · omega
                      · omega
                      · have := hd x hx; omega
    | gap y g hl hy hg => simp only [List.mem_cons] at hx; rcases hx with rfl | rfl | hx
                          · omega
                          · omega
                          · have := hg x hx; omega
    | _ => simp only [List.mem_cons, List.not_mem_nil, or_false] at hx; omega
  · intro h1 h2 h3 h4 h5 h6
    unfold askOk
    cases h with
    | a18 => simp at h2
    | a25 => simp at h3
    | b25 x hx => simp at h3
    | a31 => simp at h4
    | b31 x hx => simp at h4
    | a27 => simp at h1
    | brk ds hl hd => simp at h6
    | gap x g hl hx hg => simp at h5; omega
    | a57 => exact ⟨27, 0, 0, .inl rfl⟩
    | a58 => exact ⟨27, 0, 0, .inr (.inl rfl)⟩
    | b58 r hr => exact ⟨27, r, 0, .inr (.inr (.inl rfl))⟩
    | a59 => exact ⟨27, 0, 0, .inr (.inr (.inr (.inl rfl)))⟩
    | b59 r hr => exact ⟨27, r, 0, .inr (.inr (.inr (.inr (.inl rfl))))⟩
    | c59 r t hr ht => exact ⟨27, r, t, .inr (.inr (.inr (.inr (.inr rfl))))⟩
end Go.Proofs.Ytnhadghddkgjdaa.lxr
