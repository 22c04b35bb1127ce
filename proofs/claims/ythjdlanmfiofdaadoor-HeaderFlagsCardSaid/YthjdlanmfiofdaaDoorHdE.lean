/-
  A header read from its packet, as bytes: by what they do.
-/
import Derived.Test.YthjdlanmfiofdaaDoorHdD
namespace Go.Proofs.YthjdlanmfiofdaaDoor.hd
open Go Go.Nx Go.Proofs.YthjdlanmfiofdaaDoor.pk Go.Proofs.YthjdlanmfiofdaaDoor.ln

noncomputable def tHread : Con := fun args regs => match args, regs with
  | [.ag [.i .i64 m, .i .i64 _, .i .i64 k, .i .i64 _, .l .u8 ds]], [] => .br (decide (k = 1)) (.must (ds.length = 40) (.br ((B8 ds).all getB) (.ret (oHd m ds)) (.ret (oHE 1)))) (.ret (oHE 2))
  | _, _ => .fail
theorem mustP_in {ds : List Int} (f n : Nat) (h : f + n ≤ ds.length) (hn : f + n < 1000) : mustP ds f n := ⟨rfl, by simp, Int.le_refl _, by omega, by omega, by omega, by omega⟩
set_option maxRecDepth 100000 in
theorem kHread : Known Tryd.prog GL 31 tHread := by
  refine k_hread.less fun args regs R h => Box.out ?_
  unfold tHread at h
  split at h
  case h_2 => exact h.elim
  rename_i m r k c ds
  refine Box.of_eq (hread_tree m r k c ds R) ?_
  rcases sel_iff.1 h with ⟨hk, h⟩ | ⟨hk, h⟩
  · have hk := of_decide_eq_true hk
    have h40 := h.1
    have h2 : sel ((B8 ds).all getB) (R (oHd m ds)) (R (oHE 1)) := h.2
    refine selF (by simp [bne, hk]) ⟨mustP_in 0 8 (by omega) (by omega), ?_⟩
    exact sel_thn h2 fun h => ⟨mustP_in 8 32 (by omega) (by omega), h⟩
  · have hk := of_decide_eq_false hk
    exact selT (by rw [bne_iff_ne]; exact hk) h
noncomputable def hb (p s F : Int) : List Int := [put (aI p 15), put (shrv .i64 p 4), put (aI s 15), put (nb3 s (aI F 1)), put (nb4 s), put (nb5 s (aI (shrv .i64 F 1) 3)), put (aI (shrv .i64 F 3) 15), put (aI (shrv .i64 F 7) 15)]
noncomputable def hbL (p s F : Int) (ds : List Int) : List Int := List.take (8 + ds.length) (List.drop 0 (hb p s F ++ ds))
theorem hbytes_tree (m p s o : Int) (ds : List Int) (c0 c1 c2 c3 c4 c5 c6 c7 c8 c9 c10 : Bool) (R : Out → Prop) : (t_hbytes [.ag [.i .i64 m, .i .i64 p, .i .i64 s, .b c0, .b c1, .b c2, .b c3, .b c4, .b c5, .b c6, .b c7, .b c8, .b c9, .b c10, .i .i64 o], .c (.l .u8 ds)] []).run R =
    sel (!fairB m p s) (R (oEr 3)) (sel ((ds.length : Int) != 32) (R (oEr 0)) (ds.length ≤ 1000000 ∧ sel (decide (0 + (8 + ds.length) ≤ (hb p s (flN c0 c1 c2 c3 c4 c5 c6 c7 c8 c9 c10) ++ ds).length)) (sel (okMR m 0) (sel (decide ((hbL p s (flN c0 c1 c2 c3 c4 c5 c6 c7 c8 c9 c10) ds).length = 40)) (R (oBy m 0 (hbL p s (flN c0 c1 c2 c3 c4 c5 c6 c7 c8 c9 c10) ds))) (R (oEr 0))) (R (oEr 3))) False)) := by kernel_rfl
theorem hbL_eq (p s F : Int) (ds : List Int) : hbL p s F ds = hb p s F ++ ds := by
  unfold hbL
  rw [List.drop_zero, List.take_of_length_le]
  rw [List.length_append]
  exact Nat.le_refl _
theorem hbL_len (p s F : Int) (ds : List Int) : (hb p s F ++ ds).length = 8 + ds.length := by
  rw [List.length_append]
  rfl
noncomputable def tHbytes : Con := fun args regs => match args, regs with
  | [.ag [.i .i64 m, .i .i64 p, .i .i64 s, .b c0, .b c1, .b c2, .b c3, .b c4, .b c5, .b c6, .b c7, .b c8, .b c9, .b c10, .i .i64 _], .c (.l .u8 ds)], [] => .br (fairB m p s) (.br (decide (ds.length = 32)) (.ret (oBy m 0 (hb p s (flN c0 c1 c2 c3 c4 c5 c6 c7 c8 c9 c10) ++ ds))) (.ret (oEr 0))) (.ret (oEr 3))
  | _, _ => .fail
theorem fairB_mag {m p s : Int} (h : fairB m p s = true) : 1 ≤ m ∧ m ≤ 8 := by
  unfold fairB at h
  simp only [Bool.and_eq_true, decide_eq_true_eq] at h
  omega
theorem hbytes_in {m p s o : Int} {ds : List Int} {c0 c1 c2 c3 c4 c5 c6 c7 c8 c9 c10 : Bool} {R : Out → Prop} (h : sel (fairB m p s) (sel (decide (ds.length = 32)) (R (oBy m 0 (hb p s (flN c0 c1 c2 c3 c4 c5 c6 c7 c8 c9 c10) ++ ds))) (R (oEr 0))) (R (oEr 3))) : Box ((t_hbytes [.ag [.i .i64 m, .i .i64 p, .i .i64 s, .b c0, .b c1, .b c2, .b c3, .b c4, .b c5, .b c6, .b c7, .b c8, .b c9, .b c10, .i .i64 o], .c (.l .u8 ds)] []).run R) := by
  refine Box.of_eq (hbytes_tree m p s o ds c0 c1 c2 c3 c4 c5 c6 c7 c8 c9 c10 R) ?_
  rcases sel_iff.1 h with ⟨hf, h⟩ | ⟨hf, h⟩
  · refine selF (by rw [hf]; rfl) ?_
    rcases sel_iff.1 h with ⟨hl, h⟩ | ⟨hl, h⟩
    · have hl := of_decide_eq_true hl
      refine selF (by simp [bne, hl]) ⟨by omega, ?_⟩
      rw [hbL_eq]
      have hm := fairB_mag hf
      exact selT (dT (by rw [hbL_len]; omega)) <| selT (dT ⟨hm.1, hm.2, by decide, by decide⟩) (selT (dT (by rw [hbL_len]; omega)) h)
    · have hl := of_decide_eq_false hl
      exact selT (by rw [bne_iff_ne]; omega) h
  · exact selT (by rw [hf]; rfl) h
set_option maxRecDepth 100000 in
theorem kHbytes : Known Tryd.prog GL 30 tHbytes := by
  refine k_hbytes.less fun args regs R h => Box.out ?_
  unfold tHbytes at h
  split at h
  case h_2 => exact h.elim
  exact hbytes_in h
end Go.Proofs.YthjdlanmfiofdaaDoor.hd
