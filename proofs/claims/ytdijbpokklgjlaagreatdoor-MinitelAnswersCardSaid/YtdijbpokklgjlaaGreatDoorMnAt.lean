/-
  The law MinitelAnswers: for all arguments.
-/
import Derived.Test.YtdijbpokklgjlaaGreatDoorAnX
set_option linter.unusedVariables false
namespace Go.Proofs.YtdijbpokklgjlaaGreatDoor.mtl
open Go Go.Nx Go.Proofs.YtdijbpokklgjlaaGreatDoor.prt
open Go.Proofs.YtdijbpokklgjlaaGreatDoor.lex (arr lx InBytes mkEv K7 kMake)
open Go.Proofs.YtdijbpokklgjlaaGreatDoor.scr (Scr Ev eventS rollsS Ins newS)

theorem an_fin {w u j n m A B C D : Int} {ah pre a ans : List Int} (hw : w % 7 = j) (hu : u % m = n) (hm : 0 < m ∧ m < 100) (ha : ah.length ≤ 30) (hb : InBytes ah) (hpre : InBytes pre) (hfull : InBytes a) (hans : InBytes ans) (hl : ans.length ≤ 10)
    (q : ∀ sc, seqM pre (AM sc) = BM sc pre) (z : ∀ sc, seqM a (AM sc) = CM sc A B C D ans) {R : Out → Prop} (hR : R yesO) : startR w u ah j n m (anR (AM (scAh ah newS)) pre a ans R) := by
  refine ⟨⟨by decide, by decide⟩, ⟨rfl, ha, hb⟩, hw, ⟨⟨by omega, by omega⟩, hu⟩, ?_⟩
  have hs : InsS (scAh ah newS) := InsS.ah ah ins_newS
  generalize scAh ah newS = sc at hs
  have h1 : OkM (BM sc pre) := q sc ▸ OkM.seq hpre (am_ok hs)
  have hs2 := hs.ctl pre
  have h2 : OkM (AM (ctlS sc pre)) := am_ok hs2
  have h3 : OkM (CM (ctlS sc pre) A B C D ans) := z (ctlS sc pre) ▸ OkM.seq hfull h2
  have nil : ([] : List Int).length ≤ 100000 := by simp
  refine mdRs_in hpre (am_ok hs) ?_
  rw [q sc]
  refine mdR_in (by decide) h1 ?_
  rw [bm_ctl]
  generalize ctlS sc pre = sc2 at h2 h3 ⊢
  refine ⟨lensR_in _, ⟨.inl rfl, ⟨nil, nil⟩⟩, ?_⟩
  rw [nrm_eq h2.p]
  show mdRs a (AM sc2) _
  refine mdRs_in hfull h2 ?_
  rw [z sc2]
  have hmap : (ans.map mkEv).length ≤ 10 := by rw [List.length_map]; exact hl
  refine ⟨lensR_in _, ⟨.inl rfl, ⟨by show (ans.map mkEv).length ≤ 100000; omega, nil⟩⟩, ?_⟩
  rw [nrm_eq h3.p]
  refine selT rfl ⟨⟨by omega, hans⟩, selT (dT (Nat.le_refl _)) ⟨⟨List.take_length, by rw [List.take_length]; show (ans.map mkEv).length ≤ 1000; omega⟩, ?_⟩⟩
  exact ⟨lensR_in _, ⟨.inl rfl, ⟨nil, nil⟩⟩, selT rfl ⟨lensR_in _, ⟨.inr rfl, ⟨nil, nil⟩⟩, selT rfl ⟨lensR_in _, hR⟩⟩⟩
def lenA (j : Int) : Int := if j = 5 then 4 else if j = 6 then 5 else 3
noncomputable def pickAn : List NV → List Reg → Int × Int
  | [.c (.i _ w), .c (.i _ u), _], _ => (w % 7, u % lenA (w % 7))
  | _, _ => (0, 0)
noncomputable def tAn : Con := fun args regs => t_an (pickAn args regs).1 (pickAn args regs).2 args regs
theorem Known_pick {P : Program} {gl : List Nat} {f : FuncId} {ι : Type} {T : ι → Con} (h : ∀ i, Known P gl f (T i)) (p : List NV → List Reg → ι) (i0 : ι) : Known P gl f fun args regs => T (p args regs) args regs :=
  ⟨(h i0).goes, fun args regs R hR => (h (p args regs)).sound args regs R hR⟩
theorem kAn : Known Tryz.prog GL 3 tAn := known_gl (Known_pick (T := fun i : Int × Int => t_an i.1 i.2) (fun i => k_an i.1 i.2) pickAn (0, 0))
theorem an_by {w u j n : Int} {ah : List Int} {R : Out → Prop} (hw : w % 7 = j) (hu : u % lenA j = n) (h : Box ((t_an j n [.c (.i .i64 w), .c (.i .i64 u), .c (.l .u8 ah)] []).run R)) : Box ((tAn [.c (.i .i64 w), .c (.i .i64 u), .c (.l .u8 ah)] []).run R) := by
  show Box ((t_an (w % 7) (u % lenA (w % 7)) [.c (.i .i64 w), .c (.i .i64 u), .c (.l .u8 ah)] []).run R)
  rw [hw, hu]
  exact h
set_option maxRecDepth 100000 in
theorem an_in (w u : Int) (ah : List Int) (hb : InBytes ah) (R : Out → Prop) (hR : R yesO) : Box ((tAn [.c (.i .i64 w), .c (.i .i64 u), .c (.l .u8 ah)] []).run R) := by
  have go : ∀ {N : Prop}, (ah.length ≤ 30 → N) → sel (decide ((ah.length : Int) > 30)) (R yesO) N := fun hN => sel_by (fun _ => hR) fun h => hN (by omega)
  have h7 : w % 7 = 0 ∨ w % 7 = 1 ∨ w % 7 = 2 ∨ w % 7 = 3 ∨ w % 7 = 4 ∨ w % 7 = 5 ∨ w % 7 = 6 := by omega
  rcases h7 with e | e | e | e | e | e | e
  · have hn : u % 3 = 0 ∨ u % 3 = 1 ∨ u % 3 = 2 := by omega
    rcases hn with e2 | e2 | e2
    · exact an_by e e2 (Box.of_eq (t0_0 w u ah R) (go fun hl => an_fin e e2 (by decide) hl hb inB_nil (inB_cons (by decide) (inB_cons (by decide) (inB_cons (by decide) inB_nil))) (inB_cons (by decide) (inB_cons (by decide) (inB_cons (by decide) (inB_cons (by decide) inB_nil)))) (by decide) q0_0 w0 hR))
    · exact an_by e e2 (Box.of_eq (t0_1 w u ah R) (go fun hl => an_fin e e2 (by decide) hl hb (inB_cons (by decide) inB_nil) (inB_cons (by decide) (inB_cons (by decide) (inB_cons (by decide) inB_nil))) (inB_cons (by decide) (inB_cons (by decide) (inB_cons (by decide) (inB_cons (by decide) inB_nil)))) (by decide) q0_1 w0 hR))
    · exact an_by e e2 (Box.of_eq (t0_2 w u ah R) (go fun hl => an_fin e e2 (by decide) hl hb (inB_cons (by decide) (inB_cons (by decide) inB_nil)) (inB_cons (by decide) (inB_cons (by decide) (inB_cons (by decide) inB_nil))) (inB_cons (by decide) (inB_cons (by decide) (inB_cons (by decide) (inB_cons (by decide) inB_nil)))) (by decide) q0_2 w0 hR))
  · have hn : u % 3 = 0 ∨ u % 3 = 1 ∨ u % 3 = 2 := by omega
    rcases hn with e2 | e2 | e2
    · exact an_by e e2 (Box.of_eq (t1_0 w u ah R) (go fun hl => an_fin e e2 (by decide) hl hb inB_nil (inB_cons (by decide) (inB_cons (by decide) (inB_cons (by decide) inB_nil))) (inB_cons (by decide) (inB_cons (by decide) (inB_cons (by decide) (inB_cons (by decide) inB_nil)))) (by decide) q1_0 w1 hR))
    · exact an_by e e2 (Box.of_eq (t1_1 w u ah R) (go fun hl => an_fin e e2 (by decide) hl hb (inB_cons (by decide) inB_nil) (inB_cons (by decide) (inB_cons (by decide) (inB_cons (by decide) inB_nil))) (inB_cons (by decide) (inB_cons (by decide) (inB_cons (by decide) (inB_cons (by decide) inB_nil)))) (by decide) q1_1 w1 hR))
    · exact an_by e e2 (Box.of_eq (t1_2 w u ah R) (go fun hl => an_fin e e2 (by decide) hl hb (inB_cons (by decide) (inB_cons (by decide) inB_nil)) (inB_cons (by decide) (inB_cons (by decide) (inB_cons (by decide) inB_nil))) (inB_cons (by decide) (inB_cons (by decide) (inB_cons (by decide) (inB_cons (by decide) inB_nil)))) (by decide) q1_2 w1 hR))
  · have hn : u % 3 = 0 ∨ u % 3 = 1 ∨ u % 3 = 2 := by omega
    rcases hn with e2 | e2 | e2
    · exact an_by e e2 (Box.of_eq (t2_0 w u ah R) (go fun hl => an_fin e e2 (by decide) hl hb inB_nil (inB_cons (by decide) (inB_cons (by decide) (inB_cons (by decide) inB_nil))) (inB_cons (by decide) (inB_cons (by decide) (inB_cons (by decide) (inB_cons (by decide) inB_nil)))) (by decide) q2_0 w2 hR))
    · exact an_by e e2 (Box.of_eq (t2_1 w u ah R) (go fun hl => an_fin e e2 (by decide) hl hb (inB_cons (by decide) inB_nil) (inB_cons (by decide) (inB_cons (by decide) (inB_cons (by decide) inB_nil))) (inB_cons (by decide) (inB_cons (by decide) (inB_cons (by decide) (inB_cons (by decide) inB_nil)))) (by decide) q2_1 w2 hR))
    · exact an_by e e2 (Box.of_eq (t2_2 w u ah R) (go fun hl => an_fin e e2 (by decide) hl hb (inB_cons (by decide) (inB_cons (by decide) inB_nil)) (inB_cons (by decide) (inB_cons (by decide) (inB_cons (by decide) inB_nil))) (inB_cons (by decide) (inB_cons (by decide) (inB_cons (by decide) (inB_cons (by decide) inB_nil)))) (by decide) q2_2 w2 hR))
  · have hn : u % 3 = 0 ∨ u % 3 = 1 ∨ u % 3 = 2 := by omega
    rcases hn with e2 | e2 | e2
    · exact an_by e e2 (Box.of_eq (t3_0 w u ah R) (go fun hl => an_fin e e2 (by decide) hl hb inB_nil (inB_cons (by decide) (inB_cons (by decide) (inB_cons (by decide) inB_nil))) (inB_cons (by decide) (inB_cons (by decide) (inB_cons (by decide) (inB_cons (by decide) inB_nil)))) (by decide) q3_0 w3 hR))
    · exact an_by e e2 (Box.of_eq (t3_1 w u ah R) (go fun hl => an_fin e e2 (by decide) hl hb (inB_cons (by decide) inB_nil) (inB_cons (by decide) (inB_cons (by decide) (inB_cons (by decide) inB_nil))) (inB_cons (by decide) (inB_cons (by decide) (inB_cons (by decide) (inB_cons (by decide) inB_nil)))) (by decide) q3_1 w3 hR))
    · exact an_by e e2 (Box.of_eq (t3_2 w u ah R) (go fun hl => an_fin e e2 (by decide) hl hb (inB_cons (by decide) (inB_cons (by decide) inB_nil)) (inB_cons (by decide) (inB_cons (by decide) (inB_cons (by decide) inB_nil))) (inB_cons (by decide) (inB_cons (by decide) (inB_cons (by decide) (inB_cons (by decide) inB_nil)))) (by decide) q3_2 w3 hR))
  · have hn : u % 3 = 0 ∨ u % 3 = 1 ∨ u % 3 = 2 := by omega
    rcases hn with e2 | e2 | e2
    · exact an_by e e2 (Box.of_eq (t4_0 w u ah R) (go fun hl => an_fin e e2 (by decide) hl hb inB_nil (inB_cons (by decide) (inB_cons (by decide) (inB_cons (by decide) inB_nil))) (inB_cons (by decide) (inB_cons (by decide) (inB_cons (by decide) (inB_cons (by decide) (inB_cons (by decide) inB_nil))))) (by decide) q4_0 w4 hR))
    · exact an_by e e2 (Box.of_eq (t4_1 w u ah R) (go fun hl => an_fin e e2 (by decide) hl hb (inB_cons (by decide) inB_nil) (inB_cons (by decide) (inB_cons (by decide) (inB_cons (by decide) inB_nil))) (inB_cons (by decide) (inB_cons (by decide) (inB_cons (by decide) (inB_cons (by decide) (inB_cons (by decide) inB_nil))))) (by decide) q4_1 w4 hR))
    · exact an_by e e2 (Box.of_eq (t4_2 w u ah R) (go fun hl => an_fin e e2 (by decide) hl hb (inB_cons (by decide) (inB_cons (by decide) inB_nil)) (inB_cons (by decide) (inB_cons (by decide) (inB_cons (by decide) inB_nil))) (inB_cons (by decide) (inB_cons (by decide) (inB_cons (by decide) (inB_cons (by decide) (inB_cons (by decide) inB_nil))))) (by decide) q4_2 w4 hR))
  · have hn : u % 4 = 0 ∨ u % 4 = 1 ∨ u % 4 = 2 ∨ u % 4 = 3 := by omega
    rcases hn with e2 | e2 | e2 | e2
    · exact an_by e e2 (Box.of_eq (t5_0 w u ah R) (go fun hl => an_fin e e2 (by decide) hl hb inB_nil (inB_cons (by decide) (inB_cons (by decide) (inB_cons (by decide) (inB_cons (by decide) inB_nil)))) (inB_cons (by decide) (inB_cons (by decide) (inB_cons (by decide) (inB_cons (by decide) inB_nil)))) (by decide) q5_0 w5 hR))
    · exact an_by e e2 (Box.of_eq (t5_1 w u ah R) (go fun hl => an_fin e e2 (by decide) hl hb (inB_cons (by decide) inB_nil) (inB_cons (by decide) (inB_cons (by decide) (inB_cons (by decide) (inB_cons (by decide) inB_nil)))) (inB_cons (by decide) (inB_cons (by decide) (inB_cons (by decide) (inB_cons (by decide) inB_nil)))) (by decide) q5_1 w5 hR))
    · exact an_by e e2 (Box.of_eq (t5_2 w u ah R) (go fun hl => an_fin e e2 (by decide) hl hb (inB_cons (by decide) (inB_cons (by decide) inB_nil)) (inB_cons (by decide) (inB_cons (by decide) (inB_cons (by decide) (inB_cons (by decide) inB_nil)))) (inB_cons (by decide) (inB_cons (by decide) (inB_cons (by decide) (inB_cons (by decide) inB_nil)))) (by decide) q5_2 w5 hR))
    · exact an_by e e2 (Box.of_eq (t5_3 w u ah R) (go fun hl => an_fin e e2 (by decide) hl hb (inB_cons (by decide) (inB_cons (by decide) (inB_cons (by decide) inB_nil))) (inB_cons (by decide) (inB_cons (by decide) (inB_cons (by decide) (inB_cons (by decide) inB_nil)))) (inB_cons (by decide) (inB_cons (by decide) (inB_cons (by decide) (inB_cons (by decide) inB_nil)))) (by decide) q5_3 w5 hR))
  · have hn : u % 5 = 0 ∨ u % 5 = 1 ∨ u % 5 = 2 ∨ u % 5 = 3 ∨ u % 5 = 4 := by omega
    rcases hn with e2 | e2 | e2 | e2 | e2
    · exact an_by e e2 (Box.of_eq (t6_0 w u ah R) (go fun hl => an_fin e e2 (by decide) hl hb inB_nil (inB_cons (by decide) (inB_cons (by decide) (inB_cons (by decide) (inB_cons (by decide) (inB_cons (by decide) inB_nil))))) (inB_cons (by decide) (inB_cons (by decide) (inB_cons (by decide) (inB_cons (by decide) (inB_cons (by decide) inB_nil))))) (by decide) q6_0 w6 hR))
    · exact an_by e e2 (Box.of_eq (t6_1 w u ah R) (go fun hl => an_fin e e2 (by decide) hl hb (inB_cons (by decide) inB_nil) (inB_cons (by decide) (inB_cons (by decide) (inB_cons (by decide) (inB_cons (by decide) (inB_cons (by decide) inB_nil))))) (inB_cons (by decide) (inB_cons (by decide) (inB_cons (by decide) (inB_cons (by decide) (inB_cons (by decide) inB_nil))))) (by decide) q6_1 w6 hR))
    · exact an_by e e2 (Box.of_eq (t6_2 w u ah R) (go fun hl => an_fin e e2 (by decide) hl hb (inB_cons (by decide) (inB_cons (by decide) inB_nil)) (inB_cons (by decide) (inB_cons (by decide) (inB_cons (by decide) (inB_cons (by decide) (inB_cons (by decide) inB_nil))))) (inB_cons (by decide) (inB_cons (by decide) (inB_cons (by decide) (inB_cons (by decide) (inB_cons (by decide) inB_nil))))) (by decide) q6_2 w6 hR))
    · exact an_by e e2 (Box.of_eq (t6_3 w u ah R) (go fun hl => an_fin e e2 (by decide) hl hb (inB_cons (by decide) (inB_cons (by decide) (inB_cons (by decide) inB_nil))) (inB_cons (by decide) (inB_cons (by decide) (inB_cons (by decide) (inB_cons (by decide) (inB_cons (by decide) inB_nil))))) (inB_cons (by decide) (inB_cons (by decide) (inB_cons (by decide) (inB_cons (by decide) (inB_cons (by decide) inB_nil))))) (by decide) q6_3 w6 hR))
    · exact an_by e e2 (Box.of_eq (t6_4 w u ah R) (go fun hl => an_fin e e2 (by decide) hl hb (inB_cons (by decide) (inB_cons (by decide) (inB_cons (by decide) (inB_cons (by decide) inB_nil)))) (inB_cons (by decide) (inB_cons (by decide) (inB_cons (by decide) (inB_cons (by decide) (inB_cons (by decide) inB_nil))))) (inB_cons (by decide) (inB_cons (by decide) (inB_cons (by decide) (inB_cons (by decide) (inB_cons (by decide) inB_nil))))) (by decide) q6_4 w6 hR))
theorem an_holds (w u : Int) (ah : List Int) (hb : InBytes ah) : Holds (tAn [.c (.i .i64 w), .c (.i .i64 u), .c (.l .u8 ah)] []) fun o => o.res = .v (.c (.b true)) := Gives.holds fun R hR => an_in w u ah hb R hR
def shsAn : List Sh := [.i .i64, .i .i64, .row .u8]
theorem an_law (xs : List NV) (h : R2 ShOk shsAn xs) : Holds (tAn xs []) fun o => o.res = .v (.c (.b true)) := by
  cases h with
  | cons h1 h =>
    cases h with
    | cons h2 h =>
      cases h with
      | cons h3 h =>
        cases h
        cases h1 with
        | @i _ w hw =>
          cases h2 with
          | @i _ u hu =>
            cases h3 with
            | @row _ xs hx =>
              refine an_holds w u xs fun x hx' => ?_
              have := hx x hx'
              simp [Lit.wf, IntKind.min, IntKind.max, IntKind.signed, IntKind.bits] at this
              constructor <;> omega
end Go.Proofs.YtdijbpokklgjlaaGreatDoor.mtl
