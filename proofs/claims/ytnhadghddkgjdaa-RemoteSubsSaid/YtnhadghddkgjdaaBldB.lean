/-
  strings.Builder, as contracts: copyCheck and String of a builder that a call has laid.
-/
import Derived.Test.YtnhadghddkgjdaaBldA
import Derived.Test.YtnhadghddkgjdaaNum
set_option linter.unusedVariables false
namespace Go.Proofs.Ytnhadghddkgjdaa.bld
open Go Go.Nx

noncomputable def tCC : Con := fun args regs => match args, regs with
  | [.c (.p 0 0 0)], ⟨2, 88, .cells [.pn, y]⟩ :: rest => .ret ⟨.tu [], some ⟨2, 88, .cells [.p 0 0 0, y]⟩ :: rest.map some⟩
  | [.c (.p 0 0 0)], ⟨2, 88, .cells [.p 0 0 0, y]⟩ :: rest => .ret ⟨.tu [], some ⟨2, 88, .cells [.p 0 0 0, y]⟩ :: rest.map some⟩
  | _, _ => .fail
noncomputable def tStr : Con := fun args regs => match args, regs with
  | [.c (.p 0 0 0)], [⟨2, 88, .cells [_, .h 1 0 n]⟩, ⟨1, 5, .ints .u8 xs⟩] =>
    .must (n = xs.length ∧ xs ≠ [] ∧ ∀ x ∈ xs, 0 ≤ x ∧ x < 256) (.ret ⟨.v (.c (.s (strOfNums xs))), [none, none]⟩)
  | _, _ => .fail

theorem goes_cc : ∀ args w, (callFunc 71 args).run Try.prog w = .ok (.enter 71 args) w := Go.Proofs.enters_of Try.func71 (by kernel_rfl) rfl
theorem goes_str : ∀ args w, (callFunc 61 args).run Try.prog w = .ok (.enter 61 args) w := Go.Proofs.enters_of Try.func61 (by kernel_rfl) rfl

/-- A region of cells: the first two, and how many there are. -/
theorem two_cells {Γ : Env} {g : Reg} {B : Blk} {w : World} {x y : NC} (h : RegRel Γ g B w) (hb : g.body = .cells [x, y]) :
    ∃ (c : Array Value) (u v : Value) (l2 : List Value), w.heap[B.blk]? = some (.cells c g.e (0, 0)) ∧ c.toList = u :: v :: l2 ∧ c.size = B.sz ∧ B.st = g.st ∧ CR Γ x u ∧ CR Γ y v := by
  obtain ⟨c, h1, h2, h3, h4⟩ := h
  rw [hb] at h4
  obtain ⟨l1, l2, h5, h6⟩ := h4
  cases h6 with
  | cons r1 r =>
    cases r with
    | cons r2 r =>
      cases r
      exact ⟨c, _, _, l2, h1, h5, h3, h2, r1, r2⟩

theorem setCell_at (w : World) (b : Nat) (c : Array Value) (t : TypeId) (f : Nat × Nat) (v : Value) (h : w.heap[b]? = some (.cells c t f)) :
    (w.setCell ⟨b, 0, none⟩ v).heap[b]? = some (.cells (c.setIfInBounds 0 v) t f) := by
  simp [World.setCell, Array.getElem?_modify, h]
theorem setCell_ne (w : World) (b b' : Nat) (v : Value) (h : b' ≠ b) : (w.setCell ⟨b, 0, none⟩ v).heap[b']? = w.heap[b']? := by
  simp [World.setCell, Array.getElem?_modify, Ne.symm h]

theorem kCC : Known Try.prog [] 71 tCC := by
  refine ⟨goes_cc, fun args regs R h Γ w vs hw hG ha hout => ?_⟩
  unfold tCC at h
  split at h
  case h_3 => exact h.elim
  case h_1 =>
    rename_i y rest
    have hR : R ⟨.tu [], some ⟨2, 88, .cells [.p 0 0 0, y]⟩ :: rest.map some⟩ := h
    clear h
    cases ha with
    | cons r1 r =>
      cases r
      obtain ⟨⟨B, hB, rfl⟩, -⟩ := r1
      obtain ⟨B', hB', hr⟩ := hw.live 0 _ rfl
      rw [hB] at hB'; cases hB'
      obtain ⟨c, u, v, l2, h1, h2, h3, h4, ⟨h5, -⟩, h6⟩ := two_cells hr rfl
      have h5' : u = .pointer none := h5
      subst h5'
      have hsz : c.size = 2 + l2.length := by rw [← Array.length_toList, h2]; simp; omega
      have h1' : w.heap[B.blk]? = some (.cells c 88 (0, 0)) := h1
      have hc0 : c[0]? = some (.pointer none) := by rw [← Array.getElem?_toList, h2]; rfl
      have e0 : (0 * B.st + 0 : Nat) = 0 := by omega
      rw [e0]
      refine (check_new B.blk c.size (by omega) w (by simp [World.cell?, h1', hc0]) (by simp [World.shape?, h1']) (by simp [World.frozen?, h1'])).mono ?_
      rintro e w' ⟨rfl, rfl⟩
      refine ⟨_, _, Γ, hR, rfl, Ext.refl Γ w, ⟨[], rfl, .nil⟩, ?_, ⟨rfl, rfl, rfl, by simp [World.setCell]⟩⟩
      have hch := hw.change (n := 0) (B := B) (w' := w.setCell ⟨B.blk, 0, none⟩ (.pointer (some ⟨B.blk, 0, none⟩))) (g' := ⟨2, 88, .cells [.p 0 0 0, y]⟩) ⟨_, rfl⟩ hB (fun b hb => setCell_ne w _ _ _ hb) ?_
      · exact hch
      · refine ⟨_, setCell_at w _ _ _ _ _ h1', h4, by simpa using h3, ?_⟩
        refine ⟨[.pointer (some ⟨B.blk, 0, none⟩), v], l2, ?_, .cons ⟨⟨B, hB, by rw [e0]⟩, rfl⟩ (.cons h6 .nil)⟩
        rw [Array.toList_setIfInBounds, h2]; rfl
  case h_2 =>
    rename_i y rest
    have hR : R ⟨.tu [], some ⟨2, 88, .cells [.p 0 0 0, y]⟩ :: rest.map some⟩ := h
    clear h
    cases ha with
    | cons r1 r =>
      cases r
      obtain ⟨⟨B, hB, rfl⟩, -⟩ := r1
      obtain ⟨B', hB', hr⟩ := hw.live 0 _ rfl
      rw [hB] at hB'; cases hB'
      obtain ⟨c, u, v, l2, h1, h2, h3, h4, ⟨⟨B', hB', h5⟩, -⟩, h6⟩ := two_cells hr rfl
      rw [hB] at hB'; cases hB'
      subst h5
      have h1' : w.heap[B.blk]? = some (.cells c 88 (0, 0)) := h1
      have e0 : (0 * B.st + 0 : Nat) = 0 := by omega
      have hc0 : c[0]? = some (.pointer (some ⟨B.blk, 0 * B.st + 0, none⟩)) := by rw [← Array.getElem?_toList, h2]; rfl
      rw [e0] at hc0 ⊢
      refine (check_used B.blk w (by simp [World.cell?, h1', hc0])).mono ?_
      rintro e w' ⟨rfl, rfl⟩
      exact ⟨_, _, Γ, hR, rfl, Ext.refl Γ w', ⟨[], rfl, .nil⟩, hw, Wd.refl w'⟩

theorem freeze_ne (w : World) (b b' n : Nat) (h : b' ≠ b) : (w.freeze ⟨b, 0, none⟩ n).heap[b']? = w.heap[b']? := by
  unfold World.freeze
  split
  · rfl
  · simp [Array.getElem?_modify, Ne.symm h]
theorem freeze_size (w : World) (a : Addr) (n : Nat) : (w.freeze a n).heap.size = w.heap.size := by
  unfold World.freeze
  split
  · rfl
  · simp

theorem kStr : Known Try.prog [] 61 tStr := by
  refine ⟨goes_str, fun args regs R h Γ w vs hw hG ha hout => ?_⟩
  unfold tStr at h
  split at h
  case h_2 => exact h.elim
  rename_i q n xs
  have hp := h.1
  have hR : R ⟨.v (.c (.s (strOfNums xs))), [none, none]⟩ := h.2
  clear h
  obtain ⟨hn, hne, hx⟩ := hp
  subst hn
  cases ha with
  | cons r1 r =>
    cases r
    obtain ⟨⟨B, hB, rfl⟩, -⟩ := r1
    obtain ⟨B', hB', hr⟩ := hw.live 0 _ rfl
    rw [hB] at hB'; cases hB'
    obtain ⟨c, u, v, l2, h1, h2, h3, h4, h5, ⟨⟨G, o, cap, hG', h6, h7, h8, h9⟩, -⟩⟩ := two_cells hr rfl
    subst h6
    obtain ⟨G', hG2, d, k1, k2, k3, k4, k5, k6⟩ := hw.live 1 _ rfl
    rw [hG'] at hG2; cases hG2
    have hl0 : 0 < xs.length := List.length_pos_iff.2 hne
    have ho : o = 0 := by
      rcases h9 with ⟨rfl, -⟩ | h9
      · simp
      · omega
    subst ho
    have h1' : w.heap[B.blk]? = some (.cells c 88 (0, 0)) := h1
    have k1' : w.heap[G.blk]? = some (.cells d 5 (0, 0)) := k1
    have hc1 : c[1]? = some (.slice (some ⟨G.blk, 0, none⟩) xs.length cap) := by rw [← Array.getElem?_toList, h2]; rfl
    have hd : ∀ j : Nat, j < xs.length → d[j]? = some (.int .u8 (xs.getD j 0)) := fun j hj => by
      rw [← Array.getElem?_toList, k6, List.getElem?_append_left (by simpa using hj), List.getElem?_map, List.getElem?_eq_getElem hj, List.getD_eq_getElem?_getD, List.getElem?_eq_getElem hj]
      rfl
    have hdl : xs.length ≤ d.size := by rw [← Array.length_toList, k6]; simp
    have e0 : (0 * B.st + 0 : Nat) = 0 := by omega
    rw [e0]
    have hll : (xs.map fun n => UInt8.ofNat n.toNat).length = xs.length := by simp
    have hs := string_of B.blk G.blk cap d.size (xs.map fun n => UInt8.ofNat n.toNat) w (by simpa using hne) (by rw [hll]; exact h7) (by rw [hll]; exact hdl) (by rw [hll]; unfold maxLen at h8; omega) (by rw [hll]; simp [World.cell?, h1', hc1]) (by simp [World.shape?, k1']) ?_
    · refine hs.mono ?_
      rintro e w' ⟨rfl, rfl⟩
      refine ⟨_, _, Γ, hR, rfl, Ext.refl Γ w, ⟨rfl, rfl⟩, ?_, ?_⟩
      · refine ⟨fun n g hg => ?_, fun n m B B' _ hn => ?_, fun b o' hb => ?_, fun n B hn => ?_, hw.ro⟩
        · match n, hg with
          | 0, hg => simp at hg
          | 1, hg => simp at hg
          | n + 2, hg => simp at hg
        · obtain ⟨g, hg⟩ := hn
          match n, hg with
          | 0, hg => simp at hg
          | 1, hg => simp at hg
          | n + 2, hg => simp at hg
        · have hne : b ≠ G.blk := fun he => by
            have := hw.apart 1 G ⟨_, rfl⟩ hG'
            rw [he, this] at hb
            cases hb
          rw [freeze_ne _ _ _ _ hne]
          exact hw.kp b o' hb
        · obtain ⟨g, hg⟩ := hn
          match n, hg with
          | 0, hg => simp at hg
          | 1, hg => simp at hg
          | n + 2, hg => simp at hg
      · exact ⟨by unfold World.freeze; split <;> rfl, by unfold World.freeze; split <;> rfl, by unfold World.freeze; split <;> rfl, by rw [freeze_size]; exact Nat.le_refl _⟩
    · intro j x hj
      rw [List.getElem?_map] at hj
      obtain ⟨y, hy, rfl⟩ := Option.map_eq_some_iff.1 hj
      have hjl : j < xs.length := (List.getElem?_eq_some_iff.1 hy).1
      have hmem : y ∈ xs := List.mem_of_getElem? hy
      have hb := hx y hmem
      have hdj := hd j hjl
      rw [List.getD_eq_getElem?_getD, hy] at hdj
      have e2 : (((UInt8.ofNat y.toNat).toNat : Nat) : Int) = y := by
        rw [UInt8.toNat_ofNat']
        omega
      rw [e2]
      have : ((⟨G.blk, 0, none⟩ : Addr).add j) = ⟨G.blk, j, none⟩ := by simp [Addr.add] <;> omega
      rw [this]
      simp [World.cell?, k1', hdj]

end Go.Proofs.Ytnhadghddkgjdaa.bld
