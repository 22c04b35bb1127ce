/-
  ham24: the plain law: which bits stand where.
-/
import Derived.Test.YtjfgphfdaghilaaGreatDoorHamK
namespace Go.Proofs.YtjfgphfdaghilaaGreatDoor.ham
open Go Go.Nx

theorem placev_off (n : BitVec 64) (i : Nat) : ∀ (ps : List Nat) (w : BitVec 32) (k : Nat), (∀ p ∈ ps, 0 < p) → i + 1 ∉ ps → (placev n ps w k).getLsbD i = w.getLsbD i
  | [], _, _, _, _ => rfl
  | p :: ps, w, k, h0, h => by
    have hp := h0 p (by simp)
    have hne : i ≠ p - 1 := by
      intro e
      apply h
      have : i + 1 = p := by omega
      rw [this]; simp
    simp only [placev]
    rw [placev_off n i ps _ (k + 1) (fun q hq => h0 q (by simp [hq])) (fun hq => h (by simp [hq])), BitVec.getLsbD_or]
    cases n.getLsbD k with
    | true => simp [BitVec.getLsbD_twoPow, Ne.symm hne]
    | false => simp
theorem placev_on (n : BitVec 64) (i : Nat) (hi : i < 32) : ∀ (ps : List Nat) (w : BitVec 32) (k j : Nat), (∀ p ∈ ps, 0 < p) → ps.Nodup → ps[j]? = some (i + 1) → w.getLsbD i = false → (placev n ps w k).getLsbD i = n.getLsbD (k + j)
  | [], _, _, _, _, _, h, _ => by simp at h
  | p :: ps, w, k, j, h0, hn, h, hw => by
    have hp := h0 p (by simp)
    rw [List.nodup_cons] at hn
    simp only [placev]
    cases j with
    | zero =>
      simp at h
      subst h
      rw [placev_off n i ps _ (k + 1) (fun q hq => h0 q (by simp [hq])) hn.1, BitVec.getLsbD_or, hw]
      cases n.getLsbD k <;> simp [hi]
    | succ j =>
      simp at h
      have hne : i ≠ p - 1 := by
        intro e
        have : p = i + 1 := by omega
        subst this
        exact hn.1 (List.mem_of_getElem? h)
      rw [placev_on n i hi ps _ (k + 1) j (fun q hq => h0 q (by simp [hq])) hn.2 h ?_]
      · congr 1; omega
      · rw [BitVec.getLsbD_or, hw]
        cases n.getLsbD k with
        | true => simp [BitVec.getLsbD_twoPow, Ne.symm hne]
        | false => simp
end Go.Proofs.YtjfgphfdaghilaaGreatDoor.ham
