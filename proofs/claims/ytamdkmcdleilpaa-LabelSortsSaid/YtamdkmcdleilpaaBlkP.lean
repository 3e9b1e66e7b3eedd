/-
  Plain: blocks in order, merged two by two.
-/
import Derived.Test.YtamdkmcdleilpaaSymW
namespace Go.Proofs.Ytamdkmcdleilpaa
open Go.RowKit

/-- Each block of s in order, the last one shorter. -/
def blk (s : Nat) (l : List El) : List El :=
  if h : s = 0 ∨ l.length ≤ s then sortL ltE l else sortL ltE (l.take s) ++ blk s (l.drop s)
termination_by l.length
decreasing_by simp at h ⊢; omega

theorem blk_last {s : Nat} {l : List El} (h : l.length ≤ s) : blk s l = sortL ltE l := by rw [blk, dif_pos (.inr h)]
theorem blk_step {s : Nat} {l : List El} (h : s ≤ l.length) (h0 : 0 < s) : blk s l = sortL ltE (l.take s) ++ blk s (l.drop s) := by
  rcases Nat.lt_or_ge s l.length with h1 | h1
  · rw [blk, dif_neg (by omega)]
  · have e : l.take s = l := List.take_of_length_le h1
    have e2 : l.drop s = [] := List.drop_of_length_le h1
    rw [blk_last h1, e, e2, blk_last (by simp)]
    simp [sortL]
theorem blk_len {s : Nat} : ∀ (k : Nat) (l : List El), l.length ≤ k → (blk s l).length = l.length := by
  intro k
  induction k with
  | zero => intro l h; rw [blk_last (by omega), sortL_len]
  | succ k ih =>
    intro l h
    by_cases h1 : s = 0 ∨ l.length ≤ s
    · rw [blk, dif_pos h1, sortL_len]
    · rw [blk_step (by omega) (by omega), List.length_append, sortL_len, ih _ (by simp; omega)]; simp; omega
theorem blk_length (s : Nat) (l : List El) : (blk s l).length = l.length := blk_len l.length l (Nat.le_refl _)

/-- Two blocks become one. -/
theorem blk_two {s s2 : Nat} {l : List El} (h2 : s2 = s + s) (h : s2 ≤ l.length) (h0 : 0 < s) :
    blk s l = sortL ltE (l.take s) ++ (sortL ltE ((l.drop s).take s) ++ blk s (l.drop s2)) ∧ blk s2 l = mergeL ltE (sortL ltE (l.take s)) (sortL ltE ((l.drop s).take s)) ++ blk s2 (l.drop s2) := by
  subst h2
  refine ⟨?_, ?_⟩
  · rw [blk_step (by omega) h0, blk_step (l := l.drop s) (by simp; omega) h0, List.drop_drop]
  · rw [blk_step h (by omega), ← sortL_append ltE_weak, List.take_add]
theorem blk_rest {s s2 : Nat} {l : List El} (h2 : s2 = s + s) (h : l.length < s2) (h1 : s < l.length) (h0 : 0 < s) :
    blk s l = sortL ltE (l.take s) ++ sortL ltE (l.drop s) ∧ blk s2 l = mergeL ltE (sortL ltE (l.take s)) (sortL ltE (l.drop s)) := by
  subst h2
  refine ⟨?_, ?_⟩
  · rw [blk_step (by omega) h0, blk_last (l := l.drop s) (by simp; omega)]
  · rw [blk_last (by omega), ← sortL_append ltE_weak, List.take_append_drop]
theorem blk_short {s s2 : Nat} {l : List El} (h2 : s2 = s + s) (h1 : l.length ≤ s) : blk s l = blk s2 l := by
  rw [blk_last h1, blk_last (by omega)]

end Go.Proofs.Ytamdkmcdleilpaa
