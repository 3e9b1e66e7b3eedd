/-
  Plain: what a search by halves finds in lists that are in order.
-/
import Derived.Test.YtamdkmcdleilpaaIns
namespace Go.Proofs.Ytamdkmcdleilpaa
open Go.RowKit

theorem sorted_at {R : List El} (h : SortedL ltE R) {i j : Nat} (hij : i < j) (hj : j < R.length) : ltE (R.getD j el0) (R.getD i el0) = false := by
  have := List.pairwise_iff_getElem.1 h i j (by omega) hj hij
  simpa [List.getD, List.getElem?_eq_getElem hj, List.getElem?_eq_getElem (show i < R.length by omega)] using this
theorem sorted_le {R : List El} (h : SortedL ltE R) {i j : Nat} (hij : i ≤ j) (hj : j < R.length) : ltE (R.getD j el0) (R.getD i el0) = false := by
  rcases Nat.lt_or_ge i j with h' | h'
  · exact sorted_at h h' hj
  · rw [show i = j by omega]; exact ltE_weak.irr _
theorem mem_getD {R : List El} {x : El} (h : x ∈ R) : ∃ i, i < R.length ∧ R.getD i el0 = x := by
  obtain ⟨i, hi, rfl⟩ := List.mem_iff_getElem.1 h
  exact ⟨i, hi, by simp [List.getD, List.getElem?_eq_getElem hi]⟩
theorem take_mem {R : List El} {n : Nat} {x : El} (h : x ∈ R.take n) : ∃ i, i < n ∧ i < R.length ∧ R.getD i el0 = x := by
  obtain ⟨i, hi, e⟩ := mem_getD h
  rw [List.length_take] at hi
  exact ⟨i, by omega, by omega, by rw [← e]; simp [List.getD, List.getElem?_take, show i < n by omega]⟩
theorem drop_mem {R : List El} {n : Nat} {x : El} (h : x ∈ R.drop n) : ∃ i, n ≤ i ∧ i < R.length ∧ R.getD i el0 = x := by
  obtain ⟨i, hi, e⟩ := mem_getD h
  rw [List.length_drop] at hi
  exact ⟨n + i, by omega, by omega, by rw [← e]; simp [List.getD, List.getElem?_drop]⟩
theorem getD_left (A B : List El) {i : Nat} (h : i < A.length) : (A ++ B).getD i el0 = A.getD i el0 := by simp [List.getD, List.getElem?_append_left h]
theorem getD_right (A B : List El) {i j : Nat} (h : i = A.length + j) : (A ++ B).getD i el0 = B.getD j el0 := by
  subst h; simp [List.getD, List.getElem?_append_right]
theorem half_bd {i j : Nat} (h : i < j) : i ≤ (i + j) / 2 ∧ (i + j) / 2 < j := by omega

end Go.Proofs.Ytamdkmcdleilpaa
