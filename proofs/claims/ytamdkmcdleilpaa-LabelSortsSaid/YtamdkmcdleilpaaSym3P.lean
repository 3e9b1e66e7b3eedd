/-
  Plain: where the merge by halves cuts its two lists.
-/
import Derived.Test.YtamdkmcdleilpaaSym2
namespace Go.Proofs.Ytamdkmcdleilpaa
open Go.RowKit

theorem sym_cut {L R : List El} (hL : SortedL ltE L) (hR : SortedL ltE R) (k k0 kr h : Nat) (hk : k ≤ L.length) (hkh : k ≤ h) (hkr : h ≤ k + R.length)
    (hlo : k = k0 ∨ (0 < k ∧ ltE (R.getD (h - k) el0) (L.getD (k - 1) el0) = false))
    (hhi : k = kr ∨ ltE (R.getD (h - 1 - k) el0) (L.getD k el0) = true)
    (h0 : k0 = 0 ∨ k0 + R.length = h) (hr : kr = L.length ∨ kr = h) :
    mergeL ltE L R = mergeL ltE (L.take k) (R.take (h - k)) ++ mergeL ltE (L.drop k) (R.drop (h - k)) := by
  conv => lhs; rw [← List.take_append_drop k L, ← List.take_append_drop (h - k) R]
  refine mergeL_split _ _ _ _ (fun x hx y hy => ?_) (fun x hx y hy => ?_)
  · obtain ⟨i, i1, i2, rfl⟩ := take_mem hx
    obtain ⟨j, j1, j2, rfl⟩ := drop_mem hy
    rcases hlo with e | ⟨e1, e2⟩
    · rcases h0 with e0 | e0 <;> exfalso <;> omega
    · exact ltE_weak.neg _ _ _ (ltE_weak.neg _ _ _ (sorted_le hR j1 j2) e2) (sorted_le hL (show i ≤ k - 1 by omega) (by omega))
  · obtain ⟨j, j1, j2, rfl⟩ := take_mem hx
    obtain ⟨i, i1, i2, rfl⟩ := drop_mem hy
    rcases hhi with e | e
    · rcases hr with e0 | e0 <;> exfalso <;> omega
    · have hq : ltE (R.getD j el0) (L.getD k el0) = true := ltE_weak.le_lt (sorted_le hR (show j ≤ h - 1 - k by omega) (by omega)) e
      exact ltE_weak.lt_of_le hq (sorted_le hL i1 i2)

end Go.Proofs.Ytamdkmcdleilpaa
