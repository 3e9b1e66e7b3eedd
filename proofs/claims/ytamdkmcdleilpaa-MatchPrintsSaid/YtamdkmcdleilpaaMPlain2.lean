/-
  Plain: how long the text of matchers is; strings.Join of any list.
-/
import Derived.Test.YtamdkmcdleilpaaOneL
namespace Go.Proofs.Ytamdkmcdleilpaa
open Go.RowKit

theorem lens_quotes (l : List Bytes) : lens (l.map quoteL) ≤ 2 * sl l + 2 * l.length := by
  induction l with
  | nil => simp [lens, sl]
  | cons x r ih =>
    have h := (quoteL_len x).2
    have e1 : lens ((x :: r).map quoteL) = (quoteL x).length + lens (r.map quoteL) := by simp [lens]
    have e2 : sl (x :: r) = x.length + sl r := by simp [sl]
    rw [e1, e2]; simp only [List.length_cons]; omega
theorem joinB_le (c : UInt8) (l : List Bytes) : (joinB [c] l).length ≤ lens l + l.length := by
  cases l with
  | nil => simp [joinB]
  | cons x r =>
    rw [joinB_len]
    have e : lens (x :: r) = x.length + lens r := by simp [lens]
    rw [e]; simp only [List.length_cons]; omega
theorem quotesL_le (l : List Bytes) : (quotesL l).length ≤ 2 * sl l + 3 * l.length := by
  have h1 := joinB_le 124 (l.map quoteL)
  have h2 := lens_quotes l
  rw [List.length_map] at h1
  unfold quotesL; omega
theorem preK_len (k : Int) : (preK k).length ≤ 1 := by unfold preK; split; simp; split; simp; split <;> simp
def wOf (m : Mat) : Nat := m.n.length + m.x.length + m.ss.length + sl m.ss
theorem partM_le (m : Mat) : (partM m).length ≤ 3 * wOf m + 5 := by
  have h1 := quotesL_le (valsOf m)
  have h2 := preK_len m.k
  have h3 : sl (valsOf m) ≤ m.x.length + sl m.ss ∧ (valsOf m).length ≤ 1 + m.ss.length := by
    unfold valsOf; split
    · simp [sl]
    · omega
  have e : (partM m).length = m.n.length + (preK m.k).length + (quotesL (valsOf m)).length + 1 := by simp [partM]; omega
  rw [e]; unfold wOf; omega
theorem lens_partM (ms : List Mat) : lens (ms.map partM) ≤ 3 * wm ms + 5 * ms.length := by
  induction ms with
  | nil => simp [lens, wm]
  | cons m r ih =>
    have h := partM_le m
    have e1 : lens ((m :: r).map partM) = (partM m).length + lens (r.map partM) := by simp [lens]
    have e2 : wm (m :: r) = wOf m + wm r := by simp [wm, wOf]
    rw [e1, e2]; simp only [List.length_cons]; omega
theorem bodyM_len (ms : List Mat) : (bodyM ms).length ≤ 3 * wm ms + 6 * ms.length := by
  have h1 := joinB_le 44 (ms.map partM)
  have h2 := lens_partM ms
  rw [List.length_map] at h1
  unfold bodyM; omega
theorem partM_take {ms : List Mat} {k : Nat} (h : k < ms.length) : (ms.take (k + 1)).map partM = (ms.take k).map partM ++ [partM (ms.getD k noMat)] := by
  have e : ms.take (k + 1) = ms.take k ++ [ms.getD k noMat] := by
    rw [List.take_add_one, List.getElem?_eq_getElem h]; simp [List.getD, List.getElem?_eq_getElem h]
  rw [e, List.map_append]; rfl
theorem quote_take {ss : List Bytes} {k : Nat} (h : k < ss.length) : (ss.take (k + 1)).map quoteL = (ss.take k).map quoteL ++ [quoteL (ss.getD k [])] := by
  have e : ss.take (k + 1) = ss.take k ++ [ss.getD k []] := by
    rw [List.take_add_one, List.getElem?_eq_getElem h]; simp [List.getD, List.getElem?_eq_getElem h]
  rw [e, List.map_append]; rfl
theorem sl_getD {ss : List Bytes} {k : Nat} (h : k < ss.length) : (ss.getD k []).length ≤ sl ss := by
  have h1 := sl_succ h
  have h2 : sl ss = sl (ss.take (k + 1)) + sl (ss.drop (k + 1)) := by unfold sl; rw [← List.sum_append, ← List.map_append, List.take_append_drop]
  omega
theorem chk_no {ms : List Mat} {m : Mat} (hm : m ∈ ms) (h : okMat m = false) : chkM ms = false := by
  cases hc : chkM ms with
  | false => rfl
  | true => rw [chk_ok hc hm] at h; cases h
theorem chk_long {ms : List Mat} (h : 8 < ms.length) : chkM ms = false := by unfold chkM; rw [decide_eq_false (by omega)]; rfl
theorem chk_all {ms : List Mat} (h : ms.length ≤ 8) (ha : ∀ i, i < ms.length → okMat (ms.getD i noMat) = true) : chkM ms = true := by
  unfold chkM
  rw [decide_eq_true h, Bool.true_and, List.all_eq_true]
  intro m hm
  obtain ⟨i, hi, rfl⟩ := List.mem_iff_getElem.1 hm
  have := ha i hi
  simpa [List.getD, List.getElem?_eq_getElem hi] using this
theorem signV_pre {i : Nat} (h : i < 4) : signV i = preK (i : Int) ++ [61] := by
  rcases (show i = 0 ∨ i = 1 ∨ i = 2 ∨ i = 3 by omega) with rfl | rfl | rfl | rfl <;> rfl
theorem kindSg (s : ByteArray) (f : Fn) (w : World) : (Instr.field 58 (.agg #[.string s, .func f #[] #[]]) 0).run Try.prog w = .ok (.string s) w := by kernel_rfl

theorem join_all (v : Value) (l : List Bytes) (c : UInt8) (w : World) (h : Strs w v l) (hl : lens l + l.length ≤ 100000000) :
    Calls Try.prog 56 #[v, .string (bs [c])] w fun e w' => e = .returned (.string (bs (joinB [c] l))) ∧ Below w.heap.size w w' := by
  match l, h, hl with
  | [], h, _ => exact (join_none v [c] w h).mono fun e w' ⟨he, hw⟩ => ⟨he, hw ▸ Below.refl _ _⟩
  | [x], h, _ => exact (join_one v x [c] w h).mono fun e w' ⟨he, hw⟩ => ⟨by rw [he]; simp [joinB], hw ▸ Below.refl _ _⟩
  | x :: y :: r, h, hl =>
    refine join_more v x y r c w h ?_
    have e : lens (x :: y :: r) = x.length + lens (y :: r) := by simp [lens]
    have e2 : lens (y :: r) = y.length + lens r := by simp [lens]
    simp only [e, e2, List.length_cons] at *
    omega

end Go.Proofs.Ytamdkmcdleilpaa
