/-
  slices.IndexFunc; slices.DeleteFunc of a row that the call owns.
-/
import Derived.Test.YtilkcojfencggaaAIn
import Derived.Laws.CopyRow
set_option linter.unusedSimpArgs false
set_option linter.unusedVariables false
namespace Go.Proofs.Ytilkcojfencggaa
open Go.RowKit

theorem bad_le (f t : Int) (l : List Smp) : badAt f t l ≤ l.length := run_len l
theorem bad_in {f t : Int} {l : List Smp} {i : Nat} (h : i < badAt f t l) : inB f t (l.getD i (0, 0)) = true := runs_at (p := fun x => inB f t x) h
theorem bad_out {f t : Int} {l : List Smp} (h : badAt f t l < l.length) : inB f t (l.getD (badAt f t l) (0, 0)) = false := run_end (p := fun x => inB f t x) h

set_option maxRecDepth 100000 in
set_option maxHeartbeats 1000000 in
theorem indexFunc_any (v : Value) (ls : List Smp) (f t : Int) (C B : Nat) (w : World) (hv : Samples w v ls) (he : Env w C B f t) :
    Calls Try.prog 28 #[v, del C] w fun e w' => e = .returned (.int .i64 (idxL f t ls)) ∧ Below w.heap.size w w' := by
  have HV := Lib.hid hv
  have HE := Lib.hid he
  obtain ⟨a, cap, rfl, h1, h2, -⟩ := hv
  clear he
  rw [del]
  have hbl := bad_le f t ls
  go_enter Try.func28, Try.ntmps28
  go_wp2_with fail
  go_loopw [8, 5] (fun i p wr => ∃ k : Nat, k ≤ badAt f t ls ∧ i = .int .i64 k ∧ Below w.heap.size w wr)
    (fun i p wr => ls.length - (intOf i).toNat)
  case atStart => exact ⟨0, Nat.zero_le _, rfl, Below.refl _ _⟩
  case round =>
    obtain ⟨k, hk, rfl, hb0⟩ := hrel
    have HB := Lib.hid hb0
    clear hb0
    by_cases hlt : k < ls.length
    · obtain ⟨b, off, rfl, hb, hc1, hc2⟩ := (HV.out.below HB.out).at_ hlt
      have HC := Lib.hid (fun x y w (h : Env w C B f t) => in1_any x y f t C B w h)
      have HE2 := Lib.hid (HE.out.below HB.out)
      by_cases hke : k = badAt f t ls
      · have HI := Lib.hid (show idxL f t ls = (k : Int) by unfold idxL; rw [if_neg (by omega), hke])
        have hbo : inB f t (ls.getD k (0, 0)) = false := by rw [hke]; exact bad_out (by omega)
        clear hke
        generalize ls.getD k (0, 0) = x at *
        obtain ⟨x1, x2⟩ := x
        go_wp2_with (go_at_call 25; refine (HC.out x1 x2 _ HE2.out).mono ?_; rintro e w1 ⟨rfl, hd⟩; rw [hbo])
        go_ret
        exact ⟨by rw [HI.out]; rfl, HB.out.trans (hd.mono HB.out.size)⟩
      · have hbo : inB f t (ls.getD k (0, 0)) = true := bad_in (by omega)
        generalize ls.getD k (0, 0) = x at *
        obtain ⟨x1, x2⟩ := x
        go_wp2_with (go_at_call 25; refine (HC.out x1 x2 _ HE2.out).mono ?_; rintro e w1 ⟨rfl, hd⟩; rw [hbo])
        exact ⟨⟨k + 1, by omega, by go_num, HB.out.trans (hd.mono HB.out.size)⟩, by simp [intOf]; omega⟩
    · have HI := Lib.hid (show idxL f t ls = -1 by unfold idxL; rw [if_pos (by omega)])
      go_wp2_with fail
      go_ret
      exact ⟨by rw [HI.out]; rfl, HB.out⟩

/-! ### A row that the call owns, written in place -/
def Row (w : World) (base g n cap : Nat) (m : List Smp) : Prop :=
  base ≤ g ∧ m.length = n ∧ n ≤ cap ∧ cap ≤ maxLen ∧ ∃ cur : Array Value, w.heap[g]? = some (.cells cur 37 (0, 0)) ∧ cur.size = cap * 2 ∧ cur.toList.take (n * 2) = m.flatMap encS
theorem OwnR.row {w : World} {base g n cap : Nat} {m : List Smp} (h : OwnR 37 2 encS w base (.slice (some ⟨g, 0, none⟩) n cap) m) : Row w base g n cap m := by
  obtain ⟨_, h2⟩ := h
  rcases h2 with ⟨h, _⟩ | ⟨g', cap', cur, hv, hg, hh, hn, hcap, hs, htake⟩
  · cases h
  · simp only [Value.slice.injEq, Option.some.injEq, Addr.mk.injEq] at hv
    obtain ⟨⟨rfl, _⟩, rfl, rfl⟩ := hv
    exact ⟨hg, rfl, hn, hcap, cur, hh, hs, htake⟩
theorem Row.samples {w : World} {base g n cap : Nat} {m : List Smp} (h : Row w base g n cap m) (k : Nat) (hk : k ≤ n) : Samples w (.slice (some ⟨g, 0, none⟩) k cap) (m.take k) := by
  obtain ⟨h0, h1, h2, h3, cur, h4, h5, h6⟩ := h
  have hl : (m.take k).length = k := by rw [List.length_take]; omega
  refine ⟨_, cap, by rw [hl], by rw [hl]; omega, by simp only [maxLen] at h3; omega, fun _ => ⟨g, 0, rfl, (Array.getElem?_eq_some_iff.1 h4).1, fun i hi => ?_⟩⟩
  rw [hl] at hi
  have e : (m.take k).getD i (0, 0) = m.getD i (0, 0) := by simp [List.getD, List.getElem?_take, hi]
  have hc : ∀ j, j < 2 → w.cell? ⟨g, 0 + i * 2 + j, none⟩ = (encS (m.getD i (0, 0)))[j]? := by
    intro j hj
    rw [cell_of_row w g _ cur _ (0, 0) h4, ← flat_at (enc := encS) (k := 2) (fun _ => rfl) (0, 0) m i j (by omega) hj, ← h6, List.getElem?_take, if_pos (by omega)]
    simp
  rw [e]
  exact ⟨hc 0 (by omega), hc 1 (by omega)⟩
theorem flat_set {m : List Smp} {i : Nat} (x : Smp) (hi : i < m.length) : ((m.flatMap encS).set (i * 2) (.int .i64 x.1)).set (i * 2 + 1) (.int .i64 x.2) = (m.set i x).flatMap encS := by
  induction m generalizing i with
  | nil => simp at hi
  | cons y r ih =>
    cases i with
    | zero => simp [encS]
    | succ j =>
      have e : (j + 1) * 2 = j * 2 + 1 + 1 := by omega
      have := ih (i := j) (by simpa using hi)
      simp only [List.flatMap_cons, encS, e, List.cons_append, List.nil_append, List.set_cons_succ]
      rw [← this]
theorem Row.set {w : World} {base g n cap i : Nat} {m : List Smp} (h : Row w base g n cap m) (x : Smp) (hi : i < n) :
    Row ((w.setCell ⟨g, i * 2, none⟩ (.int .i64 x.1)).setCell ⟨g, i * 2 + 1, none⟩ (.int .i64 x.2)) base g n cap (m.set i x) := by
  obtain ⟨h0, h1, h2, h3, cur, h4, h5, h6⟩ := h
  refine ⟨h0, by rw [List.length_set]; exact h1, h2, h3, _, heap_set (heap_set h4), by simp [h5], ?_⟩
  rw [← flat_set x (by omega), ← h6]
  simp only [Array.toList_setIfInBounds]
  rw [List.take_set, List.take_set]
theorem Row.cells {w : World} {base g n cap i : Nat} {m : List Smp} (h : Row w base g n cap m) (hi : i < n) :
    (∃ a b, w.cell? ⟨g, i * 2, none⟩ = some a ∧ w.cell? ⟨g, i * 2 + 1, none⟩ = some b) ∧ w.frozen? ⟨g, i * 2, none⟩ = false ∧ w.frozen? ⟨g, i * 2 + 1, none⟩ = false := by
  obtain ⟨h0, h1, h2, h3, cur, h4, h5, h6⟩ := h
  refine ⟨⟨cur[i * 2]'(by omega), cur[i * 2 + 1]'(by omega), ?_, ?_⟩, ?_, ?_⟩
  · rw [cell_of_row w g _ cur _ (0, 0) h4]; simp [show i * 2 < cur.size by omega]
  · rw [cell_of_row w g _ cur _ (0, 0) h4]; simp [show i * 2 + 1 < cur.size by omega]
  · simp [World.frozen?, h4]
  · simp [World.frozen?, h4]
theorem Row.below {w w' : World} {base g n cap : Nat} {m : List Smp} (h : Row w base g n cap m) (hb : Below w.heap.size w w') : Row w' base g n cap m := by
  obtain ⟨h0, h1, h2, h3, cur, h4, h5, h6⟩ := h
  exact ⟨h0, h1, h2, h3, cur, (hb.block g (Array.getElem?_eq_some_iff.1 h4).1).trans h4, h5, h6⟩

end Go.Proofs.Ytilkcojfencggaa
