/-
  Rows of samples that are written in place: swapRange, rotate.
-/
import Derived.Test.YtnjcelilljniaaaTRight
import Derived.Test.YtnjcelilljniaaaTSortP
import Derived.BigRegion
namespace Go.Proofs.Ytnjcelilljniaaa
open Go.RowKit

theorem gb_refl (w : World) (pb : Option Nat) : w.grownBy w pb := ⟨rfl, rfl, rfl, Nat.le_refl _, fun _ _ _ => rfl⟩
theorem gb_below {w w1 w2 : World} {pb : Option Nat} {B : Nat} (h : w.grownBy w1 pb) (hb : Below B w1 w2) (hB : w.heap.size ≤ B) : w.grownBy w2 pb :=
  ⟨hb.os.trans h.os, hb.tape.trans h.tape, hb.output.trans h.output, Nat.le_trans h.size hb.size, fun k hk hne => (hb.block k (by omega)).trans (h.block k hk hne)⟩
theorem gb_set {w w1 : World} {pb : Nat} (h : w.grownBy w1 (some pb)) (v : Value) : w.grownBy (w1.setCell ⟨pb, 0, none⟩ v) (some pb) :=
  ⟨h.os, h.tape, h.output, by have := h.size; simpa [World.setCell] using this, fun k hk hne => (Below.heap_setCell _ _ _ _ (fun e => hne (by simp [e]))).trans (h.block k hk hne)⟩
theorem gb_trans {w w1 w2 : World} {pb : Option Nat} (h : w.grownBy w1 pb) (h2 : w1.grownBy w2 pb) : w.grownBy w2 pb :=
  ⟨h2.os.trans h.os, h2.tape.trans h.tape, h2.output.trans h.output, Nat.le_trans h.size h2.size, fun k hk hne => (h2.block k (Nat.lt_of_lt_of_le hk h.size) hne).trans (h.block k hk hne)⟩

abbrev El := Smp
def el0 : El := (0, 0)
def cA (x : El) : Value := .int .i64 x.1
def cB (x : El) : Value := .int .i64 x.2
def encSE (x : El) : List Value := [cA x, cB x]
theorem encSE_def : encS = encSE := rfl

/-- The row in block g holds l. -/
def RowE (w : World) (g cap : Nat) (l : List El) : Prop :=
  l.length ≤ cap ∧ cap ≤ maxLen ∧ ∃ cur : Array Value, w.heap[g]? = some (.cells cur 25 (0, 0)) ∧ cur.size = cap * 2 ∧ cur.toList.take (l.length * 2) = l.flatMap encSE
theorem RowE.lt {w : World} {g cap : Nat} {l : List El} (h : RowE w g cap l) : g < w.heap.size := by
  obtain ⟨_, _, cur, h4, _⟩ := h; exact lt_of_heap h4
theorem RowE.at_ {w : World} {g cap i : Nat} {l : List El} (h : RowE w g cap l) (hi : i < l.length) :
    w.cell? ⟨g, i * 2, none⟩ = some (cA (l.getD i el0)) ∧ w.cell? ⟨g, i * 2 + 1, none⟩ = some (cB (l.getD i el0)) := by
  obtain ⟨h2, h3, cur, h4, h5, h6⟩ := h
  have hc : ∀ j, j < 2 → w.cell? ⟨g, i * 2 + j, none⟩ = (encSE (l.getD i el0))[j]? := by
    intro j hj
    rw [cell_of_row w g _ cur _ (0, 0) h4, ← flat_at (enc := encSE) (k := 2) (fun _ => rfl) el0 l i j hi hj, ← h6, List.getElem?_take, if_pos (by omega)]
    simp
  exact ⟨hc 0 (by omega), hc 1 (by omega)⟩
theorem RowE.frozen {w : World} {g cap : Nat} {l : List El} (h : RowE w g cap l) (i : Nat) : w.frozen? ⟨g, i, none⟩ = false := by
  obtain ⟨_, _, cur, h4, _⟩ := h; exact Lib.frozen_of_heap h4 i
theorem RowE.below {w w' : World} {g cap B : Nat} {l : List El} (h : RowE w g cap l) (hb : Below B w w') (hg : g < B) : RowE w' g cap l := by
  obtain ⟨h2, h3, cur, h4, h5, h6⟩ := h
  exact ⟨h2, h3, cur, (hb.block g hg).trans h4, h5, h6⟩
theorem heap_setE {w : World} {b j : Nat} {v : Value} {cs : Array Value} {t : TypeId} (h : w.heap[b]? = some (.cells cs t (0, 0))) : (w.setCell ⟨b, j, none⟩ v).heap[b]? = some (.cells (cs.setIfInBounds j v) t (0, 0)) := by
  obtain ⟨hlt, hk⟩ := Array.getElem?_eq_some_iff.1 h
  show (w.heap.modify b _)[b]? = _
  rw [Array.getElem?_eq_getElem (by rw [Array.size_modify]; exact hlt), Array.getElem_modify_self, hk]
  rfl
theorem flat_setE {m : List El} {i : Nat} (x : El) (hi : i < m.length) : ((m.flatMap encSE).set (i * 2) (cA x)).set (i * 2 + 1) (cB x) = (m.set i x).flatMap encSE := by
  induction m generalizing i with
  | nil => simp at hi
  | cons y r ih =>
    cases i with
    | zero => simp [encSE]
    | succ j =>
      have e : (j + 1) * 2 = j * 2 + 1 + 1 := by omega
      have := ih (i := j) (by simpa using hi)
      simp only [List.flatMap_cons, encSE, e, List.cons_append, List.nil_append, List.set_cons_succ] at this ⊢
      rw [← this]
theorem RowE.set {w : World} {g cap i : Nat} {l : List El} (h : RowE w g cap l) (x : El) (hi : i < l.length) :
    RowE ((w.setCell ⟨g, i * 2, none⟩ (cA x)).setCell ⟨g, i * 2 + 1, none⟩ (cB x)) g cap (l.set i x) := by
  obtain ⟨h2, h3, cur, h4, h5, h6⟩ := h
  refine ⟨by rw [List.length_set]; exact h2, h3, _, heap_setE (heap_setE h4), by simp [h5], ?_⟩
  rw [List.length_set, ← flat_setE x hi, ← h6]
  simp only [Array.toList_setIfInBounds]
  rw [List.take_set, List.take_set]
/-- Two elements change places. -/
def swapE (l : List El) (i j : Nat) : List El := (l.set i (l.getD j el0)).set j (l.getD i el0)
theorem RowE.swap {w : World} {g cap i j : Nat} {l : List El} (h : RowE w g cap l) (hi : i < l.length) (hj : j < l.length) :
    RowE ((((w.setCell ⟨g, i * 2, none⟩ (cA (l.getD j el0))).setCell ⟨g, i * 2 + 1, none⟩ (cB (l.getD j el0))).setCell ⟨g, j * 2, none⟩ (cA (l.getD i el0))).setCell ⟨g, j * 2 + 1, none⟩ (cB (l.getD i el0))) g cap (swapE l i j) :=
  (h.set _ hi).set _ (by rw [List.length_set]; exact hj)
theorem swapE_len (l : List El) (i j : Nat) : (swapE l i j).length = l.length := by simp [swapE]
theorem getD_mid (A B : List El) (x : El) : (A ++ x :: B).getD A.length el0 = x := by simp [List.getD]
theorem set_mid (A B : List El) (x y : El) : (A ++ x :: B).set A.length y = A ++ y :: B := by simp
theorem swapE_mid (A B C : List El) (x y : El) : swapE (A ++ x :: (B ++ y :: C)) A.length (A.length + 1 + B.length) = A ++ y :: (B ++ x :: C) := by
  have e1 : (A ++ x :: (B ++ y :: C)).getD A.length el0 = x := getD_mid _ _ _
  have e2 : (A ++ x :: (B ++ y :: C)).getD (A.length + 1 + B.length) el0 = y := by
    have h := getD_mid (A ++ x :: B) C y
    rw [List.append_assoc, List.cons_append] at h
    rw [show A.length + 1 + B.length = (A ++ x :: B).length by simp; omega]
    exact h
  unfold swapE
  rw [e1, e2, set_mid]
  have h := set_mid (A ++ y :: B) C y x
  rw [List.append_assoc, List.cons_append, List.append_assoc, List.cons_append] at h
  rw [show A.length + 1 + B.length = (A ++ y :: B).length by simp; omega]
  exact h
theorem RowE.drew {w : World} {g cap : Nat} {l : List El} (h : RowE w g cap l) (n : Nat) : RowE (w.drewN n) g cap l := h
theorem RowE.drew1 {w : World} {g cap : Nat} {l : List El} (h : RowE w g cap l) : RowE w.drew g cap l := h
theorem gb_drewN {w w1 : World} {pb : Option Nat} (h : w.grownBy w1 pb) (n : Nat) : w.grownBy (w1.drewN n) pb := ⟨h.os, h.tape, h.output, h.size, h.block⟩
theorem gb_drew1 {w w1 : World} {pb : Option Nat} (h : w.grownBy w1 pb) : w.grownBy w1.drew pb := ⟨h.os, h.tape, h.output, h.size, h.block⟩
theorem gb_setE {w w1 : World} {pb : Nat} (h : w.grownBy w1 (some pb)) (j : Nat) (v : Value) : w.grownBy (w1.setCell ⟨pb, j, none⟩ v) (some pb) :=
  ⟨h.os, h.tape, h.output, by have := h.size; simpa [World.setCell] using this, fun k hk hne => (Below.heap_setCell _ _ _ _ (fun e => hne (by simp [e]))).trans (h.block k hk hne)⟩
theorem gb_swap {w : World} {g : Nat} (v0 v1 v2 v3 : Value) (p0 p1 p2 p3 : Nat) : w.grownBy ((((w.setCell ⟨g, p0, none⟩ v0).setCell ⟨g, p1, none⟩ v1).setCell ⟨g, p2, none⟩ v2).setCell ⟨g, p3, none⟩ v3) (some g) :=
  gb_setE (gb_setE (gb_setE (gb_setE (gb_refl w (some g)) p0 v0) p1 v1) p2 v2) p3 v3

end Go.Proofs.Ytnjcelilljniaaa
