/-
  agg.Total.
-/
import Derived.Test.YtilkcojfencggaaAPlain
import Derived.Deep.DrawnRows
set_option linter.unusedSimpArgs false
set_option linter.unusedVariables false
namespace Go.Proofs.Ytilkcojfencggaa
open Go.RowKit

theorem getD_take_snoc {l : List Smp} {k : Nat} (h : k < l.length) : l.take (k + 1) = l.take k ++ [l.getD k (0, 0)] := by
  rw [List.take_add_one, List.getElem?_eq_getElem h]; simp [List.getD, List.getElem?_eq_getElem h]

/-- A box of a window. -/
def WBox (w : World) (b : Nat) (x : Win) : Prop := w.heap[b]? = some (.cells #[.int .i64 x.f, .int .i64 x.c, .int .i64 x.s, .int .i64 x.mn, .int .i64 x.mx] 34 (0, 0))

theorem WBox.cells {w : World} {b : Nat} {x : Win} (h : WBox w b x) : w.cell? ⟨b, 0, none⟩ = some (.int .i64 x.f) ∧ w.cell? ⟨b, 1, none⟩ = some (.int .i64 x.c) ∧ w.cell? ⟨b, 2, none⟩ = some (.int .i64 x.s) ∧ w.cell? ⟨b, 3, none⟩ = some (.int .i64 x.mn) ∧ w.cell? ⟨b, 4, none⟩ = some (.int .i64 x.mx) := by
  refine ⟨?_, ?_, ?_, ?_, ?_⟩ <;> rw [cell_of_row w b _ _ _ _ h] <;> rfl
theorem WBox.below {w w' : World} {b : Nat} {x : Win} (h : WBox w b x) (hb : Below w.heap.size w w') : WBox w' b x :=
  (hb.block b (Array.getElem?_eq_some_iff.1 h).1).trans h

theorem WBox.frozen {w : World} {b : Nat} {x : Win} (h : WBox w b x) : w.frozen? ⟨b, 0, none⟩ = false ∧ w.frozen? ⟨b, 1, none⟩ = false ∧ w.frozen? ⟨b, 2, none⟩ = false ∧ w.frozen? ⟨b, 3, none⟩ = false ∧ w.frozen? ⟨b, 4, none⟩ = false := by
  unfold WBox at h
  refine ⟨?_, ?_, ?_, ?_, ?_⟩ <;> simp [World.frozen?, h]
theorem below_any {w w' : World} {o : Obj} {n : Nat} (h : Below ((w.alloc o).drewN n).heap.size ((w.alloc o).drewN n) w') : Below w.heap.size w w' :=
  ((Below.refl _ _).alloc (Nat.le_refl _) _).trans (Below.trans (b := (w.alloc o).drewN n) ⟨rfl, rfl, rfl, Nat.le_refl _, fun _ _ => rfl⟩ (h.mono (by show w.heap.size ≤ (w.alloc o).heap.size; simp)))
theorem heap_set {w : World} {b j : Nat} {v : Value} {cs : Array Value} {t : TypeId} (h : w.heap[b]? = some (.cells cs t (0, 0))) : (w.setCell ⟨b, j, none⟩ v).heap[b]? = some (.cells (cs.setIfInBounds j v) t (0, 0)) := by
  obtain ⟨hlt, hk⟩ := Array.getElem?_eq_some_iff.1 h
  show (w.heap.modify b _)[b]? = _
  rw [Array.getElem?_eq_getElem (by rw [Array.size_modify]; exact hlt), Array.getElem_modify_self, hk]
  rfl
theorem WBox.set5 {w : World} {b : Nat} {x : Win} (h : WBox w b x) (a1 a2 a3 a4 a5 a6 : Int) :
    WBox ((((((w.setCell ⟨b, 0, none⟩ (.int .i64 a1)).setCell ⟨b, 1, none⟩ (.int .i64 a2)).setCell ⟨b, 2, none⟩ (.int .i64 a3)).setCell ⟨b, 3, none⟩ (.int .i64 a4)).setCell ⟨b, 4, none⟩ (.int .i64 a5)).setCell ⟨b, 0, none⟩ (.int .i64 a6)) b ⟨a6, a2, a3, a4, a5⟩ := by
  unfold WBox
  rw [heap_set (heap_set (heap_set (heap_set (heap_set (heap_set h)))))]
  rfl
theorem WBox.put {w : World} {b : Nat} {x : Win} (h : WBox w b x) (y : Win) :
    WBox (((((w.setCell ⟨b, 0, none⟩ (.int .i64 y.f)).setCell ⟨b, 1, none⟩ (.int .i64 y.c)).setCell ⟨b, 2, none⟩ (.int .i64 y.s)).setCell ⟨b, 3, none⟩ (.int .i64 y.mn)).setCell ⟨b, 4, none⟩ (.int .i64 y.mx)) b y := by
  unfold WBox
  rw [heap_set (heap_set (heap_set (heap_set (heap_set h))))]
  rfl
theorem below_put {w w' : World} (h : Below w.heap.size w w') {b : Nat} (hle : w.heap.size ≤ b) (v0 v1 v2 v3 v4 : Value) :
    Below w.heap.size w (((((w'.setCell ⟨b, 0, none⟩ v0).setCell ⟨b, 1, none⟩ v1).setCell ⟨b, 2, none⟩ v2).setCell ⟨b, 3, none⟩ v3).setCell ⟨b, 4, none⟩ v4) :=
  ((((h.setCell (p := ⟨_, 0, none⟩) hle _).setCell (p := ⟨_, 1, none⟩) hle _).setCell (p := ⟨_, 2, none⟩) hle _).setCell (p := ⟨_, 3, none⟩) hle _).setCell (p := ⟨_, 4, none⟩) hle _
theorem heap_other {w : World} {b c j : Nat} {v : Value} (hne : c ≠ b) : (w.setCell ⟨b, j, none⟩ v).heap[c]? = w.heap[c]? := Below.heap_setCell _ _ _ c hne
theorem WBox.other {w : World} {b c j : Nat} {x : Win} {v : Value} (h : WBox w c x) (hne : c ≠ b) : WBox (w.setCell ⟨b, j, none⟩ v) c x := by
  unfold WBox; rw [heap_other hne]; exact h
theorem tot_step {w w2 : World} {x : Win} (hB : Below w.heap.size w w2) (h1 : WBox w2 w.heap.size w0) (h2 : WBox w2 (w.heap.size + 1) x) (a1 a2 a3 a4 a5 a6 : Int) {W : World}
    (hW : W = ((((((w2.setCell ⟨w.heap.size + 1, 0, none⟩ (.int .i64 a1)).setCell ⟨w.heap.size + 1, 1, none⟩ (.int .i64 a2)).setCell ⟨w.heap.size + 1, 2, none⟩ (.int .i64 a3)).setCell ⟨w.heap.size + 1, 3, none⟩ (.int .i64 a4)).setCell ⟨w.heap.size + 1, 4, none⟩ (.int .i64 a5)).setCell ⟨w.heap.size + 1, 0, none⟩ (.int .i64 a6))) :
    WBox W w.heap.size w0 ∧ WBox W (w.heap.size + 1) ⟨a6, a2, a3, a4, a5⟩ ∧ Below w.heap.size w W := by
  subst hW
  have hne : w.heap.size ≠ w.heap.size + 1 := by omega
  have hle : w.heap.size ≤ w.heap.size + 1 := by omega
  exact ⟨(((((h1.other hne).other hne).other hne).other hne).other hne).other hne, h2.set5 ..,
    (((((hB.setCell (p := ⟨_, 0, none⟩) hle _).setCell (p := ⟨_, 1, none⟩) hle _).setCell (p := ⟨_, 2, none⟩) hle _).setCell (p := ⟨_, 3, none⟩) hle _).setCell (p := ⟨_, 4, none⟩) hle _).setCell (p := ⟨_, 0, none⟩) hle _⟩

set_option maxRecDepth 100000 in
set_option maxHeartbeats 1000000 in
attribute [local go_sem ↓] Go.wp_at_zero Go.wp_at_succ in
theorem total_any (v : Value) (ls : List Smp) (w : World) (hv : Samples w v ls) (hf : WfS ls) (hl : ls.length ≤ 1000000) :
    Calls Try.prog 8 #[v] w fun e w' => e = .returned (winV (totL ls)) ∧ Below w.heap.size w w' := by
  have HV := Lib.hid hv
  have HF := Lib.hid hf
  obtain ⟨a, cap, rfl, h1, h2, -⟩ := hv
  go_enter Try.func8, Try.ntmps8
  go_wp2_with fail
  go_loopw [9, 5, 6] (fun i p q wr => ∃ k : Nat, k ≤ ls.length ∧ i = .int .i64 k ∧ WBox wr w.heap.size w0 ∧ WBox wr (w.heap.size + 1) (totL (ls.take k)) ∧ Below w.heap.size w wr)
    (fun i p q wr => ls.length - (intOf i).toNat)
  case atStart => exact ⟨0, Nat.zero_le _, rfl, ((Below.refl _ _).alloc (Nat.le_refl _) _ : Below (w.alloc _).heap.size (w.alloc _) _).block _ (by simp) |>.trans (heap_alloc_new ..), by have := heap_alloc_new (w.alloc (.cells #[.int .i64 0, .int .i64 0, .int .i64 0, .int .i64 0, .int .i64 0] 34)) (.cells #[.int .i64 0, .int .i64 0, .int .i64 0, .int .i64 0, .int .i64 0] 34); rw [World.size_alloc] at this; exact this, ((Below.refl _ _).alloc (Nat.le_refl _) _).alloc (by simp) _⟩
  case round =>
    obtain ⟨k, hk, rfl, hb1, hb2, hB⟩ := hrel
    have HB1 := Lib.hid hb1
    have HB2 := Lib.hid hb2
    have HB := Lib.hid hB
    clear hb1 hb2 hB
    by_cases hlt : k < ls.length
    · obtain ⟨b, off, rfl, hb, hc1, hc2⟩ := (HV.out.below HB.out).at_ hlt
      have HT := Lib.hid (tot_snoc (ls.take k) (ls.getD k (0, 0)) (by rw [← getD_take_snoc hlt]; exact fun y hy => HF.out y (List.mem_of_mem_take hy)) (by simp; omega))
      rw [← getD_take_snoc hlt] at HT
      generalize hx : ls.getD k (0, 0) = x at *
      clear hx
      obtain ⟨t, u⟩ := x
      generalize totL (ls.take k) = y at *
      obtain ⟨y1, y2, y3, y4, y5⟩ := y
      obtain ⟨g0, g1, g2, g3, g4⟩ := HB2.out.cells
      have hs1 : w.heap.size + 1 < wr.heap.size := (Array.getElem?_eq_some_iff.1 HB2.out).1
      obtain ⟨z, hz⟩ : ∃ z, joinW ⟨y1, y2, y3, y4, y5⟩ (ofW (t, u)) = z := ⟨_, rfl⟩
      have HJ := Lib.hid (fun w => join_any ⟨y1, y2, y3, y4, y5⟩ (ofW (t, u)) w)
      rw [hz] at HT HJ
      clear hz
      obtain ⟨j1, j2, j3, j4, j5⟩ := z
      simp only [winV, ofW] at HJ
      have HB3 := Lib.hid (fun w' (hb : Below wr.heap.size wr w') => (HB2.out.below hb).cells)
      have HB4 := Lib.hid (fun w' (hb : Below wr.heap.size wr w') => (HB2.out.below hb).frozen)
      by_cases hy2 : y2 = 0
      · have hy2' : (y2 == 0) = true := by simp [hy2]
        rw [if_pos hy2] at HT
        subst hy2
        clear hy2'
        go_wp2_with fail
        go_region_with (first
          | (go_at_call 18; refine (of_any t u _).mono ?_; rintro e w1 ⟨rfl, hd1⟩; have hd1' := below_any hd1; obtain ⟨g0, g1, g2, g3, g4⟩ := HB3.out _ hd1')
          | (go_at_call 12; refine (HJ.out _).mono ?_; rintro e w2 ⟨rfl, hd2⟩; have hd2' := hd1'.trans (hd2.mono hd1'.size); obtain ⟨g0, g1, g2, g3, g4⟩ := HB3.out _ hd2'; obtain ⟨q0, q1, q2, q3, q4⟩ := HB4.out _ hd2'))
        all_goals
          (have HTS := Lib.hid (fun a1 a2 a3 a4 a5 a6 W => @tot_step w w2 _ (HB.out.trans (hd2'.mono HB.out.size)) (HB1.out.below hd2') (HB2.out.below hd2') a1 a2 a3 a4 a5 a6 W)
           go_wp2_with fail
           go_roundw
           case rel =>
             obtain ⟨q1, q2, q3⟩ := HTS.out _ _ _ _ _ _ _ rfl
             exact ⟨k + 1, by omega, by go_num, q1, by rw [HT.out]; exact q2, q3⟩
           case measure => simp [intOf]; omega)
      · have hy2' : (y2 == 0) = false := by simp [hy2]
        rw [if_neg hy2] at HT
        go_wp2_with fail
        go_region_with (first
          | (go_at_call 18; refine (of_any t u _).mono ?_; rintro e w1 ⟨rfl, hd1⟩; have hd1' := below_any hd1; obtain ⟨g0, g1, g2, g3, g4⟩ := HB3.out _ hd1')
          | (go_at_call 12; refine (HJ.out _).mono ?_; rintro e w2 ⟨rfl, hd2⟩; have hd2' := hd1'.trans (hd2.mono hd1'.size); obtain ⟨g0, g1, g2, g3, g4⟩ := HB3.out _ hd2'; obtain ⟨q0, q1, q2, q3, q4⟩ := HB4.out _ hd2'))
        all_goals
          (have HTS := Lib.hid (fun a1 a2 a3 a4 a5 a6 W => @tot_step w w2 _ (HB.out.trans (hd2'.mono HB.out.size)) (HB1.out.below hd2') (HB2.out.below hd2') a1 a2 a3 a4 a5 a6 W)
           go_wp2_with fail
           go_roundw
           case rel =>
             obtain ⟨q1, q2, q3⟩ := HTS.out _ _ _ _ _ _ _ rfl
             exact ⟨k + 1, by omega, by go_num, q1, by rw [HT.out]; exact q2, q3⟩
           case measure => simp [intOf]; omega)
    · have hke : k = ls.length := by omega
      have HT : totL (ls.take k) = totL ls := by rw [hke, List.take_of_length_le (Nat.le_refl _)]
      rw [HT] at HB2
      obtain ⟨g0, g1, g2, g3, g4⟩ := HB2.out.cells
      obtain ⟨r0, r1, r2, r3, r4⟩ := HB1.out.cells
      obtain ⟨q0, q1, q2, q3, q4⟩ := HB1.out.frozen
      go_wp2_with fail
      refine bodyPost_ret (ret_win rfl _ _ w.heap.size _ _ _ _ _ rfl (HB1.out.put (totL ls))) rfl ?_
      exact ⟨rfl, below_put HB.out (Nat.le_refl _) ..⟩

end Go.Proofs.Ytilkcojfencggaa
