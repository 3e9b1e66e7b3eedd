/-
  strandlineref13.In; theirs; strandlineref14.Same.
-/
import Derived.Test.YtilkcojfencggaaAOwn
import Derived.Maps.AppendAt
import Derived.Deep.QuietTactic
import Derived.Laws.StructEq
set_option linter.unusedSimpArgs false
set_option linter.unusedVariables false
namespace Go.Proofs.Ytilkcojfencggaa
open Go.RowKit

set_option maxRecDepth 100000 in
theorem refin_any (x y f t : Int) (w : World) :
    Calls Try.prog 19 #[.agg #[.int .i64 x, .int .i64 y], .agg #[.int .i64 f, .int .i64 t]] w fun e w' => e = .returned (.bool (decide (f ≤ x) && decide (x < t))) ∧ Below w.heap.size w w' := by
  go_enter Try.func19, Try.ntmps19
  by_cases h1 : f ≤ x
  · have h1' : decide (f ≤ x) = true := by simp [h1]
    by_cases h2 : x < t
    · have h2' : decide (x < t) = true := by simp [h2]
      go_wp2_with fail
      go_ret
      exact ⟨by simp [h1', h2'], ((Below.refl _ _).alloc (Nat.le_refl _) _).alloc (by simp) _⟩
    · have h2' : decide (x < t) = false := by simp [h2]
      go_wp2_with fail
      go_ret
      exact ⟨by simp [h1', h2'], ((Below.refl _ _).alloc (Nat.le_refl _) _).alloc (by simp) _⟩
  · have h1' : decide (f ≤ x) = false := by simp [h1]
    go_wp2_with fail
    go_ret
    exact ⟨by simp [h1'], ((Below.refl _ _).alloc (Nat.le_refl _) _).alloc (by simp) _⟩

theorem keepR {b c o1 o2 o3 o4 : Nat} {c1 c2 c3 c4 : Value} {w w' : World} (h : w.cell? ⟨b, o1, none⟩ = some c1 ∧ w.cell? ⟨b, o2, none⟩ = some c2 ∧ w.cell? ⟨c, o3, none⟩ = some c3 ∧ w.cell? ⟨c, o4, none⟩ = some c4) (hb : Below w.heap.size w w') :
    w'.cell? ⟨b, o1, none⟩ = some c1 ∧ w'.cell? ⟨b, o2, none⟩ = some c2 ∧ w'.cell? ⟨c, o3, none⟩ = some c3 ∧ w'.cell? ⟨c, o4, none⟩ = some c4 := by
  have hlt : b < w.heap.size := World.block_lt_of_cell? w _ h.1
  have hlc : c < w.heap.size := World.block_lt_of_cell? w _ h.2.2.1
  exact ⟨(hb.cell (p := ⟨b, o1, none⟩) hlt).trans h.1, (hb.cell (p := ⟨b, o2, none⟩) hlt).trans h.2.1, (hb.cell (p := ⟨c, o3, none⟩) hlc).trans h.2.2.1, (hb.cell (p := ⟨c, o4, none⟩) hlc).trans h.2.2.2⟩
def RBx (w : World) (b : Nat) (f t : Int) : Prop := w.heap[b]? = some (.cells #[.int .i64 f, .int .i64 t] 24 (0, 0))
theorem RBx.cells {w : World} {b : Nat} {f t : Int} (h : RBx w b f t) : w.cell? ⟨b, 0, none⟩ = some (.int .i64 f) ∧ w.cell? ⟨b, 1, none⟩ = some (.int .i64 t) := by
  refine ⟨?_, ?_⟩ <;> rw [cell_of_row w b _ _ _ _ h] <;> rfl
theorem RBx.below {w w' : World} {b : Nat} {f t : Int} (h : RBx w b f t) (hb : Below w.heap.size w w') : RBx w' b f t :=
  (hb.block b (Array.getElem?_eq_some_iff.1 h).1).trans h
theorem RBx.below' {w w' : World} {b n : Nat} {f t : Int} (h : RBx w b f t) (hb : Below n w w') (hn : b < n) : RBx w' b f t := (hb.block b hn).trans h
theorem app_sz {n : Nat} {w : World} {o : Obj} (h : n ≤ w.heap.size) : n ≤ (w.alloc o).heap.size := by simp; omega
theorem filt_snoc {l : List Smp} {p : Smp → Bool} {k : Nat} (h : k < l.length) : (l.take (k + 1)).filter p = (l.take k).filter p ++ (if p (l.getD k (0, 0)) then [l.getD k (0, 0)] else []) := by
  rw [getD_take_snoc h, List.filter_append]
  congr 1
  cases e : p (l.getD k (0, 0)) <;> simp only [List.filter, e] <;> rfl

set_option maxRecDepth 100000 in
set_option maxHeartbeats 1000000 in
attribute [local go_sem ↓] Go.wp_at_zero Go.wp_at_succ in
theorem refIn_any (v : Value) (ls : List Smp) (f t : Int) (w : World) (hv : Samples w v ls) (hl : ls.length ≤ 1000000) :
    Calls Try.prog 14 #[v, .agg #[.int .i64 f, .int .i64 t]] w fun e w' => ∃ u, e = .returned u ∧ Samples w' u (ls.filter (inB f t)) ∧ Below w.heap.size w w' := by
  have HV := Lib.hid hv
  obtain ⟨a, cap, rfl, h1, h2, -⟩ := hv
  have HX := Lib.hid (show RBx (w.alloc (.cells #[.int .i64 f, .int .i64 t] 24)) w.heap.size f t from heap_alloc_new ..)
  have HO := Lib.hid (OwnR.fresh (α := Smp) (t := 37) (k := 2) (enc := encS) (w.alloc (.cells #[.int .i64 f, .int .i64 t] 24)) (base := w.heap.size + 1) (by simp))
  have HX2 := Lib.hid (HX.out.below ((Below.refl _ _).alloc (Nat.le_refl _) (.cells #[] 37)))
  have HB2 := Lib.hid (show Below w.heap.size w ((w.alloc (.cells #[.int .i64 f, .int .i64 t] 24)).alloc (.cells #[] 37)) from ((Below.refl _ _).alloc (Nat.le_refl _) _).alloc (by simp) _)
  rw [World.size_alloc] at HO
  go_enter Try.func14, Try.ntmps14
  go_wp2_with fail
  go_loopw [6, 5] (fun i p wr => ∃ k : Nat, k ≤ ls.length ∧ i = .int .i64 k ∧ OwnR 37 2 encS wr (w.heap.size + 1) p ((ls.take k).filter (inB f t)) ∧ RBx wr w.heap.size f t ∧ Below w.heap.size w wr)
    (fun i p wr => ls.length - (intOf i).toNat)
  case atStart => exact ⟨0, Nat.zero_le _, rfl, HO.out, HX2.out, HB2.out⟩
  case round =>
    obtain ⟨k, hk, rfl, ho0, hx0, hb0⟩ := hrel
    have HO1 := Lib.hid ho0
    have HX1 := Lib.hid hx0
    have HB1 := Lib.hid hb0
    clear ho0 hx0 hb0 HO HX HX2 HB2
    by_cases hlt : k < ls.length
    · obtain ⟨b, off, rfl, hb, hc1, hc2⟩ := (HV.out.below HB1.out).at_ hlt
      have HF := Lib.hid (filt_snoc (p := inB f t) hlt)
      have hlen : ((ls.take k).filter (inB f t)).length ≤ ls.length := Nat.le_trans (List.length_filter_le _ _) (by simp; omega)
      generalize ls.getD k (0, 0) = x at *
      obtain ⟨x1, x2⟩ := x
      have hin : inB f t (x1, x2) = (decide (f ≤ x1) && decide (x1 < t)) := rfl
      have HC := Lib.hid (fun w => refin_any x1 x2 f t w)
      rw [hin] at HF
      clear hin
      generalize hbb : (decide (f ≤ x1) && decide (x1 < t)) = bb at *
      clear hbb
      obtain ⟨g0, g1⟩ := HX1.out.cells
      go_wp2_with fail
      go_region_held3 (fun w' => w'.cell? ⟨b, off + k * 2, none⟩ = some (.int .i64 x1) ∧ w'.cell? ⟨b, off + k * 2 + 1, none⟩ = some (.int .i64 x2) ∧ w'.cell? ⟨w.heap.size, 0, none⟩ = some (.int .i64 f) ∧ w'.cell? ⟨w.heap.size, 1, none⟩ = some (.int .i64 t))
        (first | exact keepR (by assumption) hb1 | go_keep)
        (first | (go_at_call 19; refine (HC.out _).mono ?_; rintro e w2 ⟨rfl, hb1⟩))
      have hd1 := below_dr hb1
      have HO2 := Lib.hid (HO1.out.below hd1)
      have HX2 := Lib.hid (HX1.out.below hd1)
      have HB2 := Lib.hid (HB1.out.trans (hd1.mono HB1.out.size))
      have HSZ := Lib.hid (show w.heap.size + 1 ≤ w2.heap.size from by
        have := (Array.getElem?_eq_some_iff.1 HX2.out).1
        omega)
      clear hb1 hd1
      cases bb with
      | false =>
        go_wp2_with fail
        go_roundw
        case rel => exact ⟨k + 1, by omega, by go_num, by rw [HF.out]; simpa using HO2.out, HX2.out, HB2.out⟩
        case measure => simp [intOf]; omega
      | true =>
        go_wp2_with (at_builtin; refine app_smp _ rfl (.tmp 20) (.tmp 25) rfl (w.heap.size + 1) _ _ (x1, x2) _ rfl rfl (heap_alloc_new ..) (HO2.out.below ((Below.refl _ _).alloc (Nat.le_refl _) _)) (app_sz HSZ.out) (by omega) ?_; intro g' cap' w4 hown4 hb4)
        exact ⟨⟨k + 1, by omega, by go_num, by rw [HF.out, if_pos rfl]; exact hown4, (HX2.out.below ((Below.refl _ _).alloc (Nat.le_refl _) _)).below' hb4 (by omega), (HB2.out.alloc HB2.out.size _).trans (hb4.mono (by omega))⟩, by simp [intOf]; omega⟩
    · have hke : k = ls.length := by omega
      have HE : ls.take k = ls := by rw [hke]; exact List.take_of_length_le (Nat.le_refl _)
      rw [HE] at HO1
      go_wp2_with fail
      go_ret
      exact ⟨_, rfl, HO1.out.samples, HB1.out⟩

theorem wins_take {ws : List Win} {k : Nat} (h : k < ws.length) : ws.take (k + 1) = ws.take k ++ [ws.getD k w0] := by
  rw [List.take_add_one, List.getElem?_eq_getElem h]; simp [List.getD, List.getElem?_eq_getElem h]

set_option maxRecDepth 100000 in
set_option maxHeartbeats 1000000 in
theorem theirs_any (v : Value) (ws : List Win) (w : World) (hv : Wins w v ws) (hl : ws.length ≤ 1000000) :
    Calls Try.prog 10 #[v] w fun e w' => ∃ u, e = .returned u ∧ Wins w' u ws ∧ Below w.heap.size w w' := by
  have HV := Lib.hid hv
  obtain ⟨a, cap, rfl, h1, h2, -⟩ := hv
  have HO := Lib.hid (OwnR.fresh (α := Win) (t := 33) (k := 5) (enc := encW) w (base := w.heap.size) (Nat.le_refl _))
  go_enter Try.func10, Try.ntmps10
  go_wp2_with fail
  go_loopw [4, 3] (fun i p wr => ∃ k : Nat, k ≤ ws.length ∧ i = .int .i64 k ∧ OwnR 33 5 encW wr w.heap.size p (ws.take k) ∧ Below w.heap.size w wr)
    (fun i p wr => ws.length - (intOf i).toNat)
  case atStart => exact ⟨0, Nat.zero_le _, rfl, HO.out, (Below.refl _ _).alloc (Nat.le_refl _) _⟩
  case round =>
    obtain ⟨k, hk, rfl, ho0, hb0⟩ := hrel
    have HO1 := Lib.hid ho0
    have HB1 := Lib.hid hb0
    clear ho0 hb0 HO
    by_cases hlt : k < ws.length
    · obtain ⟨b, off, rfl, hb, hc1, hc2, hc3, hc4, hc5⟩ := (HV.out.below HB1.out).at_ hlt
      have HF := Lib.hid (wins_take hlt)
      have hlen : (ws.take k).length ≤ ws.length := by simp; omega
      generalize ws.getD k w0 = x at *
      obtain ⟨x1, x2, x3, x4, x5⟩ := x
      have HSZ := Lib.hid HB1.out.size
      go_wp2_with (at_builtin; refine app_rwin _ rfl (.tmp 12) (.tmp 17) rfl w.heap.size _ _ ⟨x1, x2, x3, x4, x5⟩ _ rfl rfl (heap_alloc_new ..) (HO1.out.below ((Below.refl _ _).alloc (Nat.le_refl _) _)) (app_sz HSZ.out) (by omega) ?_; intro g' cap' w4 hown4 hb4)
      exact ⟨⟨k + 1, by omega, by go_num, by rw [HF.out]; have hlk : (ws.take k).length = k := by (simp; omega)
                                             rw [hlk] at hown4; exact hown4, (HB1.out.alloc HB1.out.size _).trans hb4⟩, by simp [intOf]; omega⟩
    · have hke : k = ws.length := by omega
      have HE : ws.take k = ws := by rw [hke]; exact List.take_of_length_le (Nat.le_refl _)
      rw [HE] at HO1
      go_wp2_with fail
      go_ret
      exact ⟨_, rfl, HO1.out.wins, HB1.out⟩

theorem eq_win (x1 x2 x3 x4 x5 : Int) (w : World) : (Op.equalIn 10000 33 (.agg #[.int .i64 x1, .int .i64 x2, .int .i64 x3, .int .i64 x4, .int .i64 x5]) (.agg #[.int .i64 x1, .int .i64 x2, .int .i64 x3, .int .i64 x4, .int .i64 x5])).run Try.prog w = .ok true w := by
  have u3 := Try.underlying3
  have a3 := Try.isAgg3
  have z3 := Try.sizeOf3
  have hS : Try.prog.underlying 33 = some (.struct (Try.prog.fieldsOf 33)) := by kernel_rfl
  have hp : Try.prog.stoodInHeld 33 = false := by kernel_rfl
  rw [show (10000 : Nat) = 9999 + 1 from rfl, run_equalIn_agg w 9999 33 _ _ hS hp]
  simp only [Program.fieldsOf, Try.underlying33]
  go_simp
theorem neq_win (x1 x2 x3 x4 x5 : Int) (w : World) : (binOp .neq 33 (.agg #[.int .i64 x1, .int .i64 x2, .int .i64 x3, .int .i64 x4, .int .i64 x5]) (.agg #[.int .i64 x1, .int .i64 x2, .int .i64 x3, .int .i64 x4, .int .i64 x5])).run Try.prog w = .ok (.bool false) w := by
  rw [run_neq_struct, eq_win]; rfl

set_option maxRecDepth 100000 in
set_option maxHeartbeats 1000000 in
theorem same_any (v u : Value) (ws : List Win) (w : World) (hv : Wins w v ws) (hu : Wins w u ws) :
    Calls Try.prog 9 #[v, u] w fun e w' => e = .returned (.bool true) ∧ Below w.heap.size w w' := by
  have HV := Lib.hid hv
  have HU := Lib.hid hu
  obtain ⟨a, cap, rfl, h1, h2, -⟩ := hv
  obtain ⟨a', cap', rfl, h1', h2', -⟩ := hu
  go_enter Try.func9, Try.ntmps9
  go_wp2_with fail
  go_loopw [5] (fun i wr => ∃ k : Nat, k ≤ ws.length ∧ i = .int .i64 k ∧ Below w.heap.size w wr)
    (fun i wr => ws.length - (intOf i).toNat)
  case atStart => exact ⟨0, Nat.zero_le _, rfl, Below.refl _ _⟩
  case round =>
    obtain ⟨k, hk, rfl, hb0⟩ := hrel
    have HB1 := Lib.hid hb0
    clear hb0
    by_cases hlt : k < ws.length
    · obtain ⟨b, off, rfl, hb, hc1, hc2, hc3, hc4, hc5⟩ := (HV.out.below HB1.out).at_ hlt
      obtain ⟨b', off', rfl, hb', hd1, hd2, hd3, hd4, hd5⟩ := (HU.out.below HB1.out).at_ hlt
      generalize ws.getD k w0 = x at *
      obtain ⟨x1, x2, x3, x4, x5⟩ := x
      have hn := neq_win x1 x2 x3 x4 x5
      have he := eq_win x1 x2 x3 x4 x5
      have hj0 : (0 : Int) ≤ (k : Int) := by omega
      have hj1 : (k : Int) < (ws.length : Int) := by omega
      go_wp2_with fail
      go_quiet (fail)
      go_wp2_with fail
      exact ⟨⟨k + 1, by omega, by go_num, belowN HB1.out _⟩, by simp [intOf]; omega⟩
    · go_wp2_with fail
      go_ret
      exact ⟨rfl, HB1.out⟩

end Go.Proofs.Ytilkcojfencggaa
