/-
  match.Check: may a matcher be?
-/
import Derived.Test.YtamdkmcdleilpaaRise
namespace Go.Proofs.Ytamdkmcdleilpaa
open Go.RowKit

def okM (k : Int) (n x : Bytes) (ss : List Bytes) : Bool :=
  nameB n && ((decide (0 ≤ k) && decide (k < 3) && valueB x && decide (ss.length = 0)) || (decide (k = 3) && (x == []) && decide (0 < ss.length) && decide (ss.length ≤ 8) && riseF true [] ss))
def errM (b : Bool) : Int := if b then 50 - 50 else 50
theorem okM_3 (n x : Bytes) (ss : List Bytes) : okM 3 n x ss = (nameB n && ((x == []) && decide (0 < ss.length) && decide (ss.length ≤ 8) && riseF true [] ss)) := by
  unfold okM; simp
theorem okM_lo {k : Int} (h : k = 0 ∨ k = 1 ∨ k = 2) (n x : Bytes) (ss : List Bytes) : okM k n x ss = (nameB n && (valueB x && decide (ss.length = 0))) := by
  unfold okM; rcases h with rfl | rfl | rfl <;> simp
theorem okM_bad {k : Int} (h : k < 0 ∨ 3 < k) (n x : Bytes) (ss : List Bytes) : okM k n x ss = false := by
  unfold okM
  rcases h with h | h
  · rw [decide_eq_false (show ¬ 0 ≤ k by omega), decide_eq_false (show ¬ k = 3 by omega)]; simp
  · rw [decide_eq_false (show ¬ k < 3 by omega), decide_eq_false (show ¬ k = 3 by omega)]; simp

set_option maxRecDepth 100000 in
set_option maxHeartbeats 2000000 in
theorem mcheck_3 (n x : Bytes) (u : Value) (ss : List Bytes) (w : World) (hu : Strs w u ss) :
    Calls Try.prog 29 #[.agg #[.int .i64 3, .string (bs n), .string (bs x), u]] w fun e w' => e = .returned (.int .i64 (errM (okM 3 n x ss))) ∧ Below w.heap.size w w' := by
  have HU := Lib.hid ((St.start w).add (fun w' => Strs w' u ss) (fun w' hb => hu.below hb))
  obtain ⟨ua, uc, rfl, hu1, hu2, -⟩ := hu
  have HX : Hid (St w (w.alloc (.cells #[.int .i64 3, .string (bs n), .string (bs x), .slice ua ss.length uc] 27)) [fun w' => w'.cell? ⟨w.heap.size, 0, none⟩ = some (.int .i64 3) ∧ w'.cell? ⟨w.heap.size, 1, none⟩ = some (.string (bs n)) ∧ w'.cell? ⟨w.heap.size, 2, none⟩ = some (.string (bs x)) ∧ w'.cell? ⟨w.heap.size, 3, none⟩ = some (.slice ua ss.length uc), fun w' => Strs w' (.slice ua ss.length uc) ss]) :=
    Lib.hid ((HU.out.alloc _).add _ (fun w' hb' => keep4 (by refine ⟨?_, ?_, ?_, ?_⟩ <;> (rw [World.cell?_alloc_at _ _ _ _ rfl]; rfl)) hb'))

  cases e1 : nameB n with
  | false =>
    have HE := Lib.hid (show okM 3 n x ss = false by rw [okM_3, e1]; simp)
    have HN := Lib.hid e1
    clear e1
    go_enter Try.func29, Try.ntmps29
    go_wp2_with fail
    refine (is_b0 (name_any n _) HN.out).mono ?_
    rintro e w1 ⟨rfl, hd⟩
    have HX1 := Lib.hid (HX.out.step hd)
    clear hd
    obtain ⟨q0, q1, q2, q3⟩ := HX1.out.get 0 rfl
    go_wp2_with fail
    go_ret
    exact ⟨by rw [HE.out]; rfl, HX1.out.bel⟩
  | true =>
    cases e4 : (x == ([] : Bytes)) with
    | false =>
      have e4b := nil_beq e4
      have HE := Lib.hid (show okM 3 n x ss = false by rw [okM_3, e1, e4]; simp)
      have HN := Lib.hid e1
      clear e1
      go_enter Try.func29, Try.ntmps29
      go_wp2_with fail
      refine (is_b0 (name_any n _) HN.out).mono ?_
      rintro e w1 ⟨rfl, hd⟩
      have HX1 := Lib.hid (HX.out.step hd)
      clear hd
      obtain ⟨q0, q1, q2, q3⟩ := HX1.out.get 0 rfl
      go_wp2_with fail
      go_ret
      exact ⟨by rw [HE.out]; rfl, HX1.out.bel⟩
    | true =>
      have e4b := nil_beq e4
      by_cases hl1 : 0 < ss.length
      · by_cases hl2 : ss.length ≤ 8
        · cases e5 : riseF true [] ss with
          | false =>
            have HE := Lib.hid (show okM 3 n x ss = false by rw [okM_3, e1, e4, e5]; simp)
            have HR := Lib.hid e5
            clear e5
            have HN := Lib.hid e1
            clear e1
            go_enter Try.func29, Try.ntmps29
            go_wp2_with fail
            refine (is_b0 (name_any n _) HN.out).mono ?_
            rintro e w1 ⟨rfl, hd⟩
            have HX1 := Lib.hid (HX.out.step hd)
            clear hd
            obtain ⟨q0, q1, q2, q3⟩ := HX1.out.get 0 rfl
            go_wp2_with fail
            refine (is_b0 (rising_any _ ss _ (HX1.out.get 1 rfl)) HR.out).mono ?_
            rintro e w2 ⟨rfl, hd⟩
            have HX2 := Lib.hid (HX1.out.step hd)
            clear hd q0 q1 q2 q3
            obtain ⟨q0, q1, q2, q3⟩ := HX2.out.get 0 rfl
            go_wp2_with fail
            go_ret
            exact ⟨by rw [HE.out]; rfl, HX2.out.bel⟩
          | true =>
            have HE := Lib.hid (show okM 3 n x ss = true by rw [okM_3, e1, e4, e5, decide_eq_true hl1, decide_eq_true hl2]; rfl)
            have HR := Lib.hid e5
            clear e5
            have HN := Lib.hid e1
            clear e1
            go_enter Try.func29, Try.ntmps29
            go_wp2_with fail
            refine (is_b0 (name_any n _) HN.out).mono ?_
            rintro e w1 ⟨rfl, hd⟩
            have HX1 := Lib.hid (HX.out.step hd)
            clear hd
            obtain ⟨q0, q1, q2, q3⟩ := HX1.out.get 0 rfl
            go_wp2_with fail
            refine (is_b0 (rising_any _ ss _ (HX1.out.get 1 rfl)) HR.out).mono ?_
            rintro e w2 ⟨rfl, hd⟩
            have HX2 := Lib.hid (HX1.out.step hd)
            clear hd q0 q1 q2 q3
            obtain ⟨q0, q1, q2, q3⟩ := HX2.out.get 0 rfl
            go_wp2_with fail
            go_ret
            exact ⟨by rw [HE.out]; rfl, HX2.out.bel⟩
        · have HE := Lib.hid (show okM 3 n x ss = false by rw [okM_3, e1, e4, decide_eq_false hl2]; simp)
          have HN := Lib.hid e1
          clear e1
          go_enter Try.func29, Try.ntmps29
          go_wp2_with fail
          refine (is_b0 (name_any n _) HN.out).mono ?_
          rintro e w1 ⟨rfl, hd⟩
          have HX1 := Lib.hid (HX.out.step hd)
          clear hd
          obtain ⟨q0, q1, q2, q3⟩ := HX1.out.get 0 rfl
          go_wp2_with fail
          go_ret
          exact ⟨by rw [HE.out]; rfl, HX1.out.bel⟩
      · have HE := Lib.hid (show okM 3 n x ss = false by rw [okM_3, e1, e4, decide_eq_false hl1]; simp)
        have HN := Lib.hid e1
        clear e1
        go_enter Try.func29, Try.ntmps29
        go_wp2_with fail
        refine (is_b0 (name_any n _) HN.out).mono ?_
        rintro e w1 ⟨rfl, hd⟩
        have HX1 := Lib.hid (HX.out.step hd)
        clear hd
        obtain ⟨q0, q1, q2, q3⟩ := HX1.out.get 0 rfl
        go_wp2_with fail
        go_ret
        exact ⟨by rw [HE.out]; rfl, HX1.out.bel⟩

set_option maxRecDepth 100000 in
set_option maxHeartbeats 2000000 in
theorem mcheck_0 (n x : Bytes) (u : Value) (ss : List Bytes) (w : World) (hu : Strs w u ss) :
    Calls Try.prog 29 #[.agg #[.int .i64 0, .string (bs n), .string (bs x), u]] w fun e w' => e = .returned (.int .i64 (errM (okM 0 n x ss))) ∧ Below w.heap.size w w' := by
  have HU := Lib.hid ((St.start w).add (fun w' => Strs w' u ss) (fun w' hb => hu.below hb))
  obtain ⟨ua, uc, rfl, hu1, hu2, -⟩ := hu
  have HX : Hid (St w (w.alloc (.cells #[.int .i64 0, .string (bs n), .string (bs x), .slice ua ss.length uc] 27)) [fun w' => w'.cell? ⟨w.heap.size, 0, none⟩ = some (.int .i64 0) ∧ w'.cell? ⟨w.heap.size, 1, none⟩ = some (.string (bs n)) ∧ w'.cell? ⟨w.heap.size, 2, none⟩ = some (.string (bs x)) ∧ w'.cell? ⟨w.heap.size, 3, none⟩ = some (.slice ua ss.length uc), fun w' => Strs w' (.slice ua ss.length uc) ss]) :=
    Lib.hid ((HU.out.alloc _).add _ (fun w' hb' => keep4 (by refine ⟨?_, ?_, ?_, ?_⟩ <;> (rw [World.cell?_alloc_at _ _ _ _ rfl]; rfl)) hb'))

  cases e1 : nameB n with
  | false =>
    have HE := Lib.hid (show okM 0 n x ss = false by rw [okM_lo (by omega), e1]; simp)
    have HN := Lib.hid e1
    clear e1
    go_enter Try.func29, Try.ntmps29
    go_wp2_with fail
    refine (is_b0 (name_any n _) HN.out).mono ?_
    rintro e w1 ⟨rfl, hd⟩
    have HX1 := Lib.hid (HX.out.step hd)
    clear hd
    obtain ⟨q0, q1, q2, q3⟩ := HX1.out.get 0 rfl
    go_wp2_with fail
    go_ret
    exact ⟨by rw [HE.out]; rfl, HX1.out.bel⟩
  | true =>
    by_cases hl : ss.length = 0
    · cases e5 : valueB x with
      | false =>
        have HE := Lib.hid (show okM 0 n x ss = false by rw [okM_lo (by omega), e1, e5]; simp)
        have HR := Lib.hid e5
        clear e5
        have HN := Lib.hid e1
        clear e1
        have hl1 : ((ss.length : Int) == 0) = true := by rw [beq_iff_eq]; omega
        clear hl
        go_enter Try.func29, Try.ntmps29
        go_wp2_with fail
        refine (is_b0 (name_any n _) HN.out).mono ?_
        rintro e w1 ⟨rfl, hd⟩
        have HX1 := Lib.hid (HX.out.step hd)
        clear hd
        obtain ⟨q0, q1, q2, q3⟩ := HX1.out.get 0 rfl
        go_wp2_with fail
        refine (is_b0 (value_any x _) HR.out).mono ?_
        rintro e w2 ⟨rfl, hd⟩
        have HX2 := Lib.hid (HX1.out.step hd)
        clear hd q0 q1 q2 q3
        obtain ⟨q0, q1, q2, q3⟩ := HX2.out.get 0 rfl
        go_wp2_with fail
        go_ret
        exact ⟨by rw [HE.out]; rfl, HX2.out.bel⟩
      | true =>
        have HE := Lib.hid (show okM 0 n x ss = true by rw [okM_lo (by omega), e1, e5, decide_eq_true hl]; rfl)
        have HR := Lib.hid e5
        clear e5
        have HN := Lib.hid e1
        clear e1
        have hl1 : ((ss.length : Int) == 0) = true := by rw [beq_iff_eq]; omega
        clear hl
        go_enter Try.func29, Try.ntmps29
        go_wp2_with fail
        refine (is_b0 (name_any n _) HN.out).mono ?_
        rintro e w1 ⟨rfl, hd⟩
        have HX1 := Lib.hid (HX.out.step hd)
        clear hd
        obtain ⟨q0, q1, q2, q3⟩ := HX1.out.get 0 rfl
        go_wp2_with fail
        refine (is_b0 (value_any x _) HR.out).mono ?_
        rintro e w2 ⟨rfl, hd⟩
        have HX2 := Lib.hid (HX1.out.step hd)
        clear hd q0 q1 q2 q3
        obtain ⟨q0, q1, q2, q3⟩ := HX2.out.get 0 rfl
        go_wp2_with fail
        go_ret
        exact ⟨by rw [HE.out]; rfl, HX2.out.bel⟩
    · have HE := Lib.hid (show okM 0 n x ss = false by rw [okM_lo (by omega), e1, decide_eq_false hl]; simp)
      have HN := Lib.hid e1
      clear e1
      have hl1 : ((ss.length : Int) == 0) = false := by rw [beq_eq_false_iff_ne]; omega
      clear hl
      go_enter Try.func29, Try.ntmps29
      go_wp2_with fail
      refine (is_b0 (name_any n _) HN.out).mono ?_
      rintro e w1 ⟨rfl, hd⟩
      have HX1 := Lib.hid (HX.out.step hd)
      clear hd
      obtain ⟨q0, q1, q2, q3⟩ := HX1.out.get 0 rfl
      go_wp2_with fail
      go_ret
      exact ⟨by rw [HE.out]; rfl, HX1.out.bel⟩

set_option maxRecDepth 100000 in
set_option maxHeartbeats 2000000 in
theorem mcheck_1 (n x : Bytes) (u : Value) (ss : List Bytes) (w : World) (hu : Strs w u ss) :
    Calls Try.prog 29 #[.agg #[.int .i64 1, .string (bs n), .string (bs x), u]] w fun e w' => e = .returned (.int .i64 (errM (okM 1 n x ss))) ∧ Below w.heap.size w w' := by
  have HU := Lib.hid ((St.start w).add (fun w' => Strs w' u ss) (fun w' hb => hu.below hb))
  obtain ⟨ua, uc, rfl, hu1, hu2, -⟩ := hu
  have HX : Hid (St w (w.alloc (.cells #[.int .i64 1, .string (bs n), .string (bs x), .slice ua ss.length uc] 27)) [fun w' => w'.cell? ⟨w.heap.size, 0, none⟩ = some (.int .i64 1) ∧ w'.cell? ⟨w.heap.size, 1, none⟩ = some (.string (bs n)) ∧ w'.cell? ⟨w.heap.size, 2, none⟩ = some (.string (bs x)) ∧ w'.cell? ⟨w.heap.size, 3, none⟩ = some (.slice ua ss.length uc), fun w' => Strs w' (.slice ua ss.length uc) ss]) :=
    Lib.hid ((HU.out.alloc _).add _ (fun w' hb' => keep4 (by refine ⟨?_, ?_, ?_, ?_⟩ <;> (rw [World.cell?_alloc_at _ _ _ _ rfl]; rfl)) hb'))

  cases e1 : nameB n with
  | false =>
    have HE := Lib.hid (show okM 1 n x ss = false by rw [okM_lo (by omega), e1]; simp)
    have HN := Lib.hid e1
    clear e1
    go_enter Try.func29, Try.ntmps29
    go_wp2_with fail
    refine (is_b0 (name_any n _) HN.out).mono ?_
    rintro e w1 ⟨rfl, hd⟩
    have HX1 := Lib.hid (HX.out.step hd)
    clear hd
    obtain ⟨q0, q1, q2, q3⟩ := HX1.out.get 0 rfl
    go_wp2_with fail
    go_ret
    exact ⟨by rw [HE.out]; rfl, HX1.out.bel⟩
  | true =>
    by_cases hl : ss.length = 0
    · cases e5 : valueB x with
      | false =>
        have HE := Lib.hid (show okM 1 n x ss = false by rw [okM_lo (by omega), e1, e5]; simp)
        have HR := Lib.hid e5
        clear e5
        have HN := Lib.hid e1
        clear e1
        have hl1 : ((ss.length : Int) == 0) = true := by rw [beq_iff_eq]; omega
        clear hl
        go_enter Try.func29, Try.ntmps29
        go_wp2_with fail
        refine (is_b0 (name_any n _) HN.out).mono ?_
        rintro e w1 ⟨rfl, hd⟩
        have HX1 := Lib.hid (HX.out.step hd)
        clear hd
        obtain ⟨q0, q1, q2, q3⟩ := HX1.out.get 0 rfl
        go_wp2_with fail
        refine (is_b0 (value_any x _) HR.out).mono ?_
        rintro e w2 ⟨rfl, hd⟩
        have HX2 := Lib.hid (HX1.out.step hd)
        clear hd q0 q1 q2 q3
        obtain ⟨q0, q1, q2, q3⟩ := HX2.out.get 0 rfl
        go_wp2_with fail
        go_ret
        exact ⟨by rw [HE.out]; rfl, HX2.out.bel⟩
      | true =>
        have HE := Lib.hid (show okM 1 n x ss = true by rw [okM_lo (by omega), e1, e5, decide_eq_true hl]; rfl)
        have HR := Lib.hid e5
        clear e5
        have HN := Lib.hid e1
        clear e1
        have hl1 : ((ss.length : Int) == 0) = true := by rw [beq_iff_eq]; omega
        clear hl
        go_enter Try.func29, Try.ntmps29
        go_wp2_with fail
        refine (is_b0 (name_any n _) HN.out).mono ?_
        rintro e w1 ⟨rfl, hd⟩
        have HX1 := Lib.hid (HX.out.step hd)
        clear hd
        obtain ⟨q0, q1, q2, q3⟩ := HX1.out.get 0 rfl
        go_wp2_with fail
        refine (is_b0 (value_any x _) HR.out).mono ?_
        rintro e w2 ⟨rfl, hd⟩
        have HX2 := Lib.hid (HX1.out.step hd)
        clear hd q0 q1 q2 q3
        obtain ⟨q0, q1, q2, q3⟩ := HX2.out.get 0 rfl
        go_wp2_with fail
        go_ret
        exact ⟨by rw [HE.out]; rfl, HX2.out.bel⟩
    · have HE := Lib.hid (show okM 1 n x ss = false by rw [okM_lo (by omega), e1, decide_eq_false hl]; simp)
      have HN := Lib.hid e1
      clear e1
      have hl1 : ((ss.length : Int) == 0) = false := by rw [beq_eq_false_iff_ne]; omega
      clear hl
      go_enter Try.func29, Try.ntmps29
      go_wp2_with fail
      refine (is_b0 (name_any n _) HN.out).mono ?_
      rintro e w1 ⟨rfl, hd⟩
      have HX1 := Lib.hid (HX.out.step hd)
      clear hd
      obtain ⟨q0, q1, q2, q3⟩ := HX1.out.get 0 rfl
      go_wp2_with fail
      go_ret
      exact ⟨by rw [HE.out]; rfl, HX1.out.bel⟩

set_option maxRecDepth 100000 in
set_option maxHeartbeats 2000000 in
theorem mcheck_2 (n x : Bytes) (u : Value) (ss : List Bytes) (w : World) (hu : Strs w u ss) :
    Calls Try.prog 29 #[.agg #[.int .i64 2, .string (bs n), .string (bs x), u]] w fun e w' => e = .returned (.int .i64 (errM (okM 2 n x ss))) ∧ Below w.heap.size w w' := by
  have HU := Lib.hid ((St.start w).add (fun w' => Strs w' u ss) (fun w' hb => hu.below hb))
  obtain ⟨ua, uc, rfl, hu1, hu2, -⟩ := hu
  have HX : Hid (St w (w.alloc (.cells #[.int .i64 2, .string (bs n), .string (bs x), .slice ua ss.length uc] 27)) [fun w' => w'.cell? ⟨w.heap.size, 0, none⟩ = some (.int .i64 2) ∧ w'.cell? ⟨w.heap.size, 1, none⟩ = some (.string (bs n)) ∧ w'.cell? ⟨w.heap.size, 2, none⟩ = some (.string (bs x)) ∧ w'.cell? ⟨w.heap.size, 3, none⟩ = some (.slice ua ss.length uc), fun w' => Strs w' (.slice ua ss.length uc) ss]) :=
    Lib.hid ((HU.out.alloc _).add _ (fun w' hb' => keep4 (by refine ⟨?_, ?_, ?_, ?_⟩ <;> (rw [World.cell?_alloc_at _ _ _ _ rfl]; rfl)) hb'))

  cases e1 : nameB n with
  | false =>
    have HE := Lib.hid (show okM 2 n x ss = false by rw [okM_lo (by omega), e1]; simp)
    have HN := Lib.hid e1
    clear e1
    go_enter Try.func29, Try.ntmps29
    go_wp2_with fail
    refine (is_b0 (name_any n _) HN.out).mono ?_
    rintro e w1 ⟨rfl, hd⟩
    have HX1 := Lib.hid (HX.out.step hd)
    clear hd
    obtain ⟨q0, q1, q2, q3⟩ := HX1.out.get 0 rfl
    go_wp2_with fail
    go_ret
    exact ⟨by rw [HE.out]; rfl, HX1.out.bel⟩
  | true =>
    by_cases hl : ss.length = 0
    · cases e5 : valueB x with
      | false =>
        have HE := Lib.hid (show okM 2 n x ss = false by rw [okM_lo (by omega), e1, e5]; simp)
        have HR := Lib.hid e5
        clear e5
        have HN := Lib.hid e1
        clear e1
        have hl1 : ((ss.length : Int) == 0) = true := by rw [beq_iff_eq]; omega
        clear hl
        go_enter Try.func29, Try.ntmps29
        go_wp2_with fail
        refine (is_b0 (name_any n _) HN.out).mono ?_
        rintro e w1 ⟨rfl, hd⟩
        have HX1 := Lib.hid (HX.out.step hd)
        clear hd
        obtain ⟨q0, q1, q2, q3⟩ := HX1.out.get 0 rfl
        go_wp2_with fail
        refine (is_b0 (value_any x _) HR.out).mono ?_
        rintro e w2 ⟨rfl, hd⟩
        have HX2 := Lib.hid (HX1.out.step hd)
        clear hd q0 q1 q2 q3
        obtain ⟨q0, q1, q2, q3⟩ := HX2.out.get 0 rfl
        go_wp2_with fail
        go_ret
        exact ⟨by rw [HE.out]; rfl, HX2.out.bel⟩
      | true =>
        have HE := Lib.hid (show okM 2 n x ss = true by rw [okM_lo (by omega), e1, e5, decide_eq_true hl]; rfl)
        have HR := Lib.hid e5
        clear e5
        have HN := Lib.hid e1
        clear e1
        have hl1 : ((ss.length : Int) == 0) = true := by rw [beq_iff_eq]; omega
        clear hl
        go_enter Try.func29, Try.ntmps29
        go_wp2_with fail
        refine (is_b0 (name_any n _) HN.out).mono ?_
        rintro e w1 ⟨rfl, hd⟩
        have HX1 := Lib.hid (HX.out.step hd)
        clear hd
        obtain ⟨q0, q1, q2, q3⟩ := HX1.out.get 0 rfl
        go_wp2_with fail
        refine (is_b0 (value_any x _) HR.out).mono ?_
        rintro e w2 ⟨rfl, hd⟩
        have HX2 := Lib.hid (HX1.out.step hd)
        clear hd q0 q1 q2 q3
        obtain ⟨q0, q1, q2, q3⟩ := HX2.out.get 0 rfl
        go_wp2_with fail
        go_ret
        exact ⟨by rw [HE.out]; rfl, HX2.out.bel⟩
    · have HE := Lib.hid (show okM 2 n x ss = false by rw [okM_lo (by omega), e1, decide_eq_false hl]; simp)
      have HN := Lib.hid e1
      clear e1
      have hl1 : ((ss.length : Int) == 0) = false := by rw [beq_eq_false_iff_ne]; omega
      clear hl
      go_enter Try.func29, Try.ntmps29
      go_wp2_with fail
      refine (is_b0 (name_any n _) HN.out).mono ?_
      rintro e w1 ⟨rfl, hd⟩
      have HX1 := Lib.hid (HX.out.step hd)
      clear hd
      obtain ⟨q0, q1, q2, q3⟩ := HX1.out.get 0 rfl
      go_wp2_with fail
      go_ret
      exact ⟨by rw [HE.out]; rfl, HX1.out.bel⟩

set_option maxRecDepth 100000 in
set_option maxHeartbeats 2000000 in
theorem mcheck_bad (k : Int) (n x : Bytes) (u : Value) (ss : List Bytes) (w : World) (hu : Strs w u ss) (hk : k < 0 ∨ 3 < k) :
    Calls Try.prog 29 #[.agg #[.int .i64 k, .string (bs n), .string (bs x), u]] w fun e w' => e = .returned (.int .i64 (errM (okM k n x ss))) ∧ Below w.heap.size w w' := by
  have HU := Lib.hid ((St.start w).add (fun w' => Strs w' u ss) (fun w' hb => hu.below hb))
  obtain ⟨ua, uc, rfl, hu1, hu2, -⟩ := hu
  have HX : Hid (St w (w.alloc (.cells #[.int .i64 k, .string (bs n), .string (bs x), .slice ua ss.length uc] 27)) [fun w' => w'.cell? ⟨w.heap.size, 0, none⟩ = some (.int .i64 k) ∧ w'.cell? ⟨w.heap.size, 1, none⟩ = some (.string (bs n)) ∧ w'.cell? ⟨w.heap.size, 2, none⟩ = some (.string (bs x)) ∧ w'.cell? ⟨w.heap.size, 3, none⟩ = some (.slice ua ss.length uc), fun w' => Strs w' (.slice ua ss.length uc) ss]) :=
    Lib.hid ((HU.out.alloc _).add _ (fun w' hb' => keep4 (by refine ⟨?_, ?_, ?_, ?_⟩ <;> (rw [World.cell?_alloc_at _ _ _ _ rfl]; rfl)) hb'))
  have hk3 : (k == 3) = false := by rw [beq_eq_false_iff_ne]; omega
  have hk0 : (k == 0) = false := by rw [beq_eq_false_iff_ne]; omega
  have hk1 : (k == 1) = false := by rw [beq_eq_false_iff_ne]; omega
  have hk2 : (k == 2) = false := by rw [beq_eq_false_iff_ne]; omega
  have HE := Lib.hid (okM_bad hk n x ss)
  cases e1 : nameB n with
  | false =>
    have HN := Lib.hid e1
    clear e1
    clear hk
    go_enter Try.func29, Try.ntmps29
    go_wp2_with fail
    refine (is_b0 (name_any n _) HN.out).mono ?_
    rintro e w1 ⟨rfl, hd⟩
    have HX1 := Lib.hid (HX.out.step hd)
    clear hd
    obtain ⟨q0, q1, q2, q3⟩ := HX1.out.get 0 rfl
    go_wp2_with fail
    go_ret
    exact ⟨by rw [HE.out]; rfl, HX1.out.bel⟩
  | true =>
    have HN := Lib.hid e1
    clear e1
    clear hk
    go_enter Try.func29, Try.ntmps29
    go_wp2_with fail
    refine (is_b0 (name_any n _) HN.out).mono ?_
    rintro e w1 ⟨rfl, hd⟩
    have HX1 := Lib.hid (HX.out.step hd)
    clear hd
    obtain ⟨q0, q1, q2, q3⟩ := HX1.out.get 0 rfl
    go_wp2_with fail
    go_ret
    exact ⟨by rw [HE.out]; rfl, HX1.out.bel⟩

theorem mcheck_any (k : Int) (n x : Bytes) (u : Value) (ss : List Bytes) (w : World) (hu : Strs w u ss) :
    Calls Try.prog 29 #[.agg #[.int .i64 k, .string (bs n), .string (bs x), u]] w fun e w' => e = .returned (.int .i64 (errM (okM k n x ss))) ∧ Below w.heap.size w w' := by
  by_cases h : k < 0 ∨ 3 < k
  · exact mcheck_bad k n x u ss w hu h
  · rcases (by omega : k = 0 ∨ k = 1 ∨ k = 2 ∨ k = 3) with rfl | rfl | rfl | rfl
    · exact mcheck_0 n x u ss w hu
    · exact mcheck_1 n x u ss w hu
    · exact mcheck_2 n x u ss w hu
    · exact mcheck_3 n x u ss w hu

end Go.Proofs.Ytamdkmcdleilpaa
