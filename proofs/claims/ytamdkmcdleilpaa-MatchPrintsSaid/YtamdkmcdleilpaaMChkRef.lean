/-
  The reference's Check of a matcher.
-/
import Derived.Test.YtamdkmcdleilpaaMChk
import Derived.Test.YtamdkmcdleilpaaChkRef
namespace Go.Proofs.Ytamdkmcdleilpaa
open Go.RowKit

theorem nil_bne {x : Bytes} {b : Bool} (h : (x == []) = b) : (x != []) = !b := by rw [← h]; rfl

set_option maxRecDepth 100000 in
set_option maxHeartbeats 4000000 in
theorem mref_0 (n x : Bytes) (u : Value) (ss : List Bytes) (w : World) (hu : Strs w u ss) :
    Calls Try.prog 30 #[.agg #[.int .i64 0, .string (bs n), .string (bs x), u]] w fun e w' => e = .returned (.int .i64 (errM (okM 0 n x ss))) ∧ Below w.heap.size w w' := by
  have HU := Lib.hid ((St.start w).add (fun w' => Strs w' u ss) (fun w' hb => hu.below hb))
  obtain ⟨ua, uc, rfl, hu1, hu2, -⟩ := hu
  have HX : Hid (St w (w.alloc (.cells #[.int .i64 0, .string (bs n), .string (bs x), .slice ua ss.length uc] 27)) [fun w' => w'.cell? ⟨w.heap.size, 0, none⟩ = some (.int .i64 0) ∧ w'.cell? ⟨w.heap.size, 1, none⟩ = some (.string (bs n)) ∧ w'.cell? ⟨w.heap.size, 2, none⟩ = some (.string (bs x)) ∧ w'.cell? ⟨w.heap.size, 3, none⟩ = some (.slice ua ss.length uc), fun w' => Strs w' (.slice ua ss.length uc) ss]) :=
    Lib.hid ((HU.out.alloc _).add _ (fun w' hb' => keep4 (by refine ⟨?_, ?_, ?_, ?_⟩ <;> (rw [World.cell?_alloc_at _ _ _ _ rfl]; rfl)) hb'))

  cases e1 : nameB n with
  | false =>
    have HE := Lib.hid (show okM 0 n x ss = false by rw [okM_lo (by omega), e1]; simp)
    have HN := Lib.hid e1
    clear e1
    go_enter Try.func30, Try.ntmps30
    go_wp2_with fail
    refine (is_b0 (refName_any n _) HN.out).mono ?_
    rintro e w1 ⟨rfl, rfl⟩
    go_wp2_with fail
    go_ret
    exact ⟨by rw [HE.out]; rfl, HX.out.bel⟩
  | true =>
    cases e5 : valueB x with
    | false =>
      have HE := Lib.hid (show okM 0 n x ss = false by rw [okM_lo (by omega), e1, e5]; simp)
      have HR := Lib.hid e5
      clear e5
      have HN := Lib.hid e1
      clear e1
      go_enter Try.func30, Try.ntmps30
      go_wp2_with fail
      refine (is_b0 (refName_any n _) HN.out).mono ?_
      rintro e w1 ⟨rfl, rfl⟩
      go_wp2_with fail
      refine (is_b0 (refValue_any x _) HR.out).mono ?_
      rintro e w2 ⟨rfl, rfl⟩
      go_wp2_with fail
      go_ret
      exact ⟨by rw [HE.out]; rfl, HX.out.bel⟩
    | true =>
      by_cases hl : ss.length = 0
      · have hl1 : ((ss.length : Int) == 0) = true := by rw [beq_iff_eq]; omega
        have HE := Lib.hid (show okM 0 n x ss = true by rw [okM_lo (by omega), e1, e5, decide_eq_true hl]; rfl)
        clear hl
        have HR := Lib.hid e5
        clear e5
        have HN := Lib.hid e1
        clear e1
        go_enter Try.func30, Try.ntmps30
        go_wp2_with fail
        refine (is_b0 (refName_any n _) HN.out).mono ?_
        rintro e w1 ⟨rfl, rfl⟩
        go_wp2_with fail
        refine (is_b0 (refValue_any x _) HR.out).mono ?_
        rintro e w2 ⟨rfl, rfl⟩
        go_wp2_with fail
        go_ret
        exact ⟨by rw [HE.out]; rfl, HX.out.bel⟩
      · have hl1 : ((ss.length : Int) == 0) = false := by rw [beq_eq_false_iff_ne]; omega
        have HE := Lib.hid (show okM 0 n x ss = false by rw [okM_lo (by omega), e1, decide_eq_false hl]; simp)
        clear hl
        have HR := Lib.hid e5
        clear e5
        have HN := Lib.hid e1
        clear e1
        go_enter Try.func30, Try.ntmps30
        go_wp2_with fail
        refine (is_b0 (refName_any n _) HN.out).mono ?_
        rintro e w1 ⟨rfl, rfl⟩
        go_wp2_with fail
        refine (is_b0 (refValue_any x _) HR.out).mono ?_
        rintro e w2 ⟨rfl, rfl⟩
        go_wp2_with fail
        go_ret
        exact ⟨by rw [HE.out]; rfl, HX.out.bel⟩

set_option maxRecDepth 100000 in
set_option maxHeartbeats 4000000 in
theorem mref_1 (n x : Bytes) (u : Value) (ss : List Bytes) (w : World) (hu : Strs w u ss) :
    Calls Try.prog 30 #[.agg #[.int .i64 1, .string (bs n), .string (bs x), u]] w fun e w' => e = .returned (.int .i64 (errM (okM 1 n x ss))) ∧ Below w.heap.size w w' := by
  have HU := Lib.hid ((St.start w).add (fun w' => Strs w' u ss) (fun w' hb => hu.below hb))
  obtain ⟨ua, uc, rfl, hu1, hu2, -⟩ := hu
  have HX : Hid (St w (w.alloc (.cells #[.int .i64 1, .string (bs n), .string (bs x), .slice ua ss.length uc] 27)) [fun w' => w'.cell? ⟨w.heap.size, 0, none⟩ = some (.int .i64 1) ∧ w'.cell? ⟨w.heap.size, 1, none⟩ = some (.string (bs n)) ∧ w'.cell? ⟨w.heap.size, 2, none⟩ = some (.string (bs x)) ∧ w'.cell? ⟨w.heap.size, 3, none⟩ = some (.slice ua ss.length uc), fun w' => Strs w' (.slice ua ss.length uc) ss]) :=
    Lib.hid ((HU.out.alloc _).add _ (fun w' hb' => keep4 (by refine ⟨?_, ?_, ?_, ?_⟩ <;> (rw [World.cell?_alloc_at _ _ _ _ rfl]; rfl)) hb'))

  cases e1 : nameB n with
  | false =>
    have HE := Lib.hid (show okM 1 n x ss = false by rw [okM_lo (by omega), e1]; simp)
    have HN := Lib.hid e1
    clear e1
    go_enter Try.func30, Try.ntmps30
    go_wp2_with fail
    refine (is_b0 (refName_any n _) HN.out).mono ?_
    rintro e w1 ⟨rfl, rfl⟩
    go_wp2_with fail
    go_ret
    exact ⟨by rw [HE.out]; rfl, HX.out.bel⟩
  | true =>
    cases e5 : valueB x with
    | false =>
      have HE := Lib.hid (show okM 1 n x ss = false by rw [okM_lo (by omega), e1, e5]; simp)
      have HR := Lib.hid e5
      clear e5
      have HN := Lib.hid e1
      clear e1
      go_enter Try.func30, Try.ntmps30
      go_wp2_with fail
      refine (is_b0 (refName_any n _) HN.out).mono ?_
      rintro e w1 ⟨rfl, rfl⟩
      go_wp2_with fail
      refine (is_b0 (refValue_any x _) HR.out).mono ?_
      rintro e w2 ⟨rfl, rfl⟩
      go_wp2_with fail
      go_ret
      exact ⟨by rw [HE.out]; rfl, HX.out.bel⟩
    | true =>
      by_cases hl : ss.length = 0
      · have hl1 : ((ss.length : Int) == 0) = true := by rw [beq_iff_eq]; omega
        have HE := Lib.hid (show okM 1 n x ss = true by rw [okM_lo (by omega), e1, e5, decide_eq_true hl]; rfl)
        clear hl
        have HR := Lib.hid e5
        clear e5
        have HN := Lib.hid e1
        clear e1
        go_enter Try.func30, Try.ntmps30
        go_wp2_with fail
        refine (is_b0 (refName_any n _) HN.out).mono ?_
        rintro e w1 ⟨rfl, rfl⟩
        go_wp2_with fail
        refine (is_b0 (refValue_any x _) HR.out).mono ?_
        rintro e w2 ⟨rfl, rfl⟩
        go_wp2_with fail
        go_ret
        exact ⟨by rw [HE.out]; rfl, HX.out.bel⟩
      · have hl1 : ((ss.length : Int) == 0) = false := by rw [beq_eq_false_iff_ne]; omega
        have HE := Lib.hid (show okM 1 n x ss = false by rw [okM_lo (by omega), e1, decide_eq_false hl]; simp)
        clear hl
        have HR := Lib.hid e5
        clear e5
        have HN := Lib.hid e1
        clear e1
        go_enter Try.func30, Try.ntmps30
        go_wp2_with fail
        refine (is_b0 (refName_any n _) HN.out).mono ?_
        rintro e w1 ⟨rfl, rfl⟩
        go_wp2_with fail
        refine (is_b0 (refValue_any x _) HR.out).mono ?_
        rintro e w2 ⟨rfl, rfl⟩
        go_wp2_with fail
        go_ret
        exact ⟨by rw [HE.out]; rfl, HX.out.bel⟩

set_option maxRecDepth 100000 in
set_option maxHeartbeats 4000000 in
theorem mref_2 (n x : Bytes) (u : Value) (ss : List Bytes) (w : World) (hu : Strs w u ss) :
    Calls Try.prog 30 #[.agg #[.int .i64 2, .string (bs n), .string (bs x), u]] w fun e w' => e = .returned (.int .i64 (errM (okM 2 n x ss))) ∧ Below w.heap.size w w' := by
  have HU := Lib.hid ((St.start w).add (fun w' => Strs w' u ss) (fun w' hb => hu.below hb))
  obtain ⟨ua, uc, rfl, hu1, hu2, -⟩ := hu
  have HX : Hid (St w (w.alloc (.cells #[.int .i64 2, .string (bs n), .string (bs x), .slice ua ss.length uc] 27)) [fun w' => w'.cell? ⟨w.heap.size, 0, none⟩ = some (.int .i64 2) ∧ w'.cell? ⟨w.heap.size, 1, none⟩ = some (.string (bs n)) ∧ w'.cell? ⟨w.heap.size, 2, none⟩ = some (.string (bs x)) ∧ w'.cell? ⟨w.heap.size, 3, none⟩ = some (.slice ua ss.length uc), fun w' => Strs w' (.slice ua ss.length uc) ss]) :=
    Lib.hid ((HU.out.alloc _).add _ (fun w' hb' => keep4 (by refine ⟨?_, ?_, ?_, ?_⟩ <;> (rw [World.cell?_alloc_at _ _ _ _ rfl]; rfl)) hb'))

  cases e1 : nameB n with
  | false =>
    have HE := Lib.hid (show okM 2 n x ss = false by rw [okM_lo (by omega), e1]; simp)
    have HN := Lib.hid e1
    clear e1
    go_enter Try.func30, Try.ntmps30
    go_wp2_with fail
    refine (is_b0 (refName_any n _) HN.out).mono ?_
    rintro e w1 ⟨rfl, rfl⟩
    go_wp2_with fail
    go_ret
    exact ⟨by rw [HE.out]; rfl, HX.out.bel⟩
  | true =>
    cases e5 : valueB x with
    | false =>
      have HE := Lib.hid (show okM 2 n x ss = false by rw [okM_lo (by omega), e1, e5]; simp)
      have HR := Lib.hid e5
      clear e5
      have HN := Lib.hid e1
      clear e1
      go_enter Try.func30, Try.ntmps30
      go_wp2_with fail
      refine (is_b0 (refName_any n _) HN.out).mono ?_
      rintro e w1 ⟨rfl, rfl⟩
      go_wp2_with fail
      refine (is_b0 (refValue_any x _) HR.out).mono ?_
      rintro e w2 ⟨rfl, rfl⟩
      go_wp2_with fail
      go_ret
      exact ⟨by rw [HE.out]; rfl, HX.out.bel⟩
    | true =>
      by_cases hl : ss.length = 0
      · have hl1 : ((ss.length : Int) == 0) = true := by rw [beq_iff_eq]; omega
        have HE := Lib.hid (show okM 2 n x ss = true by rw [okM_lo (by omega), e1, e5, decide_eq_true hl]; rfl)
        clear hl
        have HR := Lib.hid e5
        clear e5
        have HN := Lib.hid e1
        clear e1
        go_enter Try.func30, Try.ntmps30
        go_wp2_with fail
        refine (is_b0 (refName_any n _) HN.out).mono ?_
        rintro e w1 ⟨rfl, rfl⟩
        go_wp2_with fail
        refine (is_b0 (refValue_any x _) HR.out).mono ?_
        rintro e w2 ⟨rfl, rfl⟩
        go_wp2_with fail
        go_ret
        exact ⟨by rw [HE.out]; rfl, HX.out.bel⟩
      · have hl1 : ((ss.length : Int) == 0) = false := by rw [beq_eq_false_iff_ne]; omega
        have HE := Lib.hid (show okM 2 n x ss = false by rw [okM_lo (by omega), e1, decide_eq_false hl]; simp)
        clear hl
        have HR := Lib.hid e5
        clear e5
        have HN := Lib.hid e1
        clear e1
        go_enter Try.func30, Try.ntmps30
        go_wp2_with fail
        refine (is_b0 (refName_any n _) HN.out).mono ?_
        rintro e w1 ⟨rfl, rfl⟩
        go_wp2_with fail
        refine (is_b0 (refValue_any x _) HR.out).mono ?_
        rintro e w2 ⟨rfl, rfl⟩
        go_wp2_with fail
        go_ret
        exact ⟨by rw [HE.out]; rfl, HX.out.bel⟩

set_option maxRecDepth 100000 in
set_option maxHeartbeats 4000000 in
theorem mref_bad (k : Int) (n x : Bytes) (u : Value) (ss : List Bytes) (w : World) (hu : Strs w u ss) (hk : k < 0 ∨ 3 < k) :
    Calls Try.prog 30 #[.agg #[.int .i64 k, .string (bs n), .string (bs x), u]] w fun e w' => e = .returned (.int .i64 (errM (okM k n x ss))) ∧ Below w.heap.size w w' := by
  have HU := Lib.hid ((St.start w).add (fun w' => Strs w' u ss) (fun w' hb => hu.below hb))
  obtain ⟨ua, uc, rfl, hu1, hu2, -⟩ := hu
  have HX : Hid (St w (w.alloc (.cells #[.int .i64 k, .string (bs n), .string (bs x), .slice ua ss.length uc] 27)) [fun w' => w'.cell? ⟨w.heap.size, 0, none⟩ = some (.int .i64 k) ∧ w'.cell? ⟨w.heap.size, 1, none⟩ = some (.string (bs n)) ∧ w'.cell? ⟨w.heap.size, 2, none⟩ = some (.string (bs x)) ∧ w'.cell? ⟨w.heap.size, 3, none⟩ = some (.slice ua ss.length uc), fun w' => Strs w' (.slice ua ss.length uc) ss]) :=
    Lib.hid ((HU.out.alloc _).add _ (fun w' hb' => keep4 (by refine ⟨?_, ?_, ?_, ?_⟩ <;> (rw [World.cell?_alloc_at _ _ _ _ rfl]; rfl)) hb'))
  have hk3 : (k != 3) = true := by rw [bne_iff_ne]; omega
  have HE := Lib.hid (okM_bad hk n x ss)
  rcases hk with hk | hk
  · have hq : decide ((0 : Int) ≤ k) = false := decide_eq_false (by omega)
    cases e1 : nameB n with
    | false =>
      have HN := Lib.hid e1
      clear e1
      go_enter Try.func30, Try.ntmps30
      go_wp2_with fail
      refine (is_b0 (refName_any n _) HN.out).mono ?_
      rintro e w1 ⟨rfl, rfl⟩
      go_wp2_with fail
      go_ret
      exact ⟨by rw [HE.out]; rfl, HX.out.bel⟩
    | true =>
      have HN := Lib.hid e1
      clear e1
      go_enter Try.func30, Try.ntmps30
      go_wp2_with fail
      refine (is_b0 (refName_any n _) HN.out).mono ?_
      rintro e w1 ⟨rfl, rfl⟩
      go_wp2_with fail
      go_ret
      exact ⟨by rw [HE.out]; rfl, HX.out.bel⟩
  · have hq : decide (k < (3 : Int)) = false := decide_eq_false (by omega)
    cases e1 : nameB n with
    | false =>
      have HN := Lib.hid e1
      clear e1
      go_enter Try.func30, Try.ntmps30
      go_wp2_with fail
      refine (is_b0 (refName_any n _) HN.out).mono ?_
      rintro e w1 ⟨rfl, rfl⟩
      go_wp2_with fail
      go_ret
      exact ⟨by rw [HE.out]; rfl, HX.out.bel⟩
    | true =>
      have HN := Lib.hid e1
      clear e1
      go_enter Try.func30, Try.ntmps30
      go_wp2_with fail
      refine (is_b0 (refName_any n _) HN.out).mono ?_
      rintro e w1 ⟨rfl, rfl⟩
      go_wp2_with fail
      go_ret
      exact ⟨by rw [HE.out]; rfl, HX.out.bel⟩

set_option maxRecDepth 100000 in
set_option maxHeartbeats 4000000 in
theorem mref_3 (n x : Bytes) (u : Value) (ss : List Bytes) (w : World) (hu : Strs w u ss) :
    Calls Try.prog 30 #[.agg #[.int .i64 3, .string (bs n), .string (bs x), u]] w fun e w' => e = .returned (.int .i64 (errM (okM 3 n x ss))) ∧ Below w.heap.size w w' := by
  have HU := Lib.hid ((St.start w).add (fun w' => Strs w' u ss) (fun w' hb => hu.below hb))
  obtain ⟨ua, uc, rfl, hu1, hu2, -⟩ := hu
  have HX : Hid (St w (w.alloc (.cells #[.int .i64 3, .string (bs n), .string (bs x), .slice ua ss.length uc] 27)) [fun w' => w'.cell? ⟨w.heap.size, 0, none⟩ = some (.int .i64 3) ∧ w'.cell? ⟨w.heap.size, 1, none⟩ = some (.string (bs n)) ∧ w'.cell? ⟨w.heap.size, 2, none⟩ = some (.string (bs x)) ∧ w'.cell? ⟨w.heap.size, 3, none⟩ = some (.slice ua ss.length uc), fun w' => Strs w' (.slice ua ss.length uc) ss]) :=
    Lib.hid ((HU.out.alloc _).add _ (fun w' hb' => keep4 (by refine ⟨?_, ?_, ?_, ?_⟩ <;> (rw [World.cell?_alloc_at _ _ _ _ rfl]; rfl)) hb'))

  cases e1 : nameB n with
  | false =>
    have HE := Lib.hid (show okM 3 n x ss = false by rw [okM_3, e1]; simp)
    have HN := Lib.hid e1
    clear e1
    go_enter Try.func30, Try.ntmps30
    go_wp2_with fail
    refine (is_b0 (refName_any n _) HN.out).mono ?_
    rintro e w1 ⟨rfl, rfl⟩
    go_wp2_with fail
    go_ret
    exact ⟨by rw [HE.out]; rfl, HX.out.bel⟩
  | true =>
    cases e4 : (x == ([] : Bytes)) with
    | false =>
      have e4b := nil_beq e4
      have e4c := nil_bne e4
      have HE := Lib.hid (show okM 3 n x ss = false by rw [okM_3, e1, e4]; simp)
      have HN := Lib.hid e1
      clear e1
      go_enter Try.func30, Try.ntmps30
      go_wp2_with fail
      refine (is_b0 (refName_any n _) HN.out).mono ?_
      rintro e w1 ⟨rfl, rfl⟩
      go_wp2_with fail
      go_ret
      exact ⟨by rw [HE.out]; rfl, HX.out.bel⟩
    | true =>
      have e4b := nil_beq e4
      have e4c := nil_bne e4
      by_cases hl1 : 0 < ss.length
      · by_cases hl2 : ss.length ≤ 8
        · have HO := Lib.hid (show okM 3 n x ss = riseF true [] ss by rw [okM_3, e1, e4, decide_eq_true hl1, decide_eq_true hl2]; simp)
          have HN := Lib.hid e1
          clear e1
          go_enter Try.func30, Try.ntmps30
          go_wp2_with fail
          refine (is_b0 (refName_any n _) HN.out).mono ?_
          rintro e w1 ⟨rfl, rfl⟩
          go_wp2_with fail
          go_loopw [3] (fun j wr => ∃ (i : Nat) (last : Bytes), i ≤ ss.length ∧ j = .int .i64 i ∧ (0 < i → ss.getD (i - 1) [] = last) ∧ St w wr [fun w' => w'.cell? ⟨w.heap.size, 0, none⟩ = some (.int .i64 3) ∧ w'.cell? ⟨w.heap.size, 1, none⟩ = some (.string (bs n)) ∧ w'.cell? ⟨w.heap.size, 2, none⟩ = some (.string (bs x)) ∧ w'.cell? ⟨w.heap.size, 3, none⟩ = some (.slice ua ss.length uc), fun w' => Strs w' (.slice ua ss.length uc) ss] ∧ riseF (decide (i = 0)) last (ss.drop i) = riseF true [] ss)
            (fun j wr => ss.length - (intOf j).toNat)
          case atStart => exact ⟨0, [], Nat.zero_le _, rfl, fun h => absurd h (by omega), HX.out, rfl⟩
          case round =>
            obtain ⟨i, last, hk, rfl, hla, hbl, hg⟩ := hrel
            have HB := Lib.hid hbl
            have HG := Lib.hid hg
            have HLA := Lib.hid hla
            clear hg hbl hla
            obtain ⟨q0, q1, q2, q3⟩ := HB.out.get 0 rfl
            by_cases hlt : i < ss.length
            · obtain ⟨b, off, rfl, hb, hc1⟩ := (HB.out.get 1 rfl).at_ hlt
              have HS := Lib.hid (HG.out.symm.trans (riseF_step hlt))
              have HNX := Lib.hid (show 0 < i + 1 → ss.getD (i + 1 - 1) [] = ss.getD i [] from fun _ => rfl)
              have HPV := Lib.hid (fun (h : 0 < i) => ((HB.out.get 1 rfl).at_ (i := i - 1) (by omega)))
              generalize ss.getD i [] = v at *
              cases e6 : valueB v with
              | false =>
                have HE := Lib.hid (show riseF true [] ss = false by rw [HS.out, e6]; simp)
                have HVV := Lib.hid e6
                clear e6 HS
                go_wp2_with fail
                go_quiet (((go_at_call 27; exact Calls.quiet_of_same (refValue_c HVV.out))))
                go_wp2_with fail
                go_ret
                exact ⟨by rw [HO.out, HE.out]; rfl, (HB.out.drew _).bel⟩
              | true =>
                by_cases hk0 : 0 < i
                · have hg0 : decide ((0 : Int) < (i : Int)) = true := decide_eq_true (by omega)
                  have hw1 : IntKind.i64.wrap ((i : Int) - 1) = (i : Int) - 1 := IntWalk.i64_in _ (by omega)
                  have hw2 : (0 : Int) ≤ (i : Int) - 1 := by omega
                  have hw3 : ((i : Int) - 1).toNat = i - 1 := by omega
                  have hw4 : (i : Int) - 1 < (ss.length : Int) := by omega
                  obtain ⟨b', off', hbb, -, hp1⟩ := HPV.out hk0
                  obtain ⟨rfl, rfl⟩ : b = b' ∧ off = off' := by simpa using hbb
                  rw [HLA.out hk0] at hp1
                  clear hbb
                  cases e2 : Op.bytesLess v last with
                  | false =>
                    cases e3 : (v == last) with
                    | false =>
                      have HE := Lib.hid (show riseF (decide (i + 1 = 0)) v (ss.drop (i + 1)) = riseF true [] ss by rw [HS.out, e6, show leB v last = false by unfold leB; rw [e2, e3]; rfl]; simp)
                      have HVV := Lib.hid e6
                      clear e6 HS
                      go_wp2_with fail
                      go_quiet (((go_at_call 27; exact Calls.quiet_of_same (refValue_c HVV.out))))
                      go_wp2_with fail
                      go_roundw
                      case rel => exact ⟨i + 1, v, by omega, by go_num, HNX.out, HB.out.drew _, HE.out⟩
                      case measure => simp [intOf]; omega
                    | true =>
                      have HE := Lib.hid (show riseF true [] ss = false by rw [HS.out, e6, show decide (i = 0) = false from decide_eq_false (by omega), show leB v last = true by unfold leB; rw [e2, e3]; rfl]; simp)
                      have HVV := Lib.hid e6
                      clear e6 HS
                      go_wp2_with fail
                      go_quiet (((go_at_call 27; exact Calls.quiet_of_same (refValue_c HVV.out))))
                      go_wp2_with fail
                      go_ret
                      exact ⟨by rw [HO.out, HE.out]; rfl, (HB.out.drew _).bel⟩
                  | true =>
                    have HE := Lib.hid (show riseF true [] ss = false by rw [HS.out, e6, show decide (i = 0) = false from decide_eq_false (by omega), show leB v last = true by unfold leB; rw [e2]; rfl]; simp)
                    have HVV := Lib.hid e6
                    clear e6 HS
                    go_wp2_with fail
                    go_quiet (((go_at_call 27; exact Calls.quiet_of_same (refValue_c HVV.out))))
                    go_wp2_with fail
                    go_ret
                    exact ⟨by rw [HO.out, HE.out]; rfl, (HB.out.drew _).bel⟩
                · have hg0 : decide ((0 : Int) < (i : Int)) = false := decide_eq_false (by omega)
                  have HE := Lib.hid (show riseF (decide (i + 1 = 0)) v (ss.drop (i + 1)) = riseF true [] ss by rw [HS.out, e6, show decide (i = 0) = true from decide_eq_true (by omega)]; simp)
                  have HVV := Lib.hid e6
                  clear e6 HS
                  go_wp2_with fail
                  go_quiet (((go_at_call 27; exact Calls.quiet_of_same (refValue_c HVV.out))))
                  go_wp2_with fail
                  go_roundw
                  case rel => exact ⟨i + 1, v, by omega, by go_num, HNX.out, HB.out.drew _, HE.out⟩
                  case measure => simp [intOf]; omega
            · have HE := Lib.hid (show riseF true [] ss = true by rw [← HG.out, List.drop_eq_nil_of_le (by omega)]; rfl)
              go_wp2_with fail
              go_ret
              exact ⟨by rw [HO.out, HE.out]; rfl, HB.out.bel⟩
        · have HE := Lib.hid (show okM 3 n x ss = false by rw [okM_3, e1, e4, decide_eq_false hl2]; simp)
          have HN := Lib.hid e1
          clear e1
          go_enter Try.func30, Try.ntmps30
          go_wp2_with fail
          refine (is_b0 (refName_any n _) HN.out).mono ?_
          rintro e w1 ⟨rfl, rfl⟩
          go_wp2_with fail
          go_ret
          exact ⟨by rw [HE.out]; rfl, HX.out.bel⟩
      · have HE := Lib.hid (show okM 3 n x ss = false by rw [okM_3, e1, e4, decide_eq_false hl1]; simp)
        have HN := Lib.hid e1
        clear e1
        go_enter Try.func30, Try.ntmps30
        go_wp2_with fail
        refine (is_b0 (refName_any n _) HN.out).mono ?_
        rintro e w1 ⟨rfl, rfl⟩
        go_wp2_with fail
        go_ret
        exact ⟨by rw [HE.out]; rfl, HX.out.bel⟩

theorem mref_any (k : Int) (n x : Bytes) (u : Value) (ss : List Bytes) (w : World) (hu : Strs w u ss) :
    Calls Try.prog 30 #[.agg #[.int .i64 k, .string (bs n), .string (bs x), u]] w fun e w' => e = .returned (.int .i64 (errM (okM k n x ss))) ∧ Below w.heap.size w w' := by
  by_cases h : k < 0 ∨ 3 < k
  · exact mref_bad k n x u ss w hu h
  · rcases (by omega : k = 0 ∨ k = 1 ∨ k = 2 ∨ k = 3) with rfl | rfl | rfl | rfl
    · exact mref_0 n x u ss w hu
    · exact mref_1 n x u ss w hu
    · exact mref_2 n x u ss w hu
    · exact mref_3 n x u ss w hu

end Go.Proofs.Ytamdkmcdleilpaa
